/- Entries, read. No conditions. -/
import Derived.Test.YtddncgnjakhclaaDoorScP2
set_option linter.unusedVariables false
set_option linter.unusedSimpArgs false
set_option maxRecDepth 100000
open Go Go.Am Go.Proofs
namespace Go.Am.Scr
structure Sp where
  kind : Int
  n : Int
  part : Int
  name : ByteArray
  o : Op'
abbrev spA (s : Sp) : AV := .agg [i64 s.kind, i64 s.n, i64 s.part, .str s.name, i64 s.o.kind, .str s.o.node.name, i64 s.o.node.cap.a, i64 s.o.node.cap.b, i64 s.o.node.cap.c, lbs s.o.node.labels, .str s.o.queue.name, i64 s.o.queue.quota.a, i64 s.o.queue.quota.b, i64 s.o.queue.quota.c,
  .str s.o.task.name, .str s.o.task.queue, i64 s.o.task.prio, i64 s.o.task.need.a, i64 s.o.task.need.b, i64 s.o.task.need.c, lbs s.o.task.wants, .str s.o.task.apart, .str s.o.task.gang, i64 s.o.task.size, .str s.o.name]
def op0 : Op' := ⟨0, nd0, qu0, tk0, e0⟩
def recN (n : Nat) : Int := if n = 255 then -1 else n
def stF (kind : Nat) (r : Rd) : Sp × Nat :=
  match kind with
  | 1 => (⟨1, 0, 0, e0, (opF r).1⟩, (opF r).2)
  | 2 => (⟨2, at' 0 r, 0, e0, op0⟩, 1)
  | 4 => (⟨4, at' 0 r, 0, e0, op0⟩, 1)
  | 5 => (⟨5, at' 0 r, 0, e0, op0⟩, 1)
  | 6 => (⟨6, at' 0 r, 0, e0, op0⟩, 1)
  | 7 => (⟨7, 0, 0, nameS sN 8 r, op0⟩, 1)
  | 8 => (⟨8, at' 0 r, at' 1 r, e0, op0⟩, 2)
  | 10 => (⟨10, recN (at' 0 r), at' 1 r, e0, op0⟩, 2)
  | k => (⟨k, 0, 0, e0, op0⟩, 0)
theorem entry_ok (kind : Nat) (hk : 1 ≤ kind ∧ kind ≤ 11) (r : Rd) : AC PR 14 [.ptr 0 0 0, .int .i64 kind] (RH r) (spA (stF kind r).1) (RH (after (stF kind r).2 r)) := by
  have l0 := one_lt r
  apply A14
  obtain ⟨h1, h2⟩ := hk
  obtain rfl | rfl | rfl | rfl | rfl | rfl | rfl | rfl | rfl | rfl | rfl : kind = 1 ∨ kind = 2 ∨ kind = 3 ∨ kind = 4 ∨ kind = 5 ∨ kind = 6 ∨ kind = 7 ∨ kind = 8 ∨ kind = 9 ∨ kind = 10 ∨ kind = 11 := by omega
  · conv => whnf
    refine call_fr [0] [] (RH (after (opF r).2 r)) (op_ok r) ?_
    conv => whnf
    exact at_end [some 0]
  · conv => whnf
    refine call_fr [0] [] (RH (after 1 r)) (one_ok r) ?_
    conv => whnf
    exact at_end [some 0]
  · conv => whnf
    exact at_end [some 0]
  · conv => whnf
    refine call_fr [0] [] (RH (after 1 r)) (one_ok r) ?_
    conv => whnf
    exact at_end [some 0]
  · conv => whnf
    refine call_fr [0] [] (RH (after 1 r)) (one_ok r) ?_
    conv => whnf
    exact at_end [some 0]
  · conv => whnf
    refine call_fr [0] [] (RH (after 1 r)) (one_ok r) ?_
    conv => whnf
    exact at_end [some 0]
  · conv => whnf
    refine call_fr [0] [] (RH (after 1 r)) (name_ok sN (by decide) 8 (by omega) (by omega) r) ?_
    conv => whnf
    exact at_end [some 0]
  · conv => whnf
    refine call_fr [0] [] (RH (after 1 r)) (one_ok r) ?_
    conv => whnf
    refine call_fr [0] [] (RH (after 2 r)) (one_ok (after 1 r)) ?_
    conv => whnf
    exact at_end [some 0]
  · conv => whnf
    exact at_end [some 0]
  · conv => whnf
    refine call_fr [0] [] (RH (after 1 r)) (one_ok r) ?_
    conv => whnf
    refine call_fr [0] [] (RH (after 2 r)) (one_ok (after 1 r)) ?_
    conv => whnf
    refine cond_b (fun h => ?_) (fun h => ?_)
    · have hn : recN (at' 0 r) = -1 := if_pos (by have := of_decide_eq_true h; have e : (one r).1 = at' 0 r := rfl; omega)
      conv => whnf
      rw [show spA (stF 10 r).1 = spA ⟨10, -1, at' 1 r, e0, op0⟩ by simp only [stF, hn]]
      exact at_end [some 0]
    · have hn : recN (at' 0 r) = at' 0 r := if_neg (by have := of_decide_eq_false h; have e : (one r).1 = at' 0 r := rfl; omega)
      conv => whnf
      rw [show spA (stF 10 r).1 = spA ⟨10, at' 0 r, at' 1 r, e0, op0⟩ by simp only [stF, hn]]
      exact at_end [some 0]
  · conv => whnf
    exact at_end [some 0]
theorem rentry_ok (kind : Nat) (hk : 1 ≤ kind ∧ kind ≤ 11) {s : ByteArray} {p : Nat} {r : Rd} (h : Pos s p r) (hs : (s.size : Int) ≤ 100000) : ∃ p', Pos s p' (after (stF kind r).2 r) ∧ AC PR 16 [.ptr 0 0 0, .int .i64 kind] (NxH s p r.over) (spA (stF kind r).1) (NxH s p' (after (stF kind r).2 r).over) := by
  have l0 := one_lt r
  obtain ⟨h1, h2⟩ := hk
  obtain rfl | rfl | rfl | rfl | rfl | rfl | rfl | rfl | rfl | rfl | rfl : kind = 1 ∨ kind = 2 ∨ kind = 3 ∨ kind = 4 ∨ kind = 5 ∨ kind = 6 ∨ kind = 7 ∨ kind = 8 ∨ kind = 9 ∨ kind = 10 ∨ kind = 11 := by omega
  · obtain ⟨p1, hp1, h1⟩ := rop_ok h hs
    refine ⟨p1, hp1, ?_⟩
    apply A16
    conv => whnf
    refine call_fr [0] [] (NxH s p1 (after (opF r).2 r).over) h1 ?_
    conv => whnf
    exact at_end [some 0]
  · obtain ⟨p1, hp1, h1⟩ := next_rd h hs
    refine ⟨p1, hp1, ?_⟩
    apply A16
    conv => whnf
    refine call_fr [0] [] (NxH s p1 (after 1 r).over) h1 ?_
    conv => whnf
    exact at_end [some 0]
  · refine ⟨p, h, ?_⟩
    apply A16
    conv => whnf
    exact at_end [some 0]
  · obtain ⟨p1, hp1, h1⟩ := next_rd h hs
    refine ⟨p1, hp1, ?_⟩
    apply A16
    conv => whnf
    refine call_fr [0] [] (NxH s p1 (after 1 r).over) h1 ?_
    conv => whnf
    exact at_end [some 0]
  · obtain ⟨p1, hp1, h1⟩ := next_rd h hs
    refine ⟨p1, hp1, ?_⟩
    apply A16
    conv => whnf
    refine call_fr [0] [] (NxH s p1 (after 1 r).over) h1 ?_
    conv => whnf
    exact at_end [some 0]
  · obtain ⟨p1, hp1, h1⟩ := next_rd h hs
    refine ⟨p1, hp1, ?_⟩
    apply A16
    conv => whnf
    refine call_fr [0] [] (NxH s p1 (after 1 r).over) h1 ?_
    conv => whnf
    exact at_end [some 0]
  · obtain ⟨p1, hp1, h1⟩ := refname_ok sN (by decide) 8 (by omega) (by omega) h hs
    refine ⟨p1, hp1, ?_⟩
    apply A16
    conv => whnf
    refine call_fr [0] [] (NxH s p1 (after 1 r).over) h1 ?_
    conv => whnf
    exact at_end [some 0]
  · obtain ⟨p1, hp1, h1⟩ := next_rd h hs
    obtain ⟨p2, hp2, h2⟩ := next_rd hp1 hs
    refine ⟨p2, hp2, ?_⟩
    apply A16
    conv => whnf
    refine call_fr [0] [] (NxH s p1 (after 1 r).over) h1 ?_
    conv => whnf
    refine call_fr [0] [] (NxH s p2 (after 2 r).over) h2 ?_
    conv => whnf
    exact at_end [some 0]
  · refine ⟨p, h, ?_⟩
    apply A16
    conv => whnf
    exact at_end [some 0]
  · obtain ⟨p1, hp1, h1⟩ := next_rd h hs
    obtain ⟨p2, hp2, h2⟩ := next_rd hp1 hs
    refine ⟨p2, hp2, ?_⟩
    apply A16
    conv => whnf
    refine call_fr [0] [] (NxH s p1 (after 1 r).over) h1 ?_
    conv => whnf
    refine call_fr [0] [] (NxH s p2 (after 2 r).over) h2 ?_
    conv => whnf
    refine cond_b (fun h => ?_) (fun h => ?_)
    · have hn : recN (at' 0 r) = -1 := if_pos (by have := of_decide_eq_true h; have e : (one r).1 = at' 0 r := rfl; omega)
      conv => whnf
      rw [show spA (stF 10 r).1 = spA ⟨10, -1, at' 1 r, e0, op0⟩ by simp only [stF, hn]]
      exact at_end [some 0]
    · have hn : recN (at' 0 r) = at' 0 r := if_neg (by have := of_decide_eq_false h; have e : (one r).1 = at' 0 r := rfl; omega)
      conv => whnf
      rw [show spA (stF 10 r).1 = spA ⟨10, at' 0 r, at' 1 r, e0, op0⟩ by simp only [stF, hn]]
      exact at_end [some 0]
  · refine ⟨p, h, ?_⟩
    apply A16
    conv => whnf
    exact at_end [some 0]
end Go.Am.Scr
