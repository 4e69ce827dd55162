/- The law of plays: its state; pushed. No conditions. -/
import Derived.Test.YtkhnfceedbmkcaaHeapF2
import Derived.Test.YtkhnfceedbmkcaaHeapL6
set_option linter.unusedVariables false
set_option linter.unusedSimpArgs false
set_option maxRecDepth 100000
open Go Go.Am Go.Proofs Go.Am.Heap
namespace Go.Am.HeapP
structure OpR where
  kind : Int
  p : X
  odd : Bool
abbrev ov (a : OpR) : AV := .agg [.int .i64 a.kind, .int .i64 a.p.key, .int .i64 a.p.x, .bool a.odd]
abbrev MO (l : List OpR) : AV := .lst 4 (l.map ov) none
abbrev PE (l : List OpR) (k : Nat) : Ev := [(0, MO l), (3, .ptr 0 0 0), (4, .ptr 2 0 0), (26, .int .i64 l.length), (27, .int .i64 k)]
abbrev PH (m : Nat) (its : List (It X)) (sq : Int) (o : Nat) (L : List X) : AHeap := [some (hpO LF (.slc 1 0 m none) sq), some (.rows 62 3 (its.map irow)), some (RO 3 o m), some (.rows 27 2 (L.map av))]
/-- Both have the same. -/
structure St (k m : Nat) (its s : List (It X)) (sq : Int) (o : Nat) (L : List X) : Prop where
  h : HeapOf ltX m its s
  eq : s.map (·.x) = L.drop o
  ln : o + m = L.length
  sl : ∀ a ∈ s, a.seq < sq
  mle : m ≤ k
  s0 : 0 ≤ sq
  sk : sq ≤ k
def JP (l : List OpR) (k : Nat) (e : Ev) (H : AHeap) : Prop := ∃ m its s sq o L, e = PE l k ∧ H = PH m its sq o L ∧ St k m its s sq o L
abbrev NX (l : List OpR) (k : Nat) : Ev → AHeap → Prop := fun e' H' => keepC e' [0, 3, 4, 26, 27] fun e1 => keepC e1 [0, 3, 4, 26, 27] fun e2 => GcP 0 H' e2 fun e3 H3 => k < l.length ∧ JP l (k + 1) e3 H3
abbrev b5 : ACode := .seq (.ops false [O 28 (.bin .lss (.t 27) (.t 26))]) c5s39
theorem St.tl {k m : Nat} {its s : List (It X)} {sq : Int} {o : Nat} {L : List X} (h : St k m its s sq o L) : (s.map (·.x)).length = m := by simpa using h.h.slen
theorem St.push {k m : Nat} {its s : List (It X)} {sq : Int} {o : Nat} {L : List X} (h : St k m its s sq o L) (p : X) : St (k + 1) (m + 1) (upF ltX m (putAt m its ⟨p, sq⟩) m) (ins ltX ⟨p, sq⟩ s) (sq + 1) 0 (insX ltX p (s.map (·.x))) := by
  have hm := h.mle
  have hs0 := h.s0
  have hsk := h.sk
  refine ⟨h.h.push ordX fun a ha => by have := h.sl a ha; show a.seq ≠ sq; omega, ?_, ?_, fun a ha => ?_, by omega, by omega, by omega⟩
  · exact ins_map ordX fun a ha => h.sl a ha
  · rw [← ins_map ordX (x := ⟨p, sq⟩) fun a ha => h.sl a ha]
    have := (ins_perm (lt := ltX) ⟨p, sq⟩ s).length_eq
    have := h.h.slen
    simp at *; omega
  · rcases List.mem_cons.1 ((ins_perm _ _).subset ha) with rfl | ha
    · show sq < sq + 1; omega
    · have := h.sl a ha; omega
theorem pl_push {Q : AExit → Ev → AHeap → Prop} (l : List OpR) (k m : Nat) (its s : List (It X)) (sq : Int) (o : Nat) (L : List X) (p : X) (odd : Bool) (hk : k < l.length) (hx : l[k]? = some ⟨1, p, odd⟩) (h : St k m its s sq o L) (hl : l.length ≤ 300) :
    awpC PR 0 b5 (AExit.thn (NX l k) Q) (PE l k) (PH m its sq o L) := by
  have hlen := h.h.len
  have hm := h.mle
  have hs0 := h.s0
  have hsk := h.sk
  have htl := h.tl
  have hn := h.ln
  have hp := rpush_ok L (s.map (·.x)) o h.eq (by omega) p (by omega)
  rw [htl] at hp
  have hnew := h.push p
  conv => whnf
  generalize hq : decide ((k : Int) < (l.length : Int)) = q
  cases q
  case false => have := of_decide_eq_false hq; omega
  conv => whnf
  refine k_el (get_map (i := (k : Int)) hx) (by omega) ?_
  conv => whnf
  refine call_fr [0, 1] [] (HMA 5 LF (m + 1) (upF ltX m (putAt m its ⟨p, sq⟩) m) (sq + 1)) (push_ok lessLess m its sq p hlen (by omega) (by omega)) ?_
  conv => whnf
  refine call_fr [2, 3] [] [some (RO 6 0 (m + 1)), some (.rows 27 2 (L.map av)), some (.rows 27 2 ((insX ltX p (s.map (·.x))).map av))] hp ?_
  conv => whnf
  refine call_fr [0, 5] [] (HA 5 LF (m + 1) (upF ltX m (putAt m its ⟨p, sq⟩) m) (sq + 1)) (len_ok LF lessLess.bel (m + 1) _ (sq + 1)) ?_
  conv => whnf
  refine ⟨rfl, ?_⟩
  conv => whnf
  generalize hq2 : (!decide (((m + 1 : Nat) : Int) = ((m + 1 : Nat) : Int))) = q2
  cases q2
  case true => simp at hq2
  conv => whnf
  refine w_as ((k + 1 : Nat) : Int) (by omega) (by omega) ?_
  conv => whnf
  exact at_head [some 0, some 5, some 2, some 6] (PH (m + 1) (upF ltX m (putAt m its ⟨p, sq⟩) m) (sq + 1) 0 (insX ltX p (s.map (·.x)))) (PE l (k + 1)) ⟨hk, _, _, _, _, _, _, rfl, rfl, hnew⟩
