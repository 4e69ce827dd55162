/- The law of plays: removed. No conditions. -/
import Derived.Test.YtkhnfceedbmkcaaHeapF4
set_option linter.unusedVariables false
set_option linter.unusedSimpArgs false
set_option maxRecDepth 100000
open Go Go.Am Go.Proofs Go.Am.Heap
namespace Go.Am.HeapP
theorem St.rem {k m : Nat} {its s : List (It X)} {sq : Int} {o : Nat} {L : List X} (h : St k m its s sq o L) (p q : X → Bool) (hpq : ∀ x, q x = !p x) : ((s.map (·.x)).filter q).length = leftN p m its ∧ St (k + 1) (leftN p m its) (heapF ltX (leftN p m its) (leftN p m its / 2) (cutF zIt p m its)) (s.filter (fun a => !p a.x)) sq 0 ((s.map (·.x)).filter q) := by
  have hm := h.mle
  have hsk := h.sk
  have hle := leftN_le p m its
  have e : q = fun x => !p x := funext hpq
  have hlen : ((s.map (·.x)).filter q).length = leftN p m its := by
    rw [h.h.leftN, e, List.filter_map, List.length_map]; rfl
  refine ⟨hlen, h.h.cut ordX (z := zIt) p, ?_, by omega, fun a ha => h.sl a ((List.mem_filter.1 ha).1), by omega, h.s0, by omega⟩
  rw [e, List.drop_zero, List.filter_map]; rfl
theorem pl_odd {Q : AExit → Ev → AHeap → Prop} (l : List OpR) (k m : Nat) (its s : List (It X)) (sq : Int) (o : Nat) (L : List X) (p : X) (hk : k < l.length) (hx : l[k]? = some ⟨4, p, true⟩) (h : St k m its s sq o L) (hl : l.length ≤ 300) :
    awpC PR 0 b5 (AExit.thn (NX l k) Q) (PE l k) (PH m its sq o L) := by
  have hlen := h.h.len
  have hm := h.mle
  have hs0 := h.s0
  have hsk := h.sk
  have htl := h.tl
  have hn := h.ln
  obtain ⟨hfl, hnew⟩ := h.rem od (kp true) fun x => by simp [kp, od]
  have hle := leftN_le od m its
  have hp := rremove_ok L (s.map (·.x)) o h.eq (by omega) true (by omega)
  rw [htl, hfl] at hp
  have hr := remove_ok lessLess odd_ok cl25 m its sq hlen (by omega)
  generalize hd : (s.map (·.x)).filter (kp true) = D at hp hnew
  generalize hA : heapF ltX (leftN od m its) (leftN od m its / 2) (cutF zIt od m its) = a1 at hr hnew
  generalize hm' : leftN od m its = m' at hp hr hnew
  conv => whnf
  generalize hq : decide ((k : Int) < (l.length : Int)) = q
  cases q
  case false => have := of_decide_eq_false hq; omega
  conv => whnf
  refine k_el (get_map (i := (k : Int)) hx) (by omega) ?_
  conv => whnf
  refine call_fr [0, 1] [] (HL LF m' a1 sq) hr ?_
  conv => whnf
  refine call_fr [2, 3] [] [some (RO 5 0 m'), some (.rows 27 2 (L.map av)), some (.rows 27 2 (D.map av))] hp ?_
  conv => whnf
  generalize hq2 : (!decide (((m - m' : Nat) : Int) = ((m - m' : Nat) : Int))) = q2
  cases q2
  case true => simp at hq2
  conv => whnf
  refine call_fr [0, 1] [] (HL LF m' a1 sq) (len_ok LF lessLess.bel m' _ sq) ?_
  conv => whnf
  refine ⟨rfl, ?_⟩
  conv => whnf
  generalize hqz : (!decide (((m' : Nat) : Int) = ((m' : Nat) : Int))) = qz
  cases qz
  case true => simp at hqz
  conv => whnf
  refine w_as ((k + 1 : Nat) : Int) (by omega) (by omega) ?_
  conv => whnf
  exact at_head [some 0, some 1, some 2, some 5] (PH m' a1 sq 0 D) (PE l (k + 1)) ⟨hk, _, _, _, _, _, _, rfl, rfl, hnew⟩
theorem pl_even {Q : AExit → Ev → AHeap → Prop} (l : List OpR) (k m : Nat) (its s : List (It X)) (sq : Int) (o : Nat) (L : List X) (p : X) (hk : k < l.length) (hx : l[k]? = some ⟨4, p, false⟩) (h : St k m its s sq o L) (hl : l.length ≤ 300) :
    awpC PR 0 b5 (AExit.thn (NX l k) Q) (PE l k) (PH m its sq o L) := by
  have hlen := h.h.len
  have hm := h.mle
  have hs0 := h.s0
  have hsk := h.sk
  have htl := h.tl
  have hn := h.ln
  obtain ⟨hfl, hnew⟩ := h.rem (fun x => decide (x.x.tmod 2 = 0)) (kp false) fun x => by simp [kp]
  have hle := leftN_le (fun x : X => decide (x.x.tmod 2 = 0)) m its
  have hp := rremove_ok L (s.map (·.x)) o h.eq (by omega) false (by omega)
  rw [htl, hfl] at hp
  have hr := remove_ok lessLess even_ok (by kernel_rfl) m its sq hlen (by omega)
  generalize hd : (s.map (·.x)).filter (kp false) = D at hp hnew
  generalize hA : heapF ltX (leftN (fun x : X => decide (x.x.tmod 2 = 0)) m its) (leftN (fun x : X => decide (x.x.tmod 2 = 0)) m its / 2) (cutF zIt (fun x : X => decide (x.x.tmod 2 = 0)) m its) = a1 at hr hnew
  generalize hm' : leftN (fun x : X => decide (x.x.tmod 2 = 0)) m its = m' at hp hr hnew
  conv => whnf
  generalize hq : decide ((k : Int) < (l.length : Int)) = q
  cases q
  case false => have := of_decide_eq_false hq; omega
  conv => whnf
  refine k_el (get_map (i := (k : Int)) hx) (by omega) ?_
  conv => whnf
  refine call_fr [0, 1] [] (HL LF m' a1 sq) hr ?_
  conv => whnf
  refine call_fr [2, 3] [] [some (RO 5 0 m'), some (.rows 27 2 (L.map av)), some (.rows 27 2 (D.map av))] hp ?_
  conv => whnf
  generalize hq2 : (!decide (((m - m' : Nat) : Int) = ((m - m' : Nat) : Int))) = q2
  cases q2
  case true => simp at hq2
  conv => whnf
  refine call_fr [0, 1] [] (HL LF m' a1 sq) (len_ok LF lessLess.bel m' _ sq) ?_
  conv => whnf
  refine ⟨rfl, ?_⟩
  conv => whnf
  generalize hqz : (!decide (((m' : Nat) : Int) = ((m' : Nat) : Int))) = qz
  cases qz
  case true => simp at hqz
  conv => whnf
  refine w_as ((k + 1 : Nat) : Int) (by omega) (by omega) ?_
  conv => whnf
  exact at_head [some 0, some 1, some 2, some 5] (PH m' a1 sq 0 D) (PE l (k + 1)) ⟨hk, _, _, _, _, _, _, rfl, rfl, hnew⟩
