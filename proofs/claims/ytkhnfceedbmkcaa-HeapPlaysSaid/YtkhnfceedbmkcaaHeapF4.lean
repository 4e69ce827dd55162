/- The law of plays: popped, looked at. No conditions. -/
import Derived.Test.YtkhnfceedbmkcaaHeapF3
set_option linter.unusedVariables false
set_option linter.unusedSimpArgs false
set_option maxRecDepth 100000
open Go Go.Am Go.Proofs Go.Am.Heap
namespace Go.Am.HeapP
theorem St.pop {k m : Nat} {its t : List (It X)} {r : It X} {sq : Int} {o : Nat} {L : List X} (h : St k m its (r :: t) sq o L) (hr : its[0]? = some r) (h0 : 0 < m) : St (k + 1) (m - 1) (popL ltX zIt m its) t sq (o + 1) L := by
  have hm := h.mle
  have hsk := h.sk
  have hn := h.ln
  refine ⟨h.h.pop (s := []) ordX hr h0, ?_, by omega, fun a ha => h.sl a (by simp [ha]), by omega, h.s0, by omega⟩
  have := h.eq
  rw [← List.drop_drop, ← this]; simp
theorem St.skip {k m : Nat} {its s : List (It X)} {sq : Int} {o : Nat} {L : List X} (h : St k m its s sq o L) : St (k + 1) m its s sq o L := by
  have hm := h.mle
  have hsk := h.sk
  exact ⟨h.h, h.eq, h.ln, h.sl, by omega, h.s0, by omega⟩
theorem pl_pop {Q : AExit → Ev → AHeap → Prop} (l : List OpR) (k m : Nat) (its s : List (It X)) (sq : Int) (o : Nat) (L : List X) (p : X) (odd : Bool) (hk : k < l.length) (hx : l[k]? = some ⟨2, p, odd⟩) (h : St k m its s sq o L) (hl : l.length ≤ 300) (h0 : 0 < m) :
    awpC PR 0 b5 (AExit.thn (NX l k) Q) (PE l k) (PH m its sq o L) := by
  have hlen := h.h.len
  have hm := h.mle
  have hs0 := h.s0
  have hsk := h.sk
  have htl := h.tl
  have hn := h.ln
  obtain ⟨r, t, hr, rfl⟩ := h.h.root ordX h0
  have hnew := h.pop hr h0
  have hp := rpop_ok L (t.map fun a : It X => a.x) r.x o h.eq (by simp at htl ⊢; omega) (by simp at htl ⊢; omega)
  have htl2 : (t.map (·.x)).length = m - 1 := by simp at htl ⊢; omega
  have hm1 : m - 1 + 1 = m := by omega
  rw [htl2, hm1] at hp
  conv => whnf
  generalize hq : decide ((k : Int) < (l.length : Int)) = q
  cases q
  case false => have := of_decide_eq_false hq; omega
  conv => whnf
  refine k_el (get_map (i := (k : Int)) hx) (by omega) ?_
  conv => whnf
  refine call_fr [0, 1] [] (HL LF (m - 1) (popL ltX zIt m its) sq) (pop_ok lessLess m its sq r hr h0 hlen (by omega)) ?_
  conv => whnf
  refine call_fr [2, 3] [] [some (RO 3 (o + 1) (m - 1)), some (.rows 27 2 (L.map av))] hp ?_
  conv => whnf
  generalize hq1 : decide (r.x.key = r.x.key) = q1
  cases q1
  case false => simp at hq1
  generalize hq2 : decide (r.x.x = r.x.x) = q2
  cases q2
  case false => simp at hq2
  conv => whnf
  refine call_fr [0, 1] [] (HL LF (m - 1) (popL ltX zIt m its) sq) (len_ok LF lessLess.bel (m - 1) _ sq) ?_
  conv => whnf
  refine ⟨rfl, ?_⟩
  conv => whnf
  generalize hqz : (!decide (((m - 1 : Nat) : Int) = ((m - 1 : Nat) : Int))) = qz
  cases qz
  case true => simp at hqz
  conv => whnf
  refine w_as ((k + 1 : Nat) : Int) (by omega) (by omega) ?_
  conv => whnf
  exact at_head [some 0, some 1, some 2, some 3] (PH (m - 1) (popL ltX zIt m its) sq (o + 1) L) (PE l (k + 1)) ⟨hk, _, _, _, _, _, _, rfl, rfl, hnew⟩
theorem pl_pop0 {Q : AExit → Ev → AHeap → Prop} (l : List OpR) (k : Nat) (its s : List (It X)) (sq : Int) (o : Nat) (L : List X) (p : X) (odd : Bool) (hk : k < l.length) (hx : l[k]? = some ⟨2, p, odd⟩) (h : St k 0 its s sq o L) (hl : l.length ≤ 300) :
    awpC PR 0 b5 (AExit.thn (NX l k) Q) (PE l k) (PH 0 its sq o L) := by
  have hlen := h.h.len
  have hm := h.mle
  have hs0 := h.s0
  have hsk := h.sk
  have htl := h.tl
  have hn := h.ln
  have hnew := h.skip
  conv => whnf
  generalize hq : decide ((k : Int) < (l.length : Int)) = q
  cases q
  case false => have := of_decide_eq_false hq; omega
  conv => whnf
  refine k_el (get_map (i := (k : Int)) hx) (by omega) ?_
  conv => whnf
  refine call_fr [0, 1] [] (HL LF 0 its sq) (pop_none lessLess.bel its sq) ?_
  conv => whnf
  refine call_fr [2, 3] [] [some (RO 3 o 0), some (.rows 27 2 (L.map av))] (rpop_none L o) ?_
  conv => whnf
  refine call_fr [0, 1] [] (HL LF 0 its sq) (len_ok LF lessLess.bel 0 its sq) ?_
  conv => whnf
  refine ⟨rfl, ?_⟩
  conv => whnf
  generalize hqz : (!decide (((0 : Nat) : Int) = ((0 : Nat) : Int))) = qz
  cases qz
  case true => simp at hqz
  conv => whnf
  refine w_as ((k + 1 : Nat) : Int) (by omega) (by omega) ?_
  conv => whnf
  exact at_head [some 0, some 1, some 2, some 3] (PH 0 its sq o L) (PE l (k + 1)) ⟨hk, _, _, _, _, _, _, rfl, rfl, hnew⟩
theorem pl_top {Q : AExit → Ev → AHeap → Prop} (l : List OpR) (k m : Nat) (its s : List (It X)) (sq : Int) (o : Nat) (L : List X) (p : X) (odd : Bool) (hk : k < l.length) (hx : l[k]? = some ⟨3, p, odd⟩) (h : St k m its s sq o L) (hl : l.length ≤ 300) (h0 : 0 < m) :
    awpC PR 0 b5 (AExit.thn (NX l k) Q) (PE l k) (PH m its sq o L) := by
  have hlen := h.h.len
  have hm := h.mle
  have hs0 := h.s0
  have hsk := h.sk
  have htl := h.tl
  have hn := h.ln
  obtain ⟨r, t, hr, rfl⟩ := h.h.root ordX h0
  have hnew := h.skip
  have hx2 : L[o + (0 : Int).toNat]? = some r.x := by rw [drop_get h.eq]; rfl
  have hx3 : (L.map av)[o + (0 : Int).toNat]? = some (av r.x) := by rw [List.getElem?_map, hx2]; rfl
  conv => whnf
  generalize hq : decide ((k : Int) < (l.length : Int)) = q
  cases q
  case false => have := of_decide_eq_false hq; omega
  conv => whnf
  refine k_el (get_map (i := (k : Int)) hx) (by omega) ?_
  conv => whnf
  refine call_fr [0, 1] [] (HL LF m its sq) (top_ok lessLess.bel m its sq r hr h0) ?_
  conv => whnf
  generalize hq1 : decide ((0 : Int) < (m : Int)) = q1
  cases q1
  case false => have := of_decide_eq_false hq1; omega
  conv => whnf
  refine k_idxo ?_ _ rfl (by omega) (by omega)
  conv => whnf
  refine k_row hx3 ?_
  conv => whnf
  generalize hq3 : decide (r.x.key = r.x.key) = q3
  cases q3
  case false => simp at hq3
  generalize hq2 : decide (r.x.x = r.x.x) = q2
  cases q2
  case false => simp at hq2
  conv => whnf
  refine call_fr [0, 1] [] (HL LF m its sq) (len_ok LF lessLess.bel m its sq) ?_
  conv => whnf
  refine ⟨rfl, ?_⟩
  conv => whnf
  generalize hqz : (!decide (((m : Nat) : Int) = ((m : Nat) : Int))) = qz
  cases qz
  case true => simp at hqz
  conv => whnf
  refine w_as ((k + 1 : Nat) : Int) (by omega) (by omega) ?_
  conv => whnf
  exact at_head [some 0, some 1, some 2, some 3] (PH m its sq o L) (PE l (k + 1)) ⟨hk, _, _, _, _, _, _, rfl, rfl, hnew⟩
theorem pl_top0 {Q : AExit → Ev → AHeap → Prop} (l : List OpR) (k : Nat) (its s : List (It X)) (sq : Int) (o : Nat) (L : List X) (p : X) (odd : Bool) (hk : k < l.length) (hx : l[k]? = some ⟨3, p, odd⟩) (h : St k 0 its s sq o L) (hl : l.length ≤ 300) :
    awpC PR 0 b5 (AExit.thn (NX l k) Q) (PE l k) (PH 0 its sq o L) := by
  have hlen := h.h.len
  have hm := h.mle
  have hs0 := h.s0
  have hsk := h.sk
  have htl := h.tl
  have hn := h.ln
  have hnew := h.skip
  conv => whnf
  generalize hq : decide ((k : Int) < (l.length : Int)) = q
  cases q
  case false => have := of_decide_eq_false hq; omega
  conv => whnf
  refine k_el (get_map (i := (k : Int)) hx) (by omega) ?_
  conv => whnf
  refine call_fr [0, 1] [] (HL LF 0 its sq) (top_none lessLess.bel its sq) ?_
  conv => whnf
  refine call_fr [0, 1] [] (HL LF 0 its sq) (len_ok LF lessLess.bel 0 its sq) ?_
  conv => whnf
  refine ⟨rfl, ?_⟩
  conv => whnf
  generalize hqz : (!decide (((0 : Nat) : Int) = ((0 : Nat) : Int))) = qz
  cases qz
  case true => simp at hqz
  conv => whnf
  refine w_as ((k + 1 : Nat) : Int) (by omega) (by omega) ?_
  conv => whnf
  exact at_head [some 0, some 1, some 2, some 3] (PH 0 its sq o L) (PE l (k + 1)) ⟨hk, _, _, _, _, _, _, rfl, rfl, hnew⟩
