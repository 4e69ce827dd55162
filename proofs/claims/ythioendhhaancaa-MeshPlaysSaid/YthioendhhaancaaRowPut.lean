/- A row that the call owns, behind slices.Delete's own words for it. No Go program is named here; no conditions. -/
import Derived.Sort.Row
import Derived.Lib.SlicesDelete
import Derived.Shelf.Slices.Delete
namespace Go.Lw
open Go Go.RowKit Go.«Sort»
theorem heap_putRow {α : Type} [Inhabited α] {enc : α → Value} {w : World} {g q : Nat} {cur : Array Value} {e : TypeId} {fr : Nat × Nat} (hh : w.heap[g]? = some (.cells cur e fr)) (d : Array α) :
    (putRow enc (Go.«Sort».ahead w q) g 0 d).heap[g]? = some (.cells (putCells enc 0 d cur) e fr) := by
  simp only [putRow, mapBlock, Go.«Sort».ahead, Array.getElem?_modify, if_true, hh, Option.map_some]
  rfl
theorem heap_putRow_ne {α : Type} [Inhabited α] {enc : α → Value} {w : World} {g q k : Nat} (d : Array α) (h : k ≠ g) : (putRow enc (Go.«Sort».ahead w q) g 0 d).heap[k]? = w.heap[k]? := by
  simp only [putRow, mapBlock, Go.«Sort».ahead, Array.getElem?_modify]
  rw [if_neg (fun e => h e.symm)]
theorem take_putCells {α : Type} [Inhabited α] {enc : α → Value} {d : List α} {cur : Array Value} {m : Nat} (hm : m ≤ d.length) (hc : d.length ≤ cur.size) : (putCells enc 0 d.toArray cur).toList.take m = (d.take m).map enc := by
  apply List.ext_getElem?
  intro k
  by_cases hk : k < m
  · have h1 : k < d.length := by omega
    have h2 : k < cur.size := by omega
    simp [putCells, hk, h1, h2]
  · simp [putCells, List.getElem?_take, hk]
theorem own_put {α : Type} [Inhabited α] {enc : α → Value} {w : World} {base g n cap q m : Nat} {e : TypeId} {xs : List Value} {d : List α} (h : w.ownsRow base e 1 (.slice (some ⟨g, 0, none⟩) n cap) n xs) (hd : d.length = n) (hm : m ≤ n) :
    (putRow enc (Go.«Sort».ahead w q) g 0 d.toArray).ownsRow base e 1 (.slice (some ⟨g, 0, none⟩) m cap) m ((d.take m).map enc) := by
  obtain ⟨h1, h2⟩ := h
  rcases h2 with ⟨hv, _⟩ | ⟨g', cap', cur, hv, hg, hh, hn, hcm, hsz, htk⟩
  · cases hv
  · injection hv with hv1 hv2 hv3
    injection hv1 with hv1
    injection hv1 with hv1
    subst hv1 hv3
    refine ⟨by simp; omega, .inr ⟨g, cap, putCells enc 0 d.toArray cur, rfl, hg, heap_putRow hh _, by omega, hcm, by simp [putCells]; omega, ?_⟩⟩
    rw [Nat.mul_one]
    exact take_putCells (by omega) (by omega)
end Go.Lw
