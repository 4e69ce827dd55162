/- A machine of plain data beside the model's own: its values, its memory, and what it means that the model's world holds them. No Go program is named here; no conditions. -/
import Derived.Calls
import Derived.Below
import Derived.Laws.Sem
set_option linter.unusedVariables false
set_option linter.unusedSimpArgs false
namespace Go.Am
open Go

inductive AV where
  | undef
  | bool (b : Bool)
  | int (k : IntKind) (n : Int)
  | str (s : ByteArray)
  | nilptr
  | nilslc
  | nilmap
  | nilfn
  | niliface
  | ptr (id i k : Nat)
  | slc (id i n : Nat) (cap : Option Nat)
  | eptr (row : AV) (k : Nat)
  | lst (sz : Nat) (rows : List AV) (cap : Option Nat)
  | map (id : Nat)
  | fn (f : Fn) (first captured : List AV)
  | iface (t : TypeId) (v : AV)
  | agg (cs : List AV)
  | tuple (vs : List AV)
  deriving Inhabited

def AV.cells : AV → List AV
  | .agg cs => cs
  | v => [v]

inductive AObj where
  | rows (t : TypeId) (sz : Nat) (rs : List AV)
  | amap (es : List (AV × AV))
  | iter (m : Option Nat) (old : Nat) (seen : List Nat)
  deriving Inhabited

abbrev AHeap := List (Option AObj)

/-- Where an object lies: its block, the cells of a row, how many rows the block bears. -/
structure Loc where
  b : Nat
  sz : Nat
  C : Nat

/-- Values that name no object from n on. -/
inductive Bel : Nat → AV → Prop
  | undef (n) : Bel n .undef
  | bool (n) (b) : Bel n (.bool b)
  | int (n) (k m) : Bel n (.int k m)
  | str (n) (s) : Bel n (.str s)
  | nilptr (n) : Bel n .nilptr
  | nilslc (n) : Bel n .nilslc
  | nilmap (n) : Bel n .nilmap
  | nilfn (n) : Bel n .nilfn
  | niliface (n) : Bel n .niliface
  | ptr (n) (id i k) (h : id < n) : Bel n (.ptr id i k)
  | slc (n) (id i m cap) (h : id < n) : Bel n (.slc id i m cap)
  | eptr (n) (row k) (h : Bel 0 row) : Bel n (.eptr row k)
  | lst (n) (sz rows cap) (h : ∀ r ∈ rows, Bel 0 r) : Bel n (.lst sz rows cap)
  | map (n) (id) (h : id < n) : Bel n (.map id)
  | fn (n) (f first captured) (h1 : ∀ r ∈ first, Bel n r) (h2 : ∀ r ∈ captured, Bel n r) : Bel n (.fn f first captured)
  | iface (n) (t v) (h : Bel n v) : Bel n (.iface t v)
  | agg (n) (cs) (h : ∀ r ∈ cs, Bel n r) : Bel n (.agg cs)
  | tuple (n) (cs) (h : ∀ r ∈ cs, Bel n r) : Bel n (.tuple cs)

section
variable (n : Nat)
@[simp] theorem bel_undef : Bel n .undef ↔ True := ⟨fun _ => trivial, fun _ => .undef n⟩
@[simp] theorem bel_bool (b) : Bel n (.bool b) ↔ True := ⟨fun _ => trivial, fun _ => .bool n b⟩
@[simp] theorem bel_int (k m) : Bel n (.int k m) ↔ True := ⟨fun _ => trivial, fun _ => .int n k m⟩
@[simp] theorem bel_str (s) : Bel n (.str s) ↔ True := ⟨fun _ => trivial, fun _ => .str n s⟩
@[simp] theorem bel_nilptr : Bel n .nilptr ↔ True := ⟨fun _ => trivial, fun _ => .nilptr n⟩
@[simp] theorem bel_nilslc : Bel n .nilslc ↔ True := ⟨fun _ => trivial, fun _ => .nilslc n⟩
@[simp] theorem bel_nilmap : Bel n .nilmap ↔ True := ⟨fun _ => trivial, fun _ => .nilmap n⟩
@[simp] theorem bel_nilfn : Bel n .nilfn ↔ True := ⟨fun _ => trivial, fun _ => .nilfn n⟩
@[simp] theorem bel_niliface : Bel n .niliface ↔ True := ⟨fun _ => trivial, fun _ => .niliface n⟩
@[simp] theorem bel_ptr (id i k) : Bel n (.ptr id i k) ↔ id < n := ⟨fun h => by cases h; assumption, .ptr n id i k⟩
@[simp] theorem bel_slc (id i m c) : Bel n (.slc id i m c) ↔ id < n := ⟨fun h => by cases h; assumption, .slc n id i m c⟩
@[simp] theorem bel_map (id) : Bel n (.map id) ↔ id < n := ⟨fun h => by cases h; assumption, .map n id⟩
@[simp] theorem bel_eptr (r k) : Bel n (.eptr r k) ↔ Bel 0 r := ⟨fun h => by cases h; assumption, .eptr n r k⟩
@[simp] theorem bel_lst (sz rs c) : Bel n (.lst sz rs c) ↔ ∀ r ∈ rs, Bel 0 r := ⟨fun h => by cases h; assumption, .lst n sz rs c⟩
@[simp] theorem bel_iface (t v) : Bel n (.iface t v) ↔ Bel n v := ⟨fun h => by cases h; assumption, .iface n t v⟩
@[simp] theorem bel_agg (cs) : Bel n (.agg cs) ↔ ∀ r ∈ cs, Bel n r := ⟨fun h => by cases h; assumption, .agg n cs⟩
@[simp] theorem bel_tuple (cs) : Bel n (.tuple cs) ↔ ∀ r ∈ cs, Bel n r := ⟨fun h => by cases h; assumption, .tuple n cs⟩
@[simp] theorem bel_fn (f a b) : Bel n (.fn f a b) ↔ (∀ r ∈ a, Bel n r) ∧ (∀ r ∈ b, Bel n r) := ⟨fun h => by cases h; exact ⟨‹_›, ‹_›⟩, fun h => .fn n f a b h.1 h.2⟩
end

theorem Bel.mono {n m : Nat} (hnm : n ≤ m) {v : AV} (h : Bel n v) : Bel m v := by
  induction h with
  | ptr n id i k h => exact .ptr _ _ _ _ (by omega)
  | slc n id i k c h => exact .slc _ _ _ _ _ (by omega)
  | map n id h => exact .map _ _ (by omega)
  | fn n f a b h1 h2 i1 i2 => exact .fn _ _ _ _ (fun r hr => i1 r hr hnm) (fun r hr => i2 r hr hnm)
  | iface n t v h i => exact .iface _ _ _ (i hnm)
  | agg n cs h i => exact .agg _ _ fun r hr => i r hr hnm
  | tuple n cs h i => exact .tuple _ _ fun r hr => i r hr hnm
  | eptr n r k h i => exact .eptr _ _ _ h
  | lst n sz rs c h i => exact .lst _ _ _ _ h
  | _ => constructor

/-- What a value is seen in: the places of the objects, how many there are, which blocks they own, the world. -/
structure Cx where
  φ : Nat → Loc
  dom : Nat → Prop
  own : Nat → Prop
  w : World

/-- A value of the model's is one of plain data. -/
inductive VR (c : Cx) : AV → Value → Prop
  | undef (v) : VR c .undef v
  | bool (b) : VR c (.bool b) (.bool b)
  | int (k m) : VR c (.int k m) (.int k m)
  | str (s) : VR c (.str s) (.string s)
  | nilptr : VR c .nilptr (.pointer none)
  | nilslc : VR c .nilslc (.slice none 0 0)
  | nilmap : VR c .nilmap (.map none)
  | nilfn : VR c .nilfn .nilFunc
  | niliface : VR c .niliface .nilIface
  | ptr (id i k) (h : c.dom id) (hC : (c.φ id).C ≠ 0) : VR c (.ptr id i k) (.pointer (some ⟨(c.φ id).b, i * (c.φ id).sz + k, none⟩))
  | slc (id i m cp) (a : Option Addr) (cap : Nat) (h : c.dom id) (hcp : ∀ x, cp = some x → cap = x) (hfull : cp = none → i + cap = (c.φ id).C)
      (hi : i + cap ≤ (c.φ id).C) (hm : m ≤ cap) (ha : cap ≠ 0 → a = some ⟨(c.φ id).b, i * (c.φ id).sz, none⟩) : VR c (.slc id i m cp) (.slice a m cap)
  | eptr (row : AV) (k b o : Nat) (arr : Array Value) (t : TypeId) (fr : Nat × Nat) (ho : ¬ c.own b) (hb : c.w.heap[b]? = some (.cells arr t fr)) (h1 : ∀ (j : Nat) (v : Value), j < row.cells.length → arr[o + j]? = some v → v.oneCell' = true) (hcl : Bel 0 row)
      (hs : o + row.cells.length ≤ arr.size) (hr : ∀ (j : Nat) (x : AV) (v : Value), row.cells[j]? = some x → arr[o + j]? = some v → VR c x v) :
      VR c (.eptr row k) (.pointer (some ⟨b, o + k, none⟩))
  | lst0 (sz : Nat) (cp : Option Nat) (a : Option Addr) (cap : Nat) (hcp : ∀ x, cp = some x → cap = x) (ha : cap ≠ 0 → ∃ x, a = some x) : VR c (.lst sz [] cp) (.slice a 0 cap)
  | lst (sz : Nat) (rows : List AV) (cp : Option Nat) (b o cap : Nat) (arr : Array Value) (t : TypeId) (fr : Nat × Nat) (hn : rows ≠ []) (hcp : ∀ x, cp = some x → cap = x) (hl : rows.length ≤ cap)
      (ho : ¬ c.own b) (hb : c.w.heap[b]? = some (.cells arr t fr)) (h1 : ∀ (j : Nat) (v : Value), j < rows.length * sz → arr[o + j]? = some v → v.oneCell' = true) (hcl : ∀ r ∈ rows, Bel 0 r) (hsz : ∀ r ∈ rows, r.cells.length = sz) (hs : o + rows.length * sz ≤ arr.size)
      (hr : ∀ (i j : Nat) (r x : AV) (v : Value), rows[i]? = some r → r.cells[j]? = some x → arr[o + i * sz + j]? = some v → VR c x v) :
      VR c (.lst sz rows cp) (.slice (some ⟨b, o, none⟩) rows.length cap)
  | map (id) (h : c.dom id) : VR c (.map id) (.map (some (c.φ id).b))
  | fn (f : Fn) (as bs : List AV) (xs ys : Array Value) (h1 : as.length = xs.size) (h2 : bs.length = ys.size)
      (hx : ∀ (i : Nat) (a : AV) (x : Value), as[i]? = some a → xs[i]? = some x → VR c a x) (hy : ∀ (i : Nat) (a : AV) (x : Value), bs[i]? = some a → ys[i]? = some x → VR c a x) :
      VR c (.fn f as bs) (.func f xs ys)
  | iface (t a v) (h : VR c a v) : VR c (.iface t a) (.iface t v)
  | agg (as : List AV) (xs : Array Value) (h : as.length = xs.size) (hx : ∀ (i : Nat) (a : AV) (x : Value), as[i]? = some a → xs[i]? = some x → VR c a x) : VR c (.agg as) (.agg xs)
  | tuple (as : List AV) (xs : Array Value) (h : as.length = xs.size) (hx : ∀ (i : Nat) (a : AV) (x : Value), as[i]? = some a → xs[i]? = some x → VR c a x) : VR c (.tuple as) (.tuple xs)

/-- Later: more objects, more blocks; what nobody owned is as it was, and nobody owns it. -/
structure Cx.le (c d : Cx) : Prop where
  dom : ∀ id, c.dom id → d.dom id
  φ : ∀ id, c.dom id → d.φ id = c.φ id
  sz : c.w.heap.size ≤ d.w.heap.size
  own : ∀ b, b < c.w.heap.size → ¬ c.own b → ¬ d.own b
  blk : ∀ b, b < c.w.heap.size → ¬ c.own b → d.w.heap[b]? = c.w.heap[b]?

theorem Cx.le.refl (c : Cx) : c.le c := ⟨fun _ h => h, fun _ _ => rfl, Nat.le_refl _, fun _ _ h => h, fun _ _ _ => rfl⟩
theorem Cx.le.trans {a b c : Cx} (h : a.le b) (k : b.le c) : a.le c :=
  ⟨fun id hi => k.dom id (h.dom id hi), fun id hi => (k.φ id (h.dom id hi)).trans (h.φ id hi), Nat.le_trans h.sz k.sz,
    fun b hb hn => k.own b (Nat.lt_of_lt_of_le hb h.sz) (h.own b hb hn), fun b hb hn => (k.blk b (Nat.lt_of_lt_of_le hb h.sz) (h.own b hb hn)).trans (h.blk b hb hn)⟩

theorem heap_lt {w : World} {b : Nat} {o : Obj} (hb : w.heap[b]? = some o) : b < w.heap.size := (Array.getElem?_eq_some_iff.1 hb).1

theorem VR.mono {c d : Cx} (h : c.le d) {a : AV} {v : Value} (hv : VR c a v) : VR d a v := by
  induction hv with
  | undef v => exact .undef v
  | bool b => exact .bool b
  | int k m => exact .int k m
  | str s => exact .str s
  | nilptr => exact .nilptr
  | nilslc => exact .nilslc
  | nilmap => exact .nilmap
  | nilfn => exact .nilfn
  | niliface => exact .niliface
  | ptr id i k hi hC => rw [← h.φ id hi] at hC ⊢; exact .ptr id i k (h.dom id hi) hC
  | slc id i m cp a cap hi hcp hf hC hm ha => rw [← h.φ id hi] at hf hC ha; exact .slc id i m cp a cap (h.dom id hi) hcp hf hC hm ha
  | eptr row k b o arr t fr ho hb h1 hcl hs hr ih => exact .eptr row k b o arr t fr (h.own b (heap_lt hb) ho) ((h.blk b (heap_lt hb) ho).trans hb) h1 hcl hs ih
  | lst0 sz cp a cap hcp ha => exact .lst0 sz cp a cap hcp ha
  | lst sz rows cp b o cap arr t fr hn hcp hl ho hb h1 hcl hsz hs hr ih => exact .lst sz rows cp b o cap arr t fr hn hcp hl (h.own b (heap_lt hb) ho) ((h.blk b (heap_lt hb) ho).trans hb) h1 hcl hsz hs ih
  | map id hi => rw [← h.φ id hi]; exact .map id (h.dom id hi)
  | fn f as bs xs ys h1 h2 hx hy i1 i2 => exact .fn f as bs xs ys h1 h2 i1 i2
  | iface t a v hv ih => exact .iface t a v ih
  | agg as xs hl hx ih => exact .agg as xs hl ih
  | tuple as xs hl hx ih => exact .tuple as xs hl ih

/-- A value that names no object from n on is seen in what has those objects. -/
theorem VR.cut {c d : Cx} {n : Nat} (hdom : ∀ id, id < n → c.dom id → d.dom id) (hφ : ∀ id, id < n → c.dom id → d.φ id = c.φ id) (ho : ∀ b, ¬ c.own b → ¬ d.own b) (hw : d.w = c.w) {a : AV} {v : Value} (hv : VR c a v) (hb : Bel n a) : VR d a v := by
  induction hv with
  | undef v => exact .undef v
  | bool b => exact .bool b
  | int k m => exact .int k m
  | str s => exact .str s
  | nilptr => exact .nilptr
  | nilslc => exact .nilslc
  | nilmap => exact .nilmap
  | nilfn => exact .nilfn
  | niliface => exact .niliface
  | ptr id i k hi hC => simp only [bel_ptr] at hb; rw [← hφ id hb hi] at hC ⊢; exact .ptr id i k (hdom id hb hi) hC
  | slc id i m cp a cap hi hcp hf hC hm ha => simp only [bel_slc] at hb; rw [← hφ id hb hi] at hf hC ha; exact .slc id i m cp a cap (hdom id hb hi) hcp hf hC hm ha
  | eptr row k b o arr t fr hno hbl h1 hcl hs hr ih =>
    refine .eptr row k b o arr t fr (ho b hno) (by rw [hw]; exact hbl) h1 hcl hs fun j x v hj hv => ih j x v hj hv ?_
    have hx : Bel 0 x := by
      cases row <;> simp only [AV.cells] at hj <;> first | (simp only [bel_agg] at hcl; exact hcl _ (List.mem_of_getElem? hj)) | (cases j <;> simp at hj; subst hj; exact hcl)
    exact hx.mono (Nat.zero_le _)
  | lst0 sz cp a cap hcp ha => exact .lst0 sz cp a cap hcp ha
  | lst sz rows cp b o cap arr t fr hn hcp hl hno hbl h1 hcl hsz hs hr ih =>
    refine .lst sz rows cp b o cap arr t fr hn hcp hl (ho b hno) (by rw [hw]; exact hbl) h1 hcl hsz hs fun i j r x v hi hj hv => ih i j r x v hi hj hv ?_
    have hrow := hcl r (List.mem_of_getElem? hi)
    have hx : Bel 0 x := by
      cases r <;> simp only [AV.cells] at hj <;> first | (simp only [bel_agg] at hrow; exact hrow _ (List.mem_of_getElem? hj)) | (cases j <;> simp at hj; subst hj; exact hrow)
    exact hx.mono (Nat.zero_le _)
  | map id hi => simp only [bel_map] at hb; rw [← hφ id hb hi]; exact .map id (hdom id hb hi)
  | fn f as bs xs ys h1 h2 hx hy i1 i2 =>
    simp only [bel_fn] at hb
    exact .fn f as bs xs ys h1 h2 (fun i a x ha hx => i1 i a x ha hx (hb.1 _ (List.mem_of_getElem? ha))) (fun i a x ha hx => i2 i a x ha hx (hb.2 _ (List.mem_of_getElem? ha)))
  | iface t a v hv ih => simp only [bel_iface] at hb; exact .iface t a v (ih hb)
  | agg as xs hl hx ih => simp only [bel_agg] at hb; exact .agg as xs hl fun i a x ha hx => ih i a x ha hx (hb _ (List.mem_of_getElem? ha))
  | tuple as xs hl hx ih => simp only [bel_tuple] at hb; exact .tuple as xs hl fun i a x ha hx => ih i a x ha hx (hb _ (List.mem_of_getElem? ha))

theorem VR.bel {c : Cx} {n : Nat} (hn : ∀ id, c.dom id → id < n) {a : AV} {v : Value} (hv : VR c a v) : Bel n a := by
  induction hv with
  | ptr id i k hi hC => exact .ptr _ _ _ _ (hn _ hi)
  | slc id i m cp a cap hi => exact .slc _ _ _ _ _ (hn _ hi)
  | eptr row k b o arr t fr hno hbl h1 hcl => exact .eptr _ _ _ hcl
  | lst0 => exact .lst _ _ _ _ (by simp)
  | lst sz rows cp b o cap arr t fr hn hcp hl hno hbl h1 hcl => exact .lst _ _ _ _ hcl
  | map id hi => exact .map _ _ (hn _ hi)
  | fn f as bs xs ys h1 h2 hx hy i1 i2 =>
    refine .fn _ _ _ _ (fun r hr => ?_) (fun r hr => ?_)
    · obtain ⟨i, hi, rfl⟩ := List.getElem_of_mem hr
      exact i1 i _ (xs[i]'(by omega)) (by simp [hi]) (by simp [h1 ▸ hi])
    · obtain ⟨i, hi, rfl⟩ := List.getElem_of_mem hr
      exact i2 i _ (ys[i]'(by omega)) (by simp [hi]) (by simp [h2 ▸ hi])
  | iface t a v hv ih => exact .iface _ _ _ ih
  | agg as xs hl hx ih =>
    refine .agg _ _ fun r hr => ?_
    obtain ⟨i, hi, rfl⟩ := List.getElem_of_mem hr
    exact ih i _ (xs[i]'(by omega)) (by simp [hi]) (by simp [hl ▸ hi])
  | tuple as xs hl hx ih =>
    refine .tuple _ _ fun r hr => ?_
    obtain ⟨i, hi, rfl⟩ := List.getElem_of_mem hr
    exact ih i _ (xs[i]'(by omega)) (by simp [hi]) (by simp [hl ▸ hi])
  | _ => constructor
end Go.Am
