/- Rules by which the machine is evaluated. No Go program is named here; no conditions. -/
import Derived.Test.YtddncgnjakhclaaDoorAm15
set_option linter.unusedVariables false
set_option linter.unusedSimpArgs false
namespace Go.Am
open Go
theorem OptK_some {α : Type} (v : α) (k : α → Prop) : OptK (some v) k = k v := rfl
theorem OptP_some (v : AV) (H : AHeap) (k : AV → AHeap → Prop) : OptP (some (v, H)) k = k v H := rfl
theorem CondP_bool (b : Bool) (A B : Prop) : CondP (.bool b) A B = if b = true then A else B := by cases b <;> rfl
theorem GuardK_true (b : Bool) (A B : Prop) : GuardK (.bool b) true A B = if b = true then A else B := by cases b <;> rfl
theorem GuardK_false (b : Bool) (A B : Prop) : GuardK (.bool b) false A B = if b = true then B else A := by cases b <;> rfl
theorem GuardK_none (w : Bool) (A B : Prop) : GuardK (.tuple []) w A B = B := rfl
theorem CallV_fn (P : Program) (f : FuncId) (a b args : List AV) (H : AHeap) (k : AV → AHeap → Prop) : CallV P (.fn (.func f) a b) args H k = (callable P f = true ∧ CallP P f (a ++ args ++ b) H k) := rfl
theorem CallP_of {P : Program} {f : FuncId} {args : List AV} {H : AHeap} {k : AV → AHeap → Prop} {r : AV} {H' : AHeap} (h : AC P f args H r H') (hk : k r H') : CallP P f args H k := ⟨r, H', h, hk⟩
section
variable (H : AHeap)
theorem cells_agg (cs) : (AV.agg cs).cells = cs := rfl
theorem cells_bool (b) : (AV.bool b).cells = [.bool b] := rfl
theorem cells_int (k n) : (AV.int k n).cells = [.int k n] := rfl
theorem cells_str (s) : (AV.str s).cells = [.str s] := rfl
theorem cells_ptr (a b c) : (AV.ptr a b c).cells = [.ptr a b c] := rfl
theorem cells_slc (a b c d) : (AV.slc a b c d).cells = [.slc a b c d] := rfl
theorem cells_lst' (a b c) : (AV.lst a b c).cells = [.lst a b c] := rfl
theorem cells_fn (a b c) : (AV.fn a b c).cells = [.fn a b c] := rfl
theorem cells_map (a) : (AV.map a).cells = [.map a] := rfl
theorem cells_nilptr : AV.nilptr.cells = [.nilptr] := rfl
theorem cells_nilslc : AV.nilslc.cells = [.nilslc] := rfl
theorem cells_nilmap : AV.nilmap.cells = [.nilmap] := rfl
theorem cells_nilfn : AV.nilfn.cells = [.nilfn] := rfl
theorem cells_iface (t v) : (AV.iface t v).cells = [.iface t v] := rfl
theorem cells_niliface : AV.niliface.cells = [.niliface] := rfl
theorem cell_bool (b) : (AV.bool b).isCell = true := rfl
theorem cell_int (k n) : (AV.int k n).isCell = true := rfl
theorem cell_str (s) : (AV.str s).isCell = true := rfl
theorem cell_ptr (a b c) : (AV.ptr a b c).isCell = true := rfl
theorem cell_slc (a b c d) : (AV.slc a b c d).isCell = true := rfl
theorem cell_lst (a b c) : (AV.lst a b c).isCell = true := rfl
theorem cell_fn (a b c) : (AV.fn a b c).isCell = true := rfl
theorem cell_map (a) : (AV.map a).isCell = true := rfl
theorem cell_nilptr : AV.nilptr.isCell = true := rfl
theorem cell_nilslc : AV.nilslc.isCell = true := rfl
theorem cell_nilmap : AV.nilmap.isCell = true := rfl
theorem cell_nilfn : AV.nilfn.isCell = true := rfl
theorem cell_iface (t v) : (AV.iface t v).isCell = true := rfl
theorem cell_niliface : AV.niliface.isCell = true := rfl
theorem setCells_agg (cs : List AV) (k : Nat) (vs : List AV) : (AV.agg cs).setCells k vs = .agg (cs.take k ++ vs ++ cs.drop (k + vs.length)) := rfl

theorem get_app {H : AHeap} {i : Nat} (h : i < H.length) (l : AHeap) : (H ++ l)[i]? = H[i]? := List.getElem?_append_left h
theorem get_app0 (l : AHeap) : (H ++ l)[H.length]? = l[0]? := by rw [List.getElem?_append_right (Nat.le_refl _), Nat.sub_self]
theorem get_appj (l : AHeap) (j : Nat) : (H ++ l)[H.length + j]? = l[j]? := by rw [List.getElem?_append_right (by omega)]; congr 1; omega
theorem set_app {H : AHeap} {i : Nat} (h : i < H.length) (l : AHeap) (o : Option AObj) : (H ++ l).set i o = H.set i o ++ l := List.set_append_left _ _ h
theorem set_app0 (l : AHeap) (o : Option AObj) : (H ++ l).set H.length o = H ++ l.set 0 o := by rw [List.set_append_right _ _ (Nat.le_refl _), Nat.sub_self]
theorem set_appj (l : AHeap) (j : Nat) (o : Option AObj) : (H ++ l).set (H.length + j) o = H ++ l.set j o := by rw [List.set_append_right _ _ (by omega)]; congr 2; omega
theorem app_app (a b : AHeap) : (H ++ a) ++ b = H ++ (a ++ b) := List.append_assoc ..
theorem len_app (l : AHeap) : (H ++ l).length = H.length + l.length := List.length_append ..
theorem get_set_same {H : AHeap} {i : Nat} (h : i < H.length) (o : Option AObj) : (H.set i o)[i]? = some o := List.getElem?_set_self h
theorem get_set_ne {H : AHeap} {i j : Nat} (h : i ≠ j) (o : Option AObj) : (H.set i o)[j]? = H[j]? := List.getElem?_set_ne h
theorem add_lit (n a b : Nat) : n + a + b = n + (a + b) := Nat.add_assoc ..
theorem lt_len_app {H : AHeap} {i : Nat} (h : i < H.length) (l : AHeap) : (i < H.length + l.length) = True := by simp; omega
theorem lt_len_add {n i : Nat} (h : i < n) (k : Nat) : (i < n + k) = True := by simp; omega
end

/-! ### What a function's end makes -/
/-- A value under new numbers: from m on they become those from n on. -/
inductive Ren (n m : Nat) : AV → AV → Prop
  | same (v) (h : Bel n v) : Ren n m v v
  | slc (i k c) : Ren n m (.slc m i k c) (.slc n i k c)
  | ptr (i k) : Ren n m (.ptr m i k) (.ptr n i k)
  | agg (as bs : List AV) (hl : as.length = bs.length) (h : ∀ (i : Nat) a b, as[i]? = some a → bs[i]? = some b → Ren n m a b) : Ren n m (.agg as) (.agg bs)
  | tuple (as bs : List AV) (hl : as.length = bs.length) (h : ∀ (i : Nat) a b, as[i]? = some a → bs[i]? = some b → Ren n m a b) : Ren n m (.tuple as) (.tuple bs)

/-- What is kept: the old objects, as they are now, and at most one new one, under the next number. -/
theorem fin_move {H0 Hb H' : AHeap} {r r' : AV} {l : AHeap} (e : Hb = H' ++ l) (hlen : H0.length ≤ H'.length) (hobj : ∀ (id : Nat) (o : AObj), H'[id]? = some (some o) → H0[id]? = some (some o) ∨ BelObj H'.length o)
    (j : Nat) {o : AObj} (hj : l[j]? = some (some o)) (hbo : BelObj H'.length o) (hr : Ren H'.length (H'.length + j) r r') : Fin H0 r Hb r' (H' ++ [some o]) := by
  subst e
  intro Z φ0 w0 φ w v hR0 hs hv
  have hjl : j < l.length := (List.getElem?_eq_some_iff.1 hj).1
  have hid : (H' ++ l)[H'.length + j]? = some (some o) := by rw [get_appj]; exact hj
  let φ' := upd φ H'.length (φ (H'.length + j))
  have hφ' : ∀ id, id < H'.length → φ' id = φ id := fun id h => upd_ne (by omega)
  have hφn : φ' H'.length = φ (H'.length + j) := upd_same ..
  have hown : ∀ b, owns φ' (H' ++ [some o]) b → owns φ (H' ++ l) b := by
    rintro b ⟨i, p, hp, hC, rfl⟩
    rcases get_snoc_cases hp with ⟨hi, hp⟩ | ⟨rfl, hpo⟩
    · rw [hφ' _ hi] at hC ⊢
      exact ⟨i, p, by rw [List.getElem?_append_left hi]; exact hp, hC, rfl⟩
    · cases hpo
      rw [hφn] at hC ⊢
      exact ⟨_, o, hid, hC, rfl⟩
  have hdom : ∀ id, id < H'.length → (cx Z φ (H' ++ l) w).dom id → (cx Z φ' (H' ++ [some o]) w).dom id := fun id h _ => by
    show id < (H' ++ [some o]).length
    simp; omega
  have hφc : ∀ id, id < H'.length → (cx Z φ (H' ++ l) w).dom id → (cx Z φ' (H' ++ [some o]) w).φ id = (cx Z φ (H' ++ l) w).φ id := fun id h _ => hφ' id h
  have hoc : ∀ b, ¬ (cx Z φ (H' ++ l) w).own b → ¬ (cx Z φ' (H' ++ [some o]) w).own b := fun b hb h => hb (h.imp (hown b) id)
  have hlive : ∀ i p, H'[i]? = some (some p) → (H' ++ l)[i]? = some (some p) := fun i p h => by rw [List.getElem?_append_left (live_lt h)]; exact h
  refine ⟨φ', ⟨⟨fun id h => ?_, fun id h => ?_, hs.le.sz, fun b hb hn => hoc b (hs.le.own b hb hn), hs.le.blk⟩, hs.os, hs.tape, hs.output, hs.res, ?_, ?_, fun b hb => ⟨(hs.rel.res b hb).1, fun h => (hs.rel.res b hb).2 (hown b h)⟩⟩, ?_⟩
  · show id < (H' ++ [some o]).length
    have : id < H0.length := h
    simp; omega
  · have : id < H0.length := h
    exact (hφ' id (by omega)).trans (hs.le.φ id h)
  · intro i p hp
    rcases get_snoc_cases hp with ⟨hi, hp⟩ | ⟨rfl, hpo⟩
    · have hb : BelObj H'.length p := by
        rcases hobj i p hp with h | h
        · have := (hR0.obj i p h).bel
          cases p with
          | rows t sz rs => exact fun r hr x hx => (this r hr x hx).mono hlen
          | amap es => exact fun q hq => ⟨(this q hq).1.mono hlen, (this q hq).2.mono hlen⟩
          | iter _ _ _ => exact this
        · exact h
      exact OR.cut hdom hφc hoc rfl (hφ' i hi) hb (hs.rel.obj i p (hlive i p hp))
    · cases hpo
      exact OR.cut hdom hφc hoc rfl hφn hbo (hs.rel.obj _ o hid)
  · intro i k p q hp hq hCi hCk hb
    rcases get_snoc_cases hp with ⟨hi, hp⟩ | ⟨rfl, hp⟩ <;> rcases get_snoc_cases hq with ⟨hk, hq⟩ | ⟨rfl, hq⟩
    · rw [hφ' _ hi] at hCi hb; rw [hφ' _ hk] at hCk hb
      exact hs.rel.inj i k p q (hlive i p hp) (hlive k q hq) hCi hCk hb
    · rw [hφ' _ hi] at hCi hb; rw [hφn] at hCk hb
      have := hs.rel.inj i _ p o (hlive i p hp) hid hCi hCk hb
      omega
    · rw [hφ' _ hk] at hCk hb; rw [hφn] at hCi hb
      have := hs.rel.inj _ k o q hid (hlive k q hq) hCi hCk hb
      omega
    · rfl
  · have key : ∀ {a b : AV}, Ren H'.length (H'.length + j) a b → ∀ {u : Value}, VR (cx Z φ (H' ++ l) w) a u → VR (cx Z φ' (H' ++ [some o]) w) b u := by
      intro a b hab
      induction hab with
      | same v h => exact fun hv => hv.cut hdom hφc hoc rfl h
      | slc i k c =>
        intro u hv
        cases hv with
        | slc _ _ _ _ a cap hid hcp hf hiC hm ha =>
          refine .slc _ _ _ _ a cap (by simp) hcp (fun h => ?_) ?_ hm (fun h => ?_)
          · show i + cap = (φ' H'.length).C; rw [hφn]; exact hf h
          · show i + cap ≤ (φ' H'.length).C; rw [hφn]; exact hiC
          · show a = some ⟨(φ' H'.length).b, i * (φ' H'.length).sz, none⟩; rw [hφn]; exact ha h
      | ptr i k =>
        intro u hv
        cases hv with
        | ptr _ _ _ hid hC =>
          have := VR.ptr (c := cx Z φ' (H' ++ [some o]) w) H'.length i k (by simp) (by show (φ' H'.length).C ≠ 0; rw [hφn]; exact hC)
          show VR _ _ (.pointer (some ⟨(φ (H'.length + j)).b, i * (φ (H'.length + j)).sz + k, none⟩))
          rw [← hφn]; exact this
      | agg as bs hl h ih =>
        intro u hv
        cases hv with
        | agg _ xs hl' hx =>
          refine .agg _ _ (by omega) fun i b x hb hx' => ?_
          have hi : i < as.length := by rw [hl]; exact (List.getElem?_eq_some_iff.1 hb).1
          exact ih i as[i] b (List.getElem?_eq_getElem hi) hb (hx i _ x (List.getElem?_eq_getElem hi) hx')
      | tuple as bs hl h ih =>
        intro u hv
        cases hv with
        | tuple _ xs hl' hx =>
          refine .tuple _ _ (by omega) fun i b x hb hx' => ?_
          have hi : i < as.length := by rw [hl]; exact (List.getElem?_eq_some_iff.1 hb).1
          exact ih i as[i] b (List.getElem?_eq_getElem hi) hb (hx i _ x (List.getElem?_eq_getElem hi) hx')
    exact key hr hv

/-- What is kept: the old objects, as they are now, and new ones up to a number. -/
theorem fin_cut {H0 Hb H' : AHeap} {r : AV} {l : AHeap} (e : Hb = H' ++ l) (hlen : H0.length ≤ H'.length) (hobj : ∀ (id : Nat) (o : AObj), H'[id]? = some (some o) → H0[id]? = some (some o) ∨ BelObj H'.length o) (hr : Bel H'.length r) : Fin H0 r Hb r H' := by
  subst e
  intro Z φ0 w0 φ w v hR0 hs hv
  have hlive : ∀ i p, H'[i]? = some (some p) → (H' ++ l)[i]? = some (some p) := fun i p h => by rw [List.getElem?_append_left (live_lt h)]; exact h
  have hown : ∀ b, owns φ H' b → owns φ (H' ++ l) b := fun b ⟨i, p, hp, r⟩ => ⟨i, p, hlive i p hp, r⟩
  have hdom : ∀ id, id < H'.length → (cx Z φ (H' ++ l) w).dom id → (cx Z φ H' w).dom id := fun id h _ => h
  have hoc : ∀ b, ¬ (cx Z φ (H' ++ l) w).own b → ¬ (cx Z φ H' w).own b := fun b hb h => hb (h.imp (hown b) id)
  refine ⟨φ, ⟨⟨fun id h => ?_, hs.le.φ, hs.le.sz, fun b hb hn => hoc b (hs.le.own b hb hn), hs.le.blk⟩, hs.os, hs.tape, hs.output, hs.res, ?_, fun i k p q hp hq => hs.rel.inj i k p q (hlive i p hp) (hlive k q hq), fun b hb => ⟨(hs.rel.res b hb).1, fun h => (hs.rel.res b hb).2 (hown b h)⟩⟩,
    hv.cut hdom (fun _ _ _ => rfl) hoc rfl hr⟩
  · have : id < H0.length := h
    show id < H'.length; omega
  · intro i p hp
    have hb : BelObj H'.length p := by
      rcases hobj i p hp with h | h
      · have := (hR0.obj i p h).bel
        cases p with
        | rows t sz rs => exact fun r hr x hx => (this r hr x hx).mono hlen
        | amap es => exact fun q hq => ⟨(this q hq).1.mono hlen, (this q hq).2.mono hlen⟩
        | iter _ _ _ => exact this
      · exact h
    exact OR.cut hdom (fun _ _ _ => rfl) hoc rfl rfl hb (hs.rel.obj i p (hlive i p hp))

/-- Nothing new is kept. -/
theorem fin_pure {H0 : AHeap} {r : AV} (l : AHeap) (hr : Bel H0.length r) : Fin H0 r (H0 ++ l) r H0 := fin_cut rfl (Nat.le_refl _) (fun _ _ h => .inl h) hr
end Go.Am
