/- More of the machine's operations, each sound: numbers and texts, addresses, parts of values, new memory. No Go program is named here; no conditions. -/
import Derived.Test.YtddncgnjakhclaaDoorAm4
import Derived.Laws.Strings
set_option linter.unusedVariables false
set_option linter.unusedSimpArgs false
namespace Go.Am
open Go
section
variable {P : Program}

theorem toList_inj (a b : ByteArray) : (a.toList == b.toList) = decide (a = b) := by
  by_cases h : a = b
  · subst h; simp
  · have : a.toList ≠ b.toList := fun e => h (by
      have := ByteArray.ext_iff (x := a) (y := b)
      rw [this]
      have h1 : a.data.toList = b.data.toList := by simpa [ByteArray.toList_eq] using e
      exact Array.ext' h1)
    simp [h, this]

theorem bin_sound {c : Cx} {op : BinOp} {x y r : AV} {u v : Value} (hx : VR c x u) (hy : VR c y v) (h : aBin op x y = some r) (t : TypeId) (w : World) :
    ∃ z, (binOp op t u v).run P w = .ok z w ∧ VR c r z := by
  cases x <;> cases y <;> simp only [aBin] at h <;> try cases h
  · rename_i k a k' b
    cases hx; cases hy
    cases op <;> simp only at h <;> (try cases h) <;> (split at h <;> try cases h) <;> rename_i hc
    case add.isTrue.refl => subst hc; exact ⟨_, by simp [binOp, Op.intArith], .int _ _⟩
    case sub.isTrue.refl => subst hc; exact ⟨_, by simp [binOp, Op.intArith], .int _ _⟩
    case mul.isTrue.refl => subst hc; exact ⟨_, by simp [binOp, Op.intArith], .int _ _⟩
    case quo.isTrue.refl => obtain ⟨rfl, hb⟩ := hc; exact ⟨_, by simp [binOp, Op.intDiv, hb], .int _ _⟩
    case rem.isTrue.refl => obtain ⟨rfl, hb⟩ := hc; exact ⟨_, by simp [binOp, Op.intDiv, hb], .int _ _⟩
    case and.isTrue.refl => subst hc; exact ⟨_, by simp [binOp, Op.intBits], .int _ _⟩
    case or.isTrue.refl => subst hc; exact ⟨_, by simp [binOp, Op.intBits], .int _ _⟩
    case xor.isTrue.refl => subst hc; exact ⟨_, by simp [binOp, Op.intBits], .int _ _⟩
    case shl.isTrue.refl => exact ⟨_, by simp only [binOp, Op.shift]; rw [if_neg (by omega)]; rfl, .int _ _⟩
    case shr.isTrue.refl => exact ⟨_, by simp only [binOp, Op.shift]; rw [if_neg (by omega)]; rfl, .int _ _⟩
    case eql.isTrue.refl => subst hc; exact ⟨_, by simp [binOp, Op.intCmp]; rfl, .bool _⟩
    case neq.isTrue.refl => subst hc; exact ⟨_, by simp [binOp, Op.intCmp]; rfl, .bool _⟩
    case lss.isTrue.refl => subst hc; exact ⟨_, by simp [binOp, Op.intCmp], .bool _⟩
    case leq.isTrue.refl => subst hc; exact ⟨_, by simp [binOp, Op.intCmp], .bool _⟩
    case gtr.isTrue.refl => subst hc; exact ⟨_, by simp [binOp, Op.intCmp], .bool _⟩
    case geq.isTrue.refl => subst hc; exact ⟨_, by simp [binOp, Op.intCmp], .bool _⟩
  · rename_i a b
    cases hx; cases hy
    cases op <;> simp only at h <;> (try cases h)
    case add =>
      split at h
      · rename_i hc; cases h
        exact ⟨_, by simp only [binOp, Op.stringOp]; rw [if_neg (by simp [IntKind.max, IntKind.bits, IntKind.signed]; omega)]; rfl, .str _⟩
      · cases h
    case eql.refl => exact ⟨_, by simp only [binOp, Op.stringOp, toList_inj]; rfl, .bool _⟩
    case neq.refl => exact ⟨_, by simp only [binOp, Op.stringOp, toList_inj]; rfl, .bool _⟩
    case lss.refl => exact ⟨_, by simp only [binOp, Op.stringOp]; rfl, .bool _⟩
    case leq.refl => exact ⟨_, by simp only [binOp, Op.stringOp, toList_inj]; rfl, .bool _⟩
    case gtr.refl => exact ⟨_, by simp only [binOp, Op.stringOp, toList_inj]; rfl, .bool _⟩
    case geq.refl => exact ⟨_, by simp only [binOp, Op.stringOp]; rfl, .bool _⟩

theorem bin_guard {c : Cx} {op : BinOp} {x y r : AV} {u v : Value} (hx : VR c x u) (hy : VR c y v) (h : aBin op x y = some r) (t : TypeId) (p q : Operand) (w : World) :
    (eqGuard op t p q u v).run P w = .ok () w := by
  cases x <;> cases y <;> simp only [aBin] at h <;> try cases h
  · cases hx; cases hy; simp [eqGuard]
  · cases hx; cases hy; simp [eqGuard]

theorem run_nil_pointer (d : Nat) (w : World) (t e : TypeId) (hu : P.underlying t = some (.pointer e)) (a b : Option Addr) (h : a = none ∨ b = none) :
    (Op.equalIn (d + 1) t (.pointer a) (.pointer b)).run P w = .ok (a.isNone && b.isNone) w := by
  rcases h with rfl | rfl
  · simp [Op.equalIn, run_underlying hu]
  · cases a <;> simp [Op.equalIn, run_underlying hu]
theorem run_nil_slice (d : Nat) (w : World) (t e : TypeId) (hu : P.underlying t = some (.slice e)) (a b : Option Addr) (n c m k : Nat) (h : a = none ∨ b = none) :
    (Op.equalIn (d + 1) t (.slice a n c) (.slice b m k)).run P w = .ok (a.isNone && b.isNone) w := by
  rcases h with rfl | rfl
  · simp [Op.equalIn, run_underlying hu]
  · cases a <;> simp [Op.equalIn, run_underlying hu]
theorem run_nil_map (d : Nat) (w : World) (t e f : TypeId) (hu : P.underlying t = some (.map e f)) (a b : Option Nat) (h : a = none ∨ b = none) :
    (Op.equalIn (d + 1) t (.map a) (.map b)).run P w = .ok (a.isNone && b.isNone) w := by
  rcases h with rfl | rfl
  · simp [Op.equalIn, run_underlying hu]
  · cases a <;> simp [Op.equalIn, run_underlying hu]
def funcNil : Value → Bool
  | .nilFunc => true
  | _ => false
def isFn : Value → Bool
  | .nilFunc | .func _ _ _ => true
  | _ => false
theorem run_nil_func (d : Nat) (w : World) (t : TypeId) (as rs : Array TypeId) (vd : Bool) (hu : P.underlying t = some (.func as rs vd)) (a b : Value) (ha : isFn a = true) (hb : isFn b = true) (h : funcNil a = true ∨ funcNil b = true) :
    (Op.equalIn (d + 1) t a b).run P w = .ok (funcNil a && funcNil b) w := by
  cases a <;> cases b <;> simp [isFn, funcNil] at ha hb h ⊢ <;> simp [Op.equalIn, run_underlying hu]
theorem eql_of {t : TypeId} {u v : Value} {e : Bool} {w : World} {op : BinOp} {neg : Bool} (hop : cEq op = some neg) (h : (Op.equalIn 10000 t u v).run P w = .ok e w)
    (hi : ∀ op, binOp op t u v = match op with
      | .eql => do pure (.bool (← Op.equal t u v))
      | .neq => do pure (.bool (!(← Op.equal t u v)))
      | _ => binOp op t u v) : (binOp op t u v).run P w = .ok (.bool (if neg then !e else e)) w := by
  have h' : (Op.equal t u v).run P w = .ok e w := h
  cases op <;> simp only [cEq] at hop <;> try cases hop
  · rw [hi]; simp [h']
  · rw [hi]; simp [h']
theorem eqNil_sound {c : Cx} {op : BinOp} {kd : NK} {neg : Bool} {x y : AV} {b : Bool} {u v : Value} (hop : cEq op = some neg) (hx : VR c x u) (hy : VR c y v) (h : aEqNil kd x y = some b) {t : TypeId} {d : TypeDesc} (hu : P.underlying t = some d) (hd : nilKind d = some kd)
    (p q : Operand) (w : World) : (eqGuard op t p q u v).run P w = .ok () w ∧ (binOp op t u v).run P w = .ok (.bool (if neg then !b else b)) w := by
  have key : (Op.equalIn 10000 t u v).run P w = .ok b w ∧ ((∃ a c, u = .pointer a ∧ v = .pointer c) ∨ (∃ a n c b m k, u = .slice a n c ∧ v = .slice b m k) ∨ (∃ a c, u = .map a ∧ v = .map c) ∨ (isFn u = true ∧ isFn v = true)) := by
    cases d <;> simp only [nilKind] at hd <;> cases hd
    · cases x <;> cases y <;> simp only [aEqNil] at h <;> (try cases h) <;> cases hx <;> cases hy <;>
        exact ⟨by exact run_nil_pointer (P := P) 9999 w t _ hu _ _ (by simp), .inl ⟨_, _, rfl, rfl⟩⟩
    · cases x <;> cases y <;> simp only [aEqNil] at h <;> (try cases h)
      · cases hx; cases hy
        exact ⟨by exact run_nil_slice (P := P) 9999 w t _ hu none none 0 0 0 0 (by simp), .inr (.inl ⟨_, _, _, _, _, _, rfl, rfl⟩)⟩
      · rename_i id i n cp
        cases n with
        | zero => simp at h
        | succ n =>
          simp at h; subst h
          cases hx
          cases hy with | slc _ _ _ _ a cap hid hcp hf hi hm ha =>
          obtain ⟨a, rfl⟩ : ∃ a0, a = some a0 := ⟨_, ha (by omega)⟩
          exact ⟨by exact run_nil_slice (P := P) 9999 w t _ hu none (some a) 0 0 (n + 1) cap (by simp), .inr (.inl ⟨_, _, _, _, _, _, rfl, rfl⟩)⟩
      · rename_i sz rows cp
        cases rows with
        | nil => simp at h
        | cons r rs =>
          simp at h; subst h
          cases hx; cases hy
          exact ⟨by exact run_nil_slice (P := P) 9999 w t _ hu none _ 0 0 _ _ (by simp), .inr (.inl ⟨_, _, _, _, _, _, rfl, rfl⟩)⟩
      · rename_i id i n cp
        cases n with
        | zero => simp at h
        | succ n =>
          simp at h; subst h
          cases hy
          cases hx with | slc _ _ _ _ a cap hid hcp hf hi hm ha =>
          obtain ⟨a, rfl⟩ : ∃ a0, a = some a0 := ⟨_, ha (by omega)⟩
          exact ⟨by exact run_nil_slice (P := P) 9999 w t _ hu (some a) none (n + 1) cap 0 0 (by simp), .inr (.inl ⟨_, _, _, _, _, _, rfl, rfl⟩)⟩
      · rename_i sz rows cp
        cases rows with
        | nil => simp at h
        | cons r rs =>
          simp at h; subst h
          cases hx; cases hy
          exact ⟨by exact run_nil_slice (P := P) 9999 w t _ hu _ none _ _ 0 0 (by simp), .inr (.inl ⟨_, _, _, _, _, _, rfl, rfl⟩)⟩
    · cases x <;> cases y <;> simp only [aEqNil] at h <;> (try cases h) <;> cases hx <;> cases hy <;>
        exact ⟨by exact run_nil_map (P := P) 9999 w t _ _ hu _ _ (by simp), .inr (.inr (.inl ⟨_, _, rfl, rfl⟩))⟩
    · cases x <;> cases y <;> simp only [aEqNil] at h <;> (try cases h) <;> cases hx <;> cases hy <;>
        exact ⟨by exact run_nil_func (P := P) 9999 w t _ _ _ hu _ _ rfl rfl (by simp [funcNil]), .inr (.inr (.inr ⟨rfl, rfl⟩))⟩
  obtain ⟨h1, h2⟩ := key
  refine ⟨?_, eql_of hop h1 fun op => ?_⟩
  · rcases h2 with ⟨a, c, rfl, rfl⟩ | ⟨a, n, c, b, m, k, rfl, rfl⟩ | ⟨a, c, rfl, rfl⟩ | ⟨h1, h2⟩
    · simp [eqGuard]
    · simp [eqGuard]
    · simp [eqGuard]
    · cases u <;> cases v <;> simp [isFn] at h1 h2 <;> simp [eqGuard]
  · rcases h2 with ⟨a, c, rfl, rfl⟩ | ⟨a, n, c, b, m, k, rfl, rfl⟩ | ⟨a, c, rfl, rfl⟩ | ⟨h1, h2⟩
    · cases op <;> rfl
    · cases op <;> rfl
    · cases op <;> rfl
    · cases u <;> cases v <;> simp [isFn] at h1 h2 <;> cases op <;> rfl

/-- Where a slice may be nil or not: some answer it is. -/
theorem nilS_sound {c : Cx} {op : BinOp} {neg : Bool} {x y : AV} {u v : Value} (hop : cEq op = some neg) (hx : VR c x u) (hy : VR c y v) (h : nilAmb x y = true) {t : TypeId} {d : TypeDesc} (hu : P.underlying t = some d) (hd : nilKind d = some .slc)
    (p q : Operand) (w : World) : ∃ b, (eqGuard op t p q u v).run P w = .ok () w ∧ (binOp op t u v).run P w = .ok (.bool (if neg then !b else b)) w := by
  have fin : ∀ (a b : Option Addr) (n c m k : Nat), u = .slice a n c → v = .slice b m k → a = none ∨ b = none → ∃ b, (eqGuard op t p q u v).run P w = .ok () w ∧ (binOp op t u v).run P w = .ok (.bool (if neg then !b else b)) w := by
    rintro a b n c m k rfl rfl hab
    have hsl : ∃ e, d = .slice e := by cases d <;> simp [nilKind] at hd; exact ⟨_, rfl⟩
    obtain ⟨e, rfl⟩ := hsl
    refine ⟨_, by simp [eqGuard], eql_of hop (run_nil_slice (P := P) 9999 w t _ hu a b n c m k hab) fun op => ?_⟩
    cases op <;> rfl
  cases x <;> cases y <;> simp [nilAmb] at h
  · cases hx; cases hy; exact fin _ _ _ _ _ _ rfl rfl (.inl rfl)
  · cases hx; cases hy <;> exact fin _ _ _ _ _ _ rfl rfl (.inl rfl)
  · cases hx; cases hy; exact fin _ _ _ _ _ _ rfl rfl (.inr rfl)
  · cases hy; cases hx <;> exact fin _ _ _ _ _ _ rfl rfl (.inr rfl)

theorem faddr_sound {c : Cx} {off : Nat} {x r : AV} {u : Value} (hx : VR c x u) (h : aFaddr off x = some r) : ∃ a : Addr, u = .pointer (some a) ∧ a.spot = none ∧ VR c r (.pointer (some (a.add off))) := by
  cases x <;> simp only [aFaddr] at h <;> cases h
  · cases hx
    rename_i id i k hid hC
    refine ⟨_, rfl, rfl, ?_⟩
    rw [Addr.add_mid, Nat.add_assoc]
    exact .ptr _ _ _ hid hC
  · cases hx
    rename_i row k b o arr t fr ho hb h1 hcl hs hr
    refine ⟨_, rfl, rfl, ?_⟩
    rw [Addr.add_mid, Nat.add_assoc]
    exact .eptr _ _ _ _ _ _ _ ho hb h1 hcl hs hr

theorem part_sound {c : Cx} {ag : Bool} {cs : List AV} {xs : Array Value} {off s : Nat} {r : AV} (hl : cs.length = xs.size) (hx : ∀ (i : Nat) (a : AV) (x : Value), cs[i]? = some a → xs[i]? = some x → VR c a x) (h : partV ag cs off s = some r)
    {t : TypeId} (hb : isRowT P t = some ag) (hs : szT P t = some s) (w : World) : ∃ z, (part t xs off).run P w = .ok z w ∧ VR c r z := by
  cases ag
  · simp only [partV, Bool.false_eq_true, if_false] at h
    have hlt := (List.getElem?_eq_some_iff.1 h).1
    refine ⟨xs[off], ?_, hx off r _ h (by simp)⟩
    simp [part, run_isAgg hb, hl ▸ hlt]
  · simp only [partV, if_true] at h
    split at h
    · rename_i hle
      simp at h; subst h
      refine ⟨.agg (xs.extract off (off + s)), by simp [part, run_isAgg hb, run_sizeOf hs], .agg _ _ (by simp; omega) fun i a x ha hv => ?_⟩
      rw [List.getElem?_take] at ha
      rw [Array.getElem?_extract] at hv
      split at ha
      · rw [List.getElem?_drop] at ha
        split at hv
        · exact hx _ a x ha hv
        · cases hv
      · cases ha
    · cases h

theorem un_sound {c : Cx} {op : UnOp} {x r : AV} {u : Value} (hx : VR c x u) (h : aUn op x = some r) (w : World) : ∃ z, (Op.unary op u).run P w = .ok z w ∧ VR c r z := by
  cases x <;> simp only [aUn] at h <;> (try cases h) <;> cases hx <;> cases op <;> simp only at h <;> cases h
  · exact ⟨_, rfl, .bool _⟩
  · exact ⟨_, rfl, .int _ _⟩

theorem idx_of {c : Cx} {i : AV} {u : Value} (hi : VR c i u) {k : IntKind} {j : Int} (h : i = .int k j) : u = .int k j := by
  subst h; cases hi; rfl

theorem iaddrA_sound {c : Cx} {len es : Nat} {x i r : AV} {u v : Value} (hx : VR c x u) (hi : VR c i v) (h : aIaddrA len es x i = some r) {t e : TypeId} (hu : P.underlying t = some (.array len e)) (hs : szT P e = some es) (w : World) :
    ∃ z, (Instr.indexAt t u v).run P w = .ok z w ∧ VR c r z := by
  cases i <;> simp only [aIaddrA] at h <;> try cases h
  rename_i k j
  cases hi
  split at h
  · rename_i hj
    obtain ⟨a, rfl, ha, hr⟩ := faddr_sound hx h
    refine ⟨_, ?_, hr⟩
    simp [Instr.indexAt, asIntOf, run_underlying hu, Instr.sureAddr, hj, run_sizeOf hs]
  · cases h

theorem cells_lst {c : Cx} {row : AV} {b o : Nat} {arr : Array Value} (hr : ∀ (j : Nat) (x : AV) (v : Value), row.cells[j]? = some x → arr[o + j]? = some v → VR c x v) {t fr} (ho : ¬ c.own b) (hb : c.w.heap[b]? = some (.cells arr t fr)) (h1 : ∀ (j : Nat) (v : Value), j < row.cells.length → arr[o + j]? = some v → v.oneCell' = true) (hcl : Bel 0 row)
    (hs : o + row.cells.length ≤ arr.size) : VR c (.eptr row 0) (.pointer (some ⟨b, o, none⟩)) := .eptr row 0 b o arr t fr ho hb h1 hcl hs hr

theorem iaddrS_sound {c : Cx} {H : AHeap} (hR : RO c H) {x i r : AV} {u v : Value} (hx : VR c x u) (hi : VR c i v) {s : Nat} (h : aIaddrS s H x i = some r) {t e : TypeId} (hu : P.underlying t = some (.slice e)) (hs : szT P e = some s) :
    ∃ z, (Instr.indexAt t u v).run P c.w = .ok z c.w ∧ VR c r z := by
  cases x <;> cases i <;> simp only [aIaddrS] at h <;> (try cases h) <;> cases hi
  · rename_i id i n cp k j
    simp only [Option.bind_eq_some_iff] at h
    obtain ⟨rs, hrs, h⟩ := h
    obtain ⟨t', hl⟩ := rowsOf_some hrs
    split at h
    · rename_i hj
      simp at h; subst h
      cases hx with | slc _ _ _ _ a cap hid hcp hf hiC hm ha =>
      have hcap : cap ≠ 0 := by omega
      obtain rfl := ha hcap
      have hz : (c.φ id).sz = s := (hR id _ hl).1
      refine ⟨.pointer (some ⟨(c.φ id).b, (i + j.toNat) * (c.φ id).sz + 0, none⟩), ?_, .ptr _ _ _ hid (by omega)⟩
      have hadd : i * s + j.toNat * s = (i + j.toNat) * s := by rw [Nat.add_mul]
      simp only [Instr.indexAt, asIntOf, Sem.run_bind, Sem.run_pure, run_underlying hu, Result.andThen_ok]
      simp [hj, run_sizeOf hs, hz, Addr.add_mid, hadd]
    · cases h
  · rename_i sz rows cp k j
    split at h
    · rename_i hj
      obtain ⟨hj, hz⟩ := hj
      simp only [Option.map_eq_some_iff] at h
      obtain ⟨row, hrow, rfl⟩ := h
      have hlt := (List.getElem?_eq_some_iff.1 hrow).1
      cases hx with
      | lst0 => simp at hlt
      | lst _ _ _ b o cap arr t' fr hn hcp hl ho hb h1 hcl hsz hs' hr =>
        have hrl := hsz row (List.mem_of_getElem? hrow)
        have hin : j.toNat * sz + sz ≤ rows.length * sz := by rw [← Nat.succ_mul]; exact Nat.mul_le_mul_right _ hlt
        refine ⟨.pointer (some ⟨b, o + j.toNat * sz, none⟩), ?_, cells_lst (fun j' x v hx hv => hr j.toNat j' row x v hrow hx (by rw [← hv])) ho hb (fun j' v hj' hv => h1 (j.toNat * sz + j') v (by rw [hrl] at hj'; omega) (by rw [← hv, Nat.add_assoc])) (hcl row (List.mem_of_getElem? hrow)) (by rw [hrl]; omega)⟩
        simp only [Instr.indexAt, asIntOf, Sem.run_bind, Sem.run_pure, run_underlying hu, Result.andThen_ok]
        have hj2 : j < (rows.length : Int) := by omega
        simp [hj, hj2, run_sizeOf hs, hz, Addr.add_mid]
    · cases h

theorem indexA_sound {c : Cx} {len es : Nat} {ag : Bool} {x i r : AV} {u v : Value} (hx : VR c x u) (hi : VR c i v) (h : aIndexA len es ag x i = some r) {t e : TypeId} (hu : P.underlying t = some (.array len e)) (hs : szT P e = some es) (hb : isRowT P e = some ag) (w : World) :
    ∃ z, (Instr.index t u v).run P w = .ok z w ∧ VR c r z := by
  cases x <;> cases i <;> simp only [aIndexA] at h <;> (try cases h) <;> cases hi
  rename_i cs k j
  split at h
  · rename_i hj
    cases hx
    rename_i xs hl hx
    obtain ⟨z, hz, hr⟩ := part_sound hl hx h hb hs w
    exact ⟨z, by simp [Instr.index, asIntOf, run_underlying hu, hj, run_sizeOf hs, hz], hr⟩
  · cases h
theorem indexS_sound {c : Cx} {x i r : AV} {u v : Value} (hx : VR c x u) (hi : VR c i v) (h : aIndexS x i = some r) {t : TypeId} (hu : P.underlying t = some .string) (w : World) :
    ∃ z, (Instr.index t u v).run P w = .ok z w ∧ VR c r z := by
  cases x <;> cases i <;> simp only [aIndexS] at h <;> (try cases h) <;> cases hi
  rename_i s k j
  split at h
  · rename_i hj
    simp only [Option.map_eq_some_iff] at h
    obtain ⟨b, hb, rfl⟩ := h
    cases hx
    exact ⟨_, by simp [Instr.index, asIntOf, run_underlying hu, hj, hb], .int _ _⟩
  · cases h
theorem field_sound {c : Cx} {off s : Nat} {ag : Bool} {x r : AV} {u : Value} (hx : VR c x u) (h : aField off s ag x = some r) {t : TypeId} {fields : Array Field} {f : Nat} {fd : Field} (hu : P.underlying t = some (.struct fields)) (hf : fields[f]? = some fd) (ho : fd.offset = off)
    (hs : szT P fd.type = some s) (hb : isRowT P fd.type = some ag) (w : World) : ∃ z, (Instr.field t u f).run P w = .ok z w ∧ VR c r z := by
  cases x <;> simp only [aField] at h <;> try cases h
  cases hx
  rename_i xs hl hx
  subst ho
  obtain ⟨z, hz, hr⟩ := part_sound hl hx h hb hs w
  exact ⟨z, by simp [Instr.field, run_underlying hu, hf, asAgg, hz], hr⟩
end
end Go.Am
