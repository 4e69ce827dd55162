/- Slices of the machine, each operation sound. No Go program is named here; no conditions. -/
import Derived.Test.YtddncgnjakhclaaDoorAm6
set_option linter.unusedVariables false
set_option linter.unusedSimpArgs false
namespace Go.Am
open Go
section
variable {P : Program}

theorem natOf_VR {c : Cx} {x : AV} {u : Value} (hx : VR c x u) {n : Nat} (h : x.natOf = some n) : ∃ k, u = .int k (n : Int) := by
  cases x <;> simp only [AV.natOf] at h <;> try cases h
  cases hx
  rename_i k m
  split at h
  · simp at h; subst h
    exact ⟨k, by congr 1; omega⟩
  · cases h
theorem run_bound (k : IntKind) (n y : Nat) (h : n ≤ y) (code : BoundsCode) (w : World) : (Instr.sliceBound (.int k n) y code).run P w = .ok n w := by
  simp [Instr.sliceBound, asIntOf, h]

/-- An operand that may be left out. -/
def OptVR (c : Cx) (x : Option AV) (u : Option Value) : Prop := (x = none ∧ u = none) ∨ ∃ a v, x = some a ∧ u = some v ∧ VR c a v

theorem bounds_sound {c : Cx} {lo hi mx : Option AV} {l' h' m' : Option Value} (hl : OptVR c lo l') (hh : OptVR c hi h') (hm : OptVR c mx m') {len cap : Nat} {l h : Nat} {m : Option Nat} (he : aBounds len lo hi mx = some (l, h, m))
    (hcap : match m with | none => h ≤ cap | some m => h ≤ m ∧ m ≤ cap) (hsome : ¬ (mx.isSome = true ∧ hi.isNone = true)) (sl : Bool) (w : World) :
    (Instr.sliceBounds sl len cap l' h' m').run P w = .ok (l, h, m.getD cap) w := by
  unfold aBounds at he
  simp only [Option.bind_eq_some_iff] at he
  obtain ⟨l0, e1, h0, e2, m0, e3, e4⟩ := he
  split at e4
  · rename_i hlh
    simp at e4
    obtain ⟨rfl, rfl, rfl⟩ := e4
    rcases hm with ⟨rfl, rfl⟩ | ⟨ma, mv, rfl, rfl, hmv⟩
    · simp at e3; subst e3
      simp only at hcap
      rcases hh with ⟨rfl, rfl⟩ | ⟨ha, hv, rfl, rfl, hhv⟩
      · simp at e2; subst e2
        rcases hl with ⟨rfl, rfl⟩ | ⟨la, lv, rfl, rfl, hlv⟩
        · simp at e1; subst e1
          simp [Instr.sliceBounds]
        · obtain ⟨k, rfl⟩ := natOf_VR hlv e1
          simp [Instr.sliceBounds, run_bound _ _ _ hlh]
      · obtain ⟨k, rfl⟩ := natOf_VR hhv e2
        rcases hl with ⟨rfl, rfl⟩ | ⟨la, lv, rfl, rfl, hlv⟩
        · simp at e1; subst e1
          simp [Instr.sliceBounds, run_bound _ _ _ hcap]
        · obtain ⟨k, rfl⟩ := natOf_VR hlv e1
          simp [Instr.sliceBounds, run_bound _ _ _ hlh, run_bound _ _ _ hcap]
    · simp only [Option.map_eq_some_iff] at e3
      obtain ⟨m1, e3, rfl⟩ := e3
      obtain ⟨k, rfl⟩ := natOf_VR hmv e3
      simp only at hcap
      obtain ⟨hc1, hc2⟩ := hcap
      rcases hh with ⟨rfl, rfl⟩ | ⟨ha, hv, rfl, rfl, hhv⟩
      · simp at hsome
      · obtain ⟨k, rfl⟩ := natOf_VR hhv e2
        rcases hl with ⟨rfl, rfl⟩ | ⟨la, lv, rfl, rfl, hlv⟩
        · simp at e1; subst e1
          simp [Instr.sliceBounds, run_bound _ _ _ hc1, run_bound _ _ _ hc2]
        · obtain ⟨k, rfl⟩ := natOf_VR hlv e1
          simp [Instr.sliceBounds, run_bound _ _ _ hlh, run_bound _ _ _ hc1, run_bound _ _ _ hc2]
  · cases e4

theorem aBounds_le {len : Nat} {lo hi mx : Option AV} {l h : Nat} {m : Option Nat} (he : aBounds len lo hi mx = some (l, h, m)) : l ≤ h := by
  unfold aBounds at he
  simp only [Option.bind_eq_some_iff] at he
  obtain ⟨l0, e1, h0, e2, m0, e3, e4⟩ := he
  split at e4
  · simp at e4; omega
  · cases e4

theorem slice_sound {c : Cx} {H : AHeap} (hR : RO c H) {x r : AV} {u : Value} (hx : VR c x u) {lo hi mx : Option AV} {l' h' m' : Option Value} (hl : OptVR c lo l') (hh : OptVR c hi h') (hm : OptVR c mx m')
    {t e : TypeId} {s : Nat} (hu : P.underlying t = some (.slice e)) (hs : szT P e = some s) (hsome : ¬ (mx.isSome = true ∧ hi.isNone = true)) (h : aSlice s H x lo hi mx = some r) :
    ∃ v, (Instr.sliceAt t u l' h' m').run P c.w = .ok v c.w ∧ VR c r v := by
  have hat : ∀ u, (Instr.sliceAt t u l' h' m').run P c.w = (Instr.slice t u l' h' m').run P c.w := fun u => by
    simp only [Instr.sliceAt, Sem.run_bind, run_underlying hu, Result.andThen_ok]
  rw [hat]
  cases x <;> simp only [aSlice] at h <;> try cases h
  · simp only [Option.bind_eq_some_iff] at h
    obtain ⟨⟨l, h0, m⟩, hb, h⟩ := h
    simp only at h
    split at h
    · rename_i hc
      obtain ⟨rfl, hc2⟩ := hc
      simp at h; subst h
      cases hx
      have hle := aBounds_le hb
      have hbs := bounds_sound (P := P) hl hh hm hb (cap := 0) (by cases m <;> simp at hc2 ⊢; omega) hsome true c.w
      refine ⟨.slice none 0 0, ?_, .nilslc⟩
      obtain rfl : l = 0 := by omega
      simp only [Instr.slice, Sem.run_bind, run_underlying hu, Result.andThen_ok, hbs, run_sizeOf hs, Sem.run_pure]
      cases m <;> simp at hc2 ⊢
      subst hc2; simp
    · cases h
  · rename_i id i n cp
    simp only [Option.bind_eq_some_iff] at h
    obtain ⟨rs, hrs, ⟨l, h0, m⟩, hb, h⟩ := h
    obtain ⟨t', hl'⟩ := rowsOf_some hrs
    obtain ⟨q1, q2, q3, q4, q5⟩ := hR id _ hl'
    have hle := aBounds_le hb
    cases hx with
    | slc _ _ _ _ a cap hid hcp hf hiC hm' ha =>
      have hcapge : cp.getD (rs.length - i) ≤ cap ∨ rs.length < i := by
        cases cp with
        | none => simp; have := hf rfl; omega
        | some x => left; simp; exact Nat.le_of_eq (hcp x rfl).symm
      cases m with
      | none =>
        simp only at h
        split at h
        · rename_i hc
          simp at h; subst h
          have hbs := bounds_sound (P := P) hl hh hm hb (cap := cap) (by simp only; omega) hsome true c.w
          refine ⟨.slice (if cap = l then a else a.map (·.add (l * s))) (h0 - l) (cap - l), ?_, .slc _ _ _ _ _ _ hid ?_ ?_ ?_ ?_ ?_⟩
          · simp only [Instr.slice, Sem.run_bind, run_underlying hu, Result.andThen_ok, hbs, run_sizeOf hs, Sem.run_pure, Option.getD_none]
          · intro x hx
            cases cp with
            | none => simp at hx
            | some y => simp at hx; rw [hcp y rfl, hx]
          · intro hn
            cases cp with
            | none => have := hf rfl; show i + l + (cap - l) = (c.φ id).C; omega
            | some y => simp at hn
          · show i + l + (cap - l) ≤ (c.φ id).C; omega
          · omega
          · intro hne
            rw [if_neg (by omega), ha (by omega)]
            simp only [Option.map_some, Addr.add_mid, Option.some.injEq, Addr.mk.injEq, and_true, true_and]
            rw [q1, Nat.add_mul]
        · cases h
      | some m =>
        simp only at h
        split at h
        · rename_i hc
          simp at h; subst h
          have hbs := bounds_sound (P := P) hl hh hm hb (cap := cap) (by simp only; omega) hsome true c.w
          refine ⟨.slice (if m = l then a else a.map (·.add (l * s))) (h0 - l) (m - l), ?_, .slc _ _ _ _ _ _ hid ?_ ?_ ?_ ?_ ?_⟩
          · simp only [Instr.slice, Sem.run_bind, run_underlying hu, Result.andThen_ok, hbs, run_sizeOf hs, Sem.run_pure, Option.getD_some]
          · intro x hx; exact (Option.some.inj hx)
          · intro hn; cases hn
          · show i + l + (m - l) ≤ (c.φ id).C; omega
          · omega
          · intro hne
            rw [if_neg (by omega), ha (by omega)]
            simp only [Option.map_some, Addr.add_mid, Option.some.injEq, Addr.mk.injEq, and_true, true_and]
            rw [q1, Nat.add_mul]
        · cases h
  · rename_i sz rows cp
    simp only [Option.bind_eq_some_iff] at h
    obtain ⟨⟨l, h0, m⟩, hb, h⟩ := h
    have hle := aBounds_le hb
    have fin : ∀ (mm : Nat) (cp' : Option Nat) (cap : Nat) (a : Option Addr), u = .slice a rows.length cap → (∀ x, cp' = some x → mm - l = x) → rows.length ≤ cap → h0 ≤ mm → h0 ≤ rows.length → mm ≤ cap → sz = s → (cap ≠ 0 → ∃ x, a = some x) →
        VR c (.lst sz ((rows.drop l).take (h0 - l)) cp') (.slice (if mm = l then a else a.map (·.add (l * s))) (h0 - l) (mm - l)) := by
      intro mm cp' cap a hua hcp' hlen hhm hhr hmc hzs hasome
      by_cases hemp : h0 = l
      · have e1 : (rows.drop l).take (h0 - l) = [] := by rw [show h0 - l = 0 by omega]; simp
        rw [e1, show h0 - l = 0 by omega]
        refine .lst0 _ _ _ _ hcp' fun hne => ?_
        rw [if_neg (by omega)]
        obtain ⟨x, rfl⟩ := hasome (by omega)
        exact ⟨_, rfl⟩
      · cases hx with
        | lst0 => simp at hhr; omega
        | lst _ _ _ b o cap0 arr t' fr hn hcp0 hl0 ho hb0 h1 hcl hsz hs' hr =>
          injection hua with ha hc
          subst ha
          rw [if_neg (by omega)]
          simp only [Option.map_some, Addr.add_mid]
          have hlen2 : ((rows.drop l).take (h0 - l)).length = h0 - l := by simp; omega
          have hmem : ∀ r, r ∈ (rows.drop l).take (h0 - l) → r ∈ rows := fun r hr => List.mem_of_mem_drop (List.mem_of_mem_take hr)
          have hge : l * sz + (h0 - l) * sz ≤ rows.length * sz := by rw [← Nat.add_mul]; exact Nat.mul_le_mul_right _ (by omega)
          have := VR.lst (c := c) sz ((rows.drop l).take (h0 - l)) cp' b (o + l * sz) (mm - l) arr t' fr (fun e => by have := congrArg List.length e; rw [hlen2] at this; simp at this; omega) hcp' (by omega) ho hb0 (fun j v hj hv => h1 (l * sz + j) v (by rw [hlen2] at hj; omega) (by rw [← hv, Nat.add_assoc])) (fun r hr => hcl r (hmem r hr)) (fun r hr => hsz r (hmem r hr))
            (by rw [hlen2]; omega) (fun i j r x v hi hj hv => by
              rw [List.getElem?_take] at hi
              split at hi
              · rw [List.getElem?_drop] at hi
                exact hr (l + i) j r x v hi hj (by rw [← hv]; congr 1; rw [Nat.add_mul]; omega)
              · cases hi)
          rw [hlen2] at this
          rw [← hzs]
          exact this
    have form : ∃ a cap, u = .slice a rows.length cap ∧ rows.length ≤ cap ∧ (∀ x, cp = some x → cap = x) ∧ (cap ≠ 0 → ∃ x, a = some x) := by
      cases hx with
      | lst0 _ _ a cap hcp ha => exact ⟨a, cap, rfl, by simp, hcp, ha⟩
      | lst _ _ _ b o cap0 arr t' fr hn hcp0 hl0 => exact ⟨_, cap0, rfl, hl0, hcp0, fun _ => ⟨_, rfl⟩⟩
    obtain ⟨a, cap, hua, hlen, hcp, hasome⟩ := form
    cases m with
    | none =>
      simp only at h
      split at h
      · rename_i hc
        simp at h; subst h
        have hbs := bounds_sound (P := P) hl hh hm hb (cap := cap) (by simp only; omega) hsome true c.w
        refine ⟨_, ?_, fin cap _ cap a hua ?_ hlen (by omega) hc.1 (by omega) hc.2 hasome⟩
        · subst hua
          simp only [Instr.slice, Sem.run_bind, run_underlying hu, Result.andThen_ok, hbs, run_sizeOf hs, Sem.run_pure, Option.getD_none]
        · intro x hx
          cases cp with
          | none => simp at hx
          | some y => simp at hx; rw [hcp y rfl, hx]
      · cases h
    | some m =>
      simp only at h
      split at h
      · rename_i hc
        simp at h; subst h
        have hbs := bounds_sound (P := P) hl hh hm hb (cap := cap) (by simp only; omega) hsome true c.w
        refine ⟨_, ?_, fin m _ cap a hua (fun x hx => Option.some.inj hx) hlen (by omega) (by omega) (by omega) hc.2.2 hasome⟩
        · subst hua
          simp only [Instr.slice, Sem.run_bind, run_underlying hu, Result.andThen_ok, hbs, run_sizeOf hs, Sem.run_pure, Option.getD_some]
      · cases h

theorem sliceStr_sound {c : Cx} {x r : AV} {u : Value} (hx : VR c x u) {lo hi : Option AV} {l' h' : Option Value} (hl : OptVR c lo l') (hh : OptVR c hi h') {t : TypeId} (hu : P.underlying t = some .string) (h : aSliceStr x lo hi = some r) (w : World) :
    ∃ v, (Instr.sliceAt t u l' h' none).run P w = .ok v w ∧ VR c r v := by
  cases x <;> simp only [aSliceStr] at h <;> try cases h
  simp only [Option.bind_eq_some_iff] at h
  obtain ⟨⟨l, h0, m⟩, hb, h⟩ := h
  simp only at h
  split at h
  · rename_i hc
    simp at h; subst h
    cases hx
    rename_i s
    have hm0 : m = none := by
      unfold aBounds at hb
      simp only [Option.bind_eq_some_iff] at hb
      obtain ⟨_, _, _, _, m0, e3, e4⟩ := hb
      simp at e3; subst e3
      split at e4
      · simp at e4; exact e4.2.2.symm
      · cases e4
    subst hm0
    have hbs := bounds_sound (P := P) hl hh (.inl ⟨rfl, rfl⟩) hb (cap := s.size) (by simpa using hc) (by simp) false w
    refine ⟨_, ?_, .str _⟩
    simp only [Instr.sliceAt, Instr.slice, Sem.run_bind, run_underlying hu, Result.andThen_ok, Option.isSome_none, Bool.false_eq_true, if_false, hbs, Sem.run_pure]
  · cases h

theorem len_sound {c : Cx} {x : AV} {u : Value} (hx : VR c x u) {n : Nat} (h : aLen x = some n) {t e ty : TypeId} {ts : Array TypeId} (ht : ts[0]? = some t) (hu : P.underlying t = some (.slice e)) (w : World) :
    (Builtin.len_ ts ty #[u]).run P w = .ok (.int .i64 n) w := by
  cases x <;> simp only [aLen] at h <;> cases h <;> cases hx <;> simp [Builtin.len_, ht, run_underlying hu, goInt]
theorem lenS_sound {c : Cx} {x : AV} {u : Value} (hx : VR c x u) {n : Nat} (h : aLenS x = some n) {t ty : TypeId} {ts : Array TypeId} (ht : ts[0]? = some t) (hu : P.underlying t = some .string) (w : World) :
    (Builtin.len_ ts ty #[u]).run P w = .ok (.int .i64 n) w := by
  cases x <;> simp only [aLenS] at h <;> cases h <;> cases hx <;> simp [Builtin.len_, ht, run_underlying hu, goInt]
theorem lenK_sound {n : Nat} {u : Value} {t ty : TypeId} {ts : Array TypeId} (ht : ts[0]? = some t) (hu : (∃ e, P.underlying t = some (.array n e)) ∨ ∃ a e, P.underlying t = some (.pointer a) ∧ P.underlying a = some (.array n e)) (w : World) :
    (Builtin.len_ ts ty #[u]).run P w = .ok (.int .i64 n) w := by
  rcases hu with ⟨e, hu⟩ | ⟨a, e, hu, ha⟩
  · simp [Builtin.len_, ht, run_underlying hu, goInt]
  · simp [Builtin.len_, ht, run_underlying hu, run_underlying ha, goInt]

/-! ### Rows that are read -/
theorem flat_get {rows : List AV} {sz : Nat} (hsz : ∀ r ∈ rows, r.cells.length = sz) : ∀ (i j : Nat) (r : AV), rows[i]? = some r → j < sz → (rows.flatMap AV.cells)[i * sz + j]? = r.cells[j]? := by
  induction rows with
  | nil => intro i j r h; simp at h
  | cons a l ih =>
    intro i j r h hj
    have ha := hsz a (by simp)
    have ih' := ih (fun r hr => hsz r (by simp [hr]))
    rw [List.flatMap_cons]
    cases i with
    | zero => simp at h; subst h; rw [Nat.zero_mul, Nat.zero_add, List.getElem?_append_left (by omega)]
    | succ i =>
      simp at h
      rw [List.getElem?_append_right (by rw [ha, Nat.succ_mul]; omega), ha, ← ih' i j r h hj]
      congr 1
      rw [Nat.succ_mul]; omega
theorem flat_len {rows : List AV} {sz : Nat} (hsz : ∀ r ∈ rows, r.cells.length = sz) : (rows.flatMap AV.cells).length = rows.length * sz := by
  induction rows with
  | nil => simp
  | cons a l ih => rw [List.flatMap_cons, List.length_append, ih (fun r hr => hsz r (by simp [hr])), hsz a (by simp), List.length_cons, Nat.succ_mul]; omega

theorem div_lt {q sz n : Nat} (h : q < n * sz) : q / sz < n := by
  rcases Nat.eq_zero_or_pos sz with h0 | h0
  · subst h0; simp at h
  · exact (Nat.div_lt_iff_lt_mul h0).2 h

/-- A slice's rows lie behind its address. -/
theorem view_soundR {c : Cx} {H : AHeap} (hR : RO c H) {y : AV} {v : Value} (hv : VR c y v) {sz : Nat} {rows : List AV} (h : view sz H y = some rows) (hok : okRows sz rows) (h0 : 0 < sz) :
    ∃ a n cap, v = .slice a n cap ∧ n = rows.length ∧ n ≤ cap ∧ ∃ vs, CellsR c (rows.flatMap AV.cells) vs ∧ (∀ u ∈ vs, u.oneCell' = true) ∧ (rows ≠ [] → ∃ b o, a = some ⟨b, o, none⟩ ∧ c.w.rangeAt b o vs) := by
  have hcells : ∀ r ∈ rows, r.cells.length = sz := fun r hr => (hok r hr).1
  have build : ∀ (b o : Nat) (arr : Array Value) (t : TypeId) (fr : Nat × Nat), c.w.heap[b]? = some (.cells arr t fr) → (∀ (j : Nat) (u : Value), j < rows.length * sz → arr[o + j]? = some u → u.oneCell' = true) → o + rows.length * sz ≤ arr.size →
      (∀ (i j : Nat) (r x : AV) (u : Value), rows[i]? = some r → r.cells[j]? = some x → arr[o + i * sz + j]? = some u → VR c x u) →
      ∃ vs, CellsR c (rows.flatMap AV.cells) vs ∧ (∀ u ∈ vs, u.oneCell' = true) ∧ c.w.rangeAt b o vs := by
    intro b o arr t fr hb h1 hs hr
    refine ⟨(arr.extract o (o + rows.length * sz)).toList, ⟨by rw [flat_len hcells]; simp; omega, fun i a x ha hx => ?_⟩, fun u hu => ?_, World.rangeAt_of_block hb o _⟩
    · have hlt : i < rows.length * sz := by have := (List.getElem?_eq_some_iff.1 ha).1; rwa [flat_len hcells] at this
      have hq := div_lt hlt
      have hrow : rows[i / sz]? = some rows[i / sz] := by simp
      have hmod : i % sz < sz := Nat.mod_lt _ h0
      have hi : i = i / sz * sz + i % sz := by rw [Nat.mul_comm]; exact (Nat.div_add_mod i sz).symm
      rw [hi, flat_get hcells _ _ _ hrow hmod] at ha
      refine hr (i / sz) (i % sz) _ a x hrow ha ?_
      simp only [Array.getElem?_toList, Array.getElem?_extract] at hx
      split at hx
      · rw [Nat.add_assoc, ← hi]; exact hx
      · cases hx
    · obtain ⟨j, hj, rfl⟩ := List.getElem_of_mem hu
      simp at hj
      refine h1 j _ (by omega) ?_
      simp
  cases y <;> simp only [view] at h <;> try cases h
  · cases hv
    exact ⟨none, 0, 0, rfl, rfl, Nat.le_refl _, [], ⟨rfl, fun i a x h => by simp at h⟩, by simp, fun h => absurd rfl h⟩
  · rename_i id i n cp
    simp only [Option.bind_eq_some_iff] at h
    obtain ⟨rs, hrs, h⟩ := h
    obtain ⟨t, hl⟩ := rowsOf_some hrs
    split at h
    · rename_i hle
      simp at h; subst h
      obtain ⟨q1, q2, q3, q4, q5⟩ := hR id _ hl
      cases hv with
      | slc _ _ _ _ a cap hid hcp hf hiC hm ha =>
        refine ⟨a, n, cap, rfl, by simp; omega, hm, ?_⟩
        by_cases hn : n = 0
        · subst hn
          exact ⟨[], by simp [CellsR], by simp, fun h => absurd (by simp) h⟩
        · obtain rfl := ha (by omega)
          obtain ⟨arr, fr, k1, k2, k5, k3, k4⟩ := q5 (by omega)
          obtain ⟨vs, v1, v2, v3⟩ := build _ (i * sz) arr t fr k1 (fun j u _ hu => k3 u (by rw [Array.mem_toList_iff]; exact Array.mem_of_getElem? hu)) (by
            rw [k2]
            simp only [List.length_take, List.length_drop]
            rw [← Nat.add_mul]
            exact Nat.mul_le_mul_right _ (by omega)) (fun i' j r x u hi' hj hu => by
              rw [List.getElem?_take] at hi'
              split at hi'
              · rw [List.getElem?_drop] at hi'
                refine k4 (i + i') j r x u hi' hj ?_
                rw [Nat.add_mul]; exact hu
              · cases hi')
          exact ⟨vs, v1, v2, fun _ => ⟨_, _, by rw [q1], v3⟩⟩
    · cases h
  · rename_i sz' rs cp
    split at h
    · rename_i e
      subst e
      simp at h; subst h
      cases hv with
      | lst0 _ _ a cap hcp ha => exact ⟨a, 0, cap, rfl, rfl, Nat.zero_le _, [], ⟨rfl, fun i a x h => by simp at h⟩, by simp, fun h => absurd rfl h⟩
      | lst _ _ _ b o cap arr t fr hn hcp hl ho hb h1 hcl hsz hs hr =>
        obtain ⟨vs, v1, v2, v3⟩ := build b o arr t fr hb h1 hs hr
        exact ⟨_, _, cap, rfl, rfl, hl, vs, v1, v2, fun _ => ⟨_, _, rfl, v3⟩⟩
    · cases h

theorem view_sound {Z φ H w} (hR : Rel Z φ H w) {y : AV} {v : Value} (hv : VR (cx Z φ H w) y v) {sz : Nat} {rows : List AV} (h : view sz H y = some rows) (hok : okRows sz rows) (h0 : 0 < sz) :
    ∃ a n cap, v = .slice a n cap ∧ n = rows.length ∧ n ≤ cap ∧ ∃ vs, CellsR (cx Z φ H w) (rows.flatMap AV.cells) vs ∧ (∀ u ∈ vs, u.oneCell' = true) ∧ (rows ≠ [] → ∃ b o, a = some ⟨b, o, none⟩ ∧ w.rangeAt b o vs) := view_soundR hR.obj hv h hok h0

/-- What an append's second argument yields. -/
theorem src_sound {Z φ H w} (hR : Rel Z φ H w) {y : AV} {v : Value} (hv : VR (cx Z φ H w) y v) {str : Bool} {sz : Nat} {rows : List AV} (h : srcOf str sz H y = some rows) (hok : okRows sz rows) (h0 : 0 < sz) {t' : TypeId}
    (hk : if str then P.underlying t' = some .string ∧ sz = 1 else ∃ e, P.underlying t' = some (.slice e)) : ∃ vs, CellsR (cx Z φ H w) (rows.flatMap AV.cells) vs ∧ Src P sz t' v rows.length vs w := by
  have hcells : ∀ r ∈ rows, r.cells.length = sz := fun r hr => (hok r hr).1
  cases str
  · simp only [srcOf, Bool.false_eq_true, if_false] at h hk
    obtain ⟨e, hk⟩ := hk
    obtain ⟨a, n, cap, rfl, rfl, hcap, vs, h1, h2, h3⟩ := view_sound hR hv h hok h0
    refine ⟨vs, h1, ?_⟩
    have hlen : vs.length = rows.length * sz := by rw [← h1.1, flat_len hcells]
    by_cases hr : rows = []
    · subst hr
      obtain rfl : vs = [] := by have := h1.1; simpa using this.symm
      cases a with
      | none => exact Src.ofNil w hk cap
      | some a => exact Src.ofSlice w hk a 0 cap [] (by simp) (fun j u h => by simp at h) (by simp)
    · obtain ⟨b, o, rfl, hrange⟩ := h3 hr
      exact Src.ofSlice w hk _ _ cap vs hlen (fun j u hu => by rw [Addr.add_mid]; exact hrange j u hu) h2
  · simp only [srcOf, if_true] at h hk
    obtain ⟨hk, rfl⟩ := hk
    cases y <;> simp only at h <;> try cases h
    cases hv
    rename_i s
    have e : (byteRows s).flatMap AV.cells = byteRows s := by
      unfold byteRows
      induction s.data.toList with
      | nil => rfl
      | cons b l ih => simp only [List.map_cons, List.flatMap_cons, ih]; rfl
    refine ⟨byteCells s, ⟨by rw [e]; simp [byteRows, byteCells], fun i a x ha hx => ?_⟩, by simpa [byteRows] using Src.ofString (P := P) w hk s⟩
    rw [e] at ha
    simp only [byteRows, byteCells, List.getElem?_map, Option.map_eq_some_iff] at ha hx
    obtain ⟨b, hb, rfl⟩ := ha
    obtain ⟨b', hb', rfl⟩ := hx
    rw [hb] at hb'
    cases hb'
    exact .int _ _
end
end Go.Am
