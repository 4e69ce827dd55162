/- Two values told apart cell by cell. No Go program is named here; no conditions. -/
import Derived.Test.YtddncgnjakhclaaDoorAm5
import Derived.ChangeKeysEq
set_option linter.unusedVariables false
set_option linter.unusedSimpArgs false
namespace Go.Am
open Go
section
variable {P : Program}

/-- A value's cells from a place on lie in the world as they are said to. -/
def Ali (c : Cx) (as : List AV) (base n : Nat) (us : Array Value) : Prop := ∀ i a, i < n → as[base + i]? = some a → ∃ u, us[i]? = some u ∧ VR c a u
def ValAli (P : Program) (c : Cx) (as : List AV) (base n : Nat) (t : TypeId) (u : Value) : Prop :=
  (isRowT P t = some true ∧ ∃ us, u = .agg us ∧ Ali c as base n us) ∨ (isRowT P t = some false ∧ ∀ a, as[base]? = some a → VR c a u)

theorem Ali.sub {c : Cx} {as : List AV} {base n : Nat} {us : Array Value} (h : Ali c as base n us) {off s : Nat} (hs : off + s ≤ n) : Ali c as (base + off) s (us.extract off (off + s)) := fun i a hi ha => by
  obtain ⟨u, hu, hv⟩ := h (off + i) a (by omega) (by rw [← Nat.add_assoc]; exact ha)
  refine ⟨u, ?_, hv⟩
  have hlt := (Array.getElem?_eq_some_iff.1 hu).1
  rw [Array.getElem?_extract]
  rw [if_pos (by omega)]
  exact hu

theorem part_ali {c : Cx} {as : List AV} {base n : Nat} {us : Array Value} (h : Ali c as base n us) {t : TypeId} {off s : Nat} {b : Bool} (hs : off + s ≤ n) (hz : szT P t = some s) (hr : isRowT P t = some b) (hpos : b = false → 0 < s ∧ ∃ a, as[base + off]? = some a) (w : World) :
    ∃ u, (part t us off).run P w = .ok u w ∧ ValAli P c as (base + off) s t u := by
  cases b with
  | true => exact ⟨.agg (us.extract off (off + s)), by simp [part, run_isAgg hr, run_sizeOf hz], .inl ⟨hr, _, rfl, h.sub hs⟩⟩
  | false =>
    obtain ⟨h0, a, ha⟩ := hpos rfl
    obtain ⟨u, hu, hv⟩ := h off a (by omega) ha
    refine ⟨u, by simp [part, run_isAgg hr, hu], .inr ⟨hr, fun a' ha' => ?_⟩⟩
    rw [ha] at ha'
    cases ha'
    exact hv

theorem eqAt_append {as bs : List AV} : ∀ {l m : List (Nat × Nat)} {b : Bool}, eqAt as bs (l ++ m) = some b → ∃ x y, eqAt as bs l = some x ∧ eqAt as bs m = some y ∧ b = (x && y)
  | [], m, b, h => ⟨true, b, rfl, h, by simp⟩
  | (o, k) :: l, m, b, h => by
    simp only [List.cons_append, eqAt, Option.bind_eq_some_iff, Option.map_eq_some_iff] at h
    obtain ⟨a, ha, a', ha', x, hx, y, hy, rfl⟩ := h
    obtain ⟨p, q, hp, hq, rfl⟩ := eqAt_append hy
    exact ⟨x && p, q, by simp only [eqAt, ha, ha', Option.bind_some, hx, hp, Option.map_some], hq, by rw [Bool.and_assoc]⟩

theorem eqOffs_cell {d : Nat} {t : TypeId} {base : Nat} {l : List (Nat × Nat)} (h : eqOffs P d t base = some l) (hr : isRowT P t = some false) : szT P t = some 1 ∧ ∃ k, l = [(base, k)] ∧ (k = 0 ∧ P.underlying t = some .bool ∨ (k = 1 ∧ ∃ i, P.underlying t = some (.int i)) ∨ k = 2 ∧ P.underlying t = some .string) := by
  cases d with
  | zero => cases h
  | succ d =>
    simp only [eqOffs, Option.bind_eq_some_iff] at h
    obtain ⟨n, hn, h⟩ := h
    unfold isRowT at hr
    cases hu : P.underlying t with
    | none => simp [hu] at hr
    | some kd =>
      rw [hu] at h hr
      cases kd <;> simp [TypeDesc.isRow'] at h hr
      · obtain ⟨rfl, h⟩ := h; exact ⟨hn, 0, h.symm, .inl ⟨rfl, rfl⟩⟩
      · obtain ⟨rfl, h⟩ := h; exact ⟨hn, 1, h.symm, .inr (.inl ⟨rfl, _, rfl⟩)⟩
      · obtain ⟨rfl, h⟩ := h; exact ⟨hn, 2, h.symm, .inr (.inr ⟨rfl, rfl⟩)⟩

theorem eqFields_sound {c : Cx} {as bs : List AV} {base n D d : Nat} {us vs : Array Value} (hu : Ali c as base n us) (hv : Ali c bs base n vs) (w : World)
    (ih : ∀ (t : TypeId) (base s : Nat) (l : List (Nat × Nat)), szT P t = some s → eqOffs P d t base = some l → ∀ u v b, eqAt as bs l = some b → ValAli P c as base s t u → ValAli P c bs base s t v → (Op.equalIn D t u v).run P w = .ok b w) :
    ∀ (fs : List Field) (ll : List (List (Nat × Nat))) (b : Bool), (fs.mapM fun f => (szT P f.type).bind fun s => (isRowT P f.type).bind fun _ => if f.name = "_" ∨ ¬ f.offset + s ≤ n then none else eqOffs P d f.type (base + f.offset)) = some ll → eqAt as bs ll.flatten = some b → (Op.eqFields D us vs fs).run P w = .ok b w
  | [], ll, b, h, hb => by
    simp at h; subst h
    simp only [List.flatten_nil, eqAt, Option.some.injEq] at hb
    subst hb
    simp [Op.eqFields]
  | f :: fs, ll, b, h, hb => by
    rw [List.mapM_cons] at h
    simp only [bind, Option.bind_eq_some_iff, pure, Option.some.injEq] at h
    obtain ⟨l, ⟨s, hs, r, hr, hl⟩, ll', hll, rfl⟩ := h
    split at hl
    · cases hl
    · rename_i hc
      have hn : f.name ≠ "_" := fun e => hc (.inl e)
      have hle : f.offset + s ≤ n := by
        by_cases h : f.offset + s ≤ n
        · exact h
        · exact absurd (.inr h) hc
      rw [List.flatten_cons] at hb
      obtain ⟨x, y, hx, hy, rfl⟩ := eqAt_append hb
      have cell : r = false → 0 < s ∧ (∃ a, as[base + f.offset]? = some a) ∧ ∃ a, bs[base + f.offset]? = some a := fun hrf => by
        subst hrf
        obtain ⟨h1, k, rfl, _⟩ := eqOffs_cell hl hr
        rw [hs] at h1
        cases h1
        simp only [eqAt, Option.bind_eq_some_iff] at hx
        obtain ⟨a, ha, b, hb, _⟩ := hx
        exact ⟨by omega, ⟨a, ha⟩, b, hb⟩
      obtain ⟨u, p1, q1⟩ := part_ali hu hle hs hr (fun hrf => ⟨(cell hrf).1, (cell hrf).2.1⟩) w
      obtain ⟨v, p2, q2⟩ := part_ali hv hle hs hr (fun hrf => ⟨(cell hrf).1, (cell hrf).2.2⟩) w
      have p3 := ih f.type (base + f.offset) s l hs hl u v x hx q1 q2
      have p4 := eqFields_sound hu hv w ih fs ll' y hll hy
      simp only [Op.eqFields, hn, ne_eq, not_false_eq_true, if_true, Sem.run_bind, p1, p2, p3, Result.andThen_ok]
      cases x
      · simp
      · simpa using p4

theorem eqItems_sound {c : Cx} {as bs : List AV} {base n D d s : Nat} {e : TypeId} {r : Bool} {us vs : Array Value} (hu : Ali c as base n us) (hv : Ali c bs base n vs) (hs : szT P e = some s) (hr : isRowT P e = some r) (w : World)
    (ih : ∀ (t : TypeId) (base s : Nat) (l : List (Nat × Nat)), szT P t = some s → eqOffs P d t base = some l → ∀ u v b, eqAt as bs l = some b → ValAli P c as base s t u → ValAli P c bs base s t v → (Op.equalIn D t u v).run P w = .ok b w) :
    ∀ (is : List Nat) (ll : List (List (Nat × Nat))) (b : Bool), (∀ i ∈ is, i * s + s ≤ n) → (is.mapM fun i => eqOffs P d e (base + i * s)) = some ll → eqAt as bs ll.flatten = some b → (Op.eqItems D e s us vs is).run P w = .ok b w
  | [], ll, b, _, h, hb => by
    simp at h; subst h
    simp only [List.flatten_nil, eqAt, Option.some.injEq] at hb
    subst hb
    simp [Op.eqItems]
  | i :: is, ll, b, hi, h, hb => by
    rw [List.mapM_cons] at h
    simp only [bind, Option.bind_eq_some_iff, pure, Option.some.injEq] at h
    obtain ⟨l, hl, ll', hll, rfl⟩ := h
    have hle := hi i (by simp)
    rw [List.flatten_cons] at hb
    obtain ⟨x, y, hx, hy, rfl⟩ := eqAt_append hb
    have cell : r = false → 0 < s ∧ (∃ a, as[base + i * s]? = some a) ∧ ∃ a, bs[base + i * s]? = some a := fun hrf => by
      subst hrf
      obtain ⟨h1, k, rfl, _⟩ := eqOffs_cell hl hr
      rw [hs] at h1
      cases h1
      simp only [eqAt, Option.bind_eq_some_iff] at hx
      obtain ⟨a, ha, b, hb, _⟩ := hx
      exact ⟨by omega, ⟨a, ha⟩, b, hb⟩
    obtain ⟨u, p1, q1⟩ := part_ali hu hle hs hr (fun hrf => ⟨(cell hrf).1, (cell hrf).2.1⟩) w
    obtain ⟨v, p2, q2⟩ := part_ali hv hle hs hr (fun hrf => ⟨(cell hrf).1, (cell hrf).2.2⟩) w
    have p3 := ih e (base + i * s) s l hs hl u v x hx q1 q2
    have p4 := eqItems_sound hu hv hs hr w ih is ll' y (fun j hj => hi j (by simp [hj])) hll hy
    simp only [Op.eqItems, Sem.run_bind, p1, p2, p3, Result.andThen_ok]
    cases x
    · simp
    · simpa using p4

theorem eqIn_sound {c : Cx} {as bs : List AV} (w : World) : ∀ (d D : Nat), d ≤ D → ∀ (t : TypeId) (base s : Nat) (l : List (Nat × Nat)), szT P t = some s → eqOffs P d t base = some l → ∀ u v b, eqAt as bs l = some b → ValAli P c as base s t u → ValAli P c bs base s t v → (Op.equalIn D t u v).run P w = .ok b w
  | 0, _, _, _, _, _, _, _, h, _, _, _, _, _, _ => by cases h
  | d + 1, 0, hD, _, _, _, _, _, _, _, _, _, _, _, _ => by omega
  | d + 1, D + 1, hD, t, base, s, l, hs, h, u, v, b, hb, hu, hv => by
    rcases hu with ⟨hr, us, rfl, hu⟩ | ⟨hr, hu⟩
    · rcases hv with ⟨_, vs, rfl, hv⟩ | ⟨hr', _⟩
      case inr => rw [hr] at hr'; cases hr'
      simp only [eqOffs, Option.bind_eq_some_iff] at h
      obtain ⟨n, hn, h⟩ := h
      rw [hs] at hn
      cases hn
      unfold isRowT at hr
      cases hud : P.underlying t with
      | none => simp [hud] at hr
      | some kd =>
        rw [hud] at h hr
        have ih := eqIn_sound (c := c) (as := as) (bs := bs) w d D (by omega)
        cases kd <;> simp [TypeDesc.isRow'] at hr
        · rename_i k e
          simp only [Option.bind_eq_some_iff] at h
          obtain ⟨s', hs', r, hr', h⟩ := h
          split at h
          · rename_i hle
            simp only [Option.map_eq_some_iff] at h
            obtain ⟨ll, hll, rfl⟩ := h
            obtain ⟨i, hi, hsz⟩ : ∃ i, P.info? e = some i ∧ i.size = s' := by
              unfold szT at hs'
              simpa only [Option.map_eq_some_iff] using hs'
            rw [run_equalIn_array w D us vs hud hi]
            have hc : P.cellsOf e = s' := by simp [Program.cellsOf, hi, hsz]
            rw [hc]
            refine eqItems_sound hu hv hs' hr' w ih (List.range k) ll b (fun j hj => ?_) hll hb
            have hj := List.mem_range.1 hj
            have : (j + 1) * s' ≤ k * s' := Nat.mul_le_mul_right _ hj
            rw [Nat.add_mul, Nat.one_mul] at this
            omega
          · cases h
        · rename_i fields
          simp only at h
          split at h
          · cases h
          · rename_i hst
            simp only [Option.map_eq_some_iff] at h
            obtain ⟨ll, hll, rfl⟩ := h
            have hf : P.fieldsOf t = fields := by simp [Program.fieldsOf, hud]
            rw [run_equalIn_struct w D t us vs (by rw [hf]; exact hud) (by simpa using hst), hf]
            exact eqFields_sound hu hv w ih fields.toList ll b hll hb
    · rcases hv with ⟨hr', _⟩ | ⟨_, hv⟩
      · rw [hr] at hr'; cases hr'
      obtain ⟨_, k, rfl, hk⟩ := eqOffs_cell h hr
      simp only [eqAt, Option.bind_eq_some_iff, Option.map_some, Bool.and_true, Option.some.injEq] at hb
      obtain ⟨a, ha, a', ha', x, hx, rfl⟩ := hb
      have hu := hu a ha
      have hv := hv a' ha'
      rcases hk with ⟨rfl, hud⟩ | ⟨rfl, i, hud⟩ | ⟨rfl, hud⟩
      · cases a <;> cases a' <;> simp only [eqK] at hx <;> cases hx
        cases hu; cases hv
        exact run_equalIn_bool' w D t _ _ hud
      · cases a <;> cases a' <;> simp only [eqK] at hx <;> (try cases hx)
        cases hu; cases hv
        split at hx
        · rename_i e
          cases hx; subst e
          rw [run_equalIn_int w D t _ i _ _ hud]
          congr 1
        · cases hx
      · cases a <;> cases a' <;> simp only [eqK] at hx <;> cases hx
        cases hu; cases hv
        rw [run_equalIn_string w D t _ _ hud, toList_inj]

theorem eqOffs_sz {d : Nat} {t : TypeId} {base : Nat} {l : List (Nat × Nat)} (h : eqOffs P d t base = some l) : ∃ s, szT P t = some s := by
  cases d with
  | zero => cases h
  | succ d =>
    simp only [eqOffs, Option.bind_eq_some_iff] at h
    obtain ⟨n, hn, _⟩ := h
    exact ⟨n, hn⟩

theorem eqAgg_sound {c : Cx} {op : BinOp} {neg ag : Bool} (hop : cEq op = some neg) {x y : AV} {u v : Value} (hx : VR c x u) (hy : VR c y v) {t : TypeId} {d : TypeDesc} (hd : P.underlying t = some d) {l : List (Nat × Nat)}
    (hl : (TypeDesc.isRow' d = true ∧ ag = true ∧ eqOffs P 12 t 0 = some l) ∨ (TypeDesc.isRow' d ≠ true ∧ TypeDesc.isBool d = true ∧ ag = false)) {b : Bool} (hb : aEq ag l x y = some b) (hg : ¬ P.eqGuardType P.depth t = true)
    (p q : Operand) (w : World) : (eqGuard op t p q u v).run P w = .ok () w ∧ (binOp op t u v).run P w = .ok (.bool (if neg then !b else b)) w := by
  have hops : (op = .eql ∧ neg = false) ∨ (op = .neq ∧ neg = true) := by
    cases op <;> simp [cEq] at hop
    · exact .inl ⟨rfl, hop⟩
    · exact .inr ⟨rfl, hop⟩
  rcases hl with ⟨hr, rfl, hl⟩ | ⟨_, hr, rfl⟩
  · have hrow : isRowT P t = some true := by simp [isRowT, hd, hr]
    obtain ⟨s, hs⟩ := eqOffs_sz hl
    cases x <;> cases y <;> simp only [aEq, if_true] at hb <;> try cases hb
    cases hx
    rename_i as bs us hus hu
    cases hy
    rename_i vs hvs hv
    have ali : ∀ {zs : List AV} {ws : Array Value}, zs.length = ws.size → (∀ (i : Nat) (a : AV) (x : Value), zs[i]? = some a → ws[i]? = some x → VR c a x) → Ali c zs 0 s ws := fun {zs ws} h1 h2 i a _ ha => by
      rw [Nat.zero_add] at ha
      have hlt := (List.getElem?_eq_some_iff.1 ha).1
      exact ⟨ws[i]'(by omega), Array.getElem?_eq_getElem _, h2 i a _ ha (Array.getElem?_eq_getElem _)⟩
    have key := eqIn_sound (P := P) w 12 10000 (by omega) t 0 s l hs hl (.agg us) (.agg vs) b hb (.inl ⟨hrow, us, rfl, ali hus hu⟩) (.inl ⟨hrow, vs, rfl, ali hvs hv⟩)
    refine ⟨run_eqGuard_agg w op t p q us vs (by simpa using hg), ?_⟩
    rcases hops with ⟨rfl, rfl⟩ | ⟨rfl, rfl⟩
    · rw [run_eql_struct, key]; rfl
    · rw [run_neq_struct, key]; rfl
  · have hud : P.underlying t = some .bool := by
      cases d <;> simp [TypeDesc.isBool] at hr
      exact hd
    cases x <;> cases y <;> simp [aEq] at hb
    cases hx; cases hy
    subst hb
    have key : ∀ a b : Bool, (Op.equalIn 10000 t (.bool a) (.bool b)).run P w = .ok (a == b) w := fun a b => run_equalIn_bool' w 9999 t a b hud
    rcases hops with ⟨rfl, rfl⟩ | ⟨rfl, rfl⟩
    · exact ⟨by simp [eqGuard], by simp [binOp, Op.equal, Op.maxDepth, key]⟩
    · exact ⟨by simp [eqGuard], by simp [binOp, Op.equal, Op.maxDepth, key]⟩
end
end Go.Am
