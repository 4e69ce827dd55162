/- More of the machine's operations, each sound: what makes memory, slices. No Go program is named here; no conditions. -/
import Derived.Test.YtddncgnjakhclaaDoorAm20
set_option linter.unusedVariables false
set_option linter.unusedSimpArgs false
namespace Go.Am
open Go
section
variable {P : Program}

theorem run_info {t : TypeId} {s : Nat} (h : szT P t = some s) : ∃ i, P.info? t = some i ∧ i.size = s := by
  unfold szT at h
  simpa [Option.map_eq_some_iff] using h
theorem zero_of {t : TypeId} {z : List AV} (h : zeroT P t = some z) : ∃ i v, P.info? t = some i ∧ i.zero = some v ∧ v.cells.toList.mapM cv1 = some z := by
  unfold zeroT at h
  simp only [Option.bind_eq_some_iff] at h
  obtain ⟨i, hi, v, hv, h⟩ := h
  exact ⟨i, v, hi, hv, h⟩
theorem run_zeroValue {t : TypeId} {i : TypeInfo} {v : Value} (hi : P.info? t = some i) (hv : i.zero = some v) (w : World) : (zeroValue t).run P w = .ok v w := by
  simp [zeroValue, typeInfo, hi, hv]
theorem cv1_cell {v : Value} {a : AV} (h : cv1 v = some a) : a.isCell = true := by
  unfold cv1 at h
  split at h <;> simp at h <;> subst h <;> rfl
theorem zero_cells {cs : List Value} {z : List AV} (h : cs.mapM cv1 = some z) : z.all AV.isCell = true := by
  obtain ⟨h1, h2⟩ := mapM_some_get h
  rw [List.all_eq_true]
  intro a ha
  obtain ⟨i, hi, rfl⟩ := List.getElem_of_mem ha
  exact cv1_cell (h2 i cs[i] _ (by simp) (by simp))

/-- A new object that a value of many cells fills: one row. -/
theorem new_sound {Z φ H w} (hR : Rel Z φ H w) {t sz : Nat} {x r : AV} {v : Value} {H' : AHeap} (hx : VR (cx Z φ H w) x v) (h : aNew t sz x H = some (r, H')) :
    ∃ φ' w', (newVar t v).run P w = .ok ⟨w.heap.size, 0, none⟩ w' ∧ Step Z φ H w φ' H' w' ∧ VR (cx Z φ' H' w') r (.pointer (some ⟨w.heap.size, 0, none⟩)) := by
  unfold aNew at h
  split at h
  · rename_i hc
    obtain ⟨c1, c2, c3⟩ := hc
    simp at h
    obtain ⟨rfl, rfl⟩ := h
    have hne := cells_ne_undef c3
    obtain ⟨v1, v2⟩ := hx.cells hne
    have hst := step_alloc hR t sz [x] v.cells 1 c2 (by simp) (by simpa using c1) (by omega) (0, 0) (frOK0 _) (hx.all_one hne c3) (fun i j r y u hr hy hu => by
      cases i with
      | zero => simp at hr; subst hr; exact v2 j y u hy (by simpa using hu)
      | succ i => simp at hr)
    refine ⟨_, _, by simp [newVar, newRow], hst, ?_⟩
    have := VR.ptr (c := cx Z (upd φ H.length ⟨w.heap.size, sz, 1⟩) (H ++ [some (.rows t sz [x])]) (w.alloc (.cells v.cells t))) H.length 0 0 (by simp) (by simp)
    simpa using this
  · cases h

theorem alloc_sound {Z φ H w} (hR : Rel Z φ H w) {t s : Nat} {z : List AV} {r : AV} {H' : AHeap} (hz : zeroT P t = some z) (h : aNew t s (.agg z) H = some (r, H')) :
    ∃ v φ' w', (Instr.alloc t true (.tuple #[])).run P w = .ok v w' ∧ Step Z φ H w φ' H' w' ∧ VR (cx Z φ' H' w') r v := by
  obtain ⟨i, v, hi, hv, hm⟩ := zero_of hz
  obtain ⟨c1, c2⟩ := cv1_cells (c := cx Z φ H w) hm
  have hx : VR (cx Z φ H w) (.agg z) (.agg v.cells) := .agg _ _ (by simpa using c1) (fun i a x ha hx => c2 i a x ha (by simpa using hx))
  obtain ⟨φ', w', h1, h2, h3⟩ := new_sound (P := P) hR hx h
  refine ⟨_, φ', w', ?_, h2, h3⟩
  simp [Instr.alloc, run_zeroValue hi hv]
  have he : (newVar t v) = newVar t (.agg v.cells) := rfl
  rw [he, h1]
  rfl
theorem box_sound {Z φ H w} (hR : Rel Z φ H w) {t s : Nat} {x r : AV} {u : Value} {H' : AHeap} (hx : VR (cx Z φ H w) x u) (h : aNew t s x H = some (r, H')) :
    ∃ v φ' w', (Instr.box t u).run P w = .ok v w' ∧ Step Z φ H w φ' H' w' ∧ VR (cx Z φ' H' w') r v := by
  obtain ⟨φ', w', h1, h2, h3⟩ := new_sound (P := P) hR hx h
  exact ⟨_, φ', w', by simp [Instr.box, h1], h2, h3⟩

/-! ### Aggregates -/
theorem foldl_set (vs : List Value) : ∀ (off : Nat) (k : Nat) (cs : Array Value), (vs.zipIdx k).foldl (fun cs p => cs.setIfInBounds (off + p.2) p.1) cs = (vs.zipIdx (off + k)).foldl (fun cs p => cs.setIfInBounds p.2 p.1) cs := by
  induction vs with
  | nil => intro off k cs; rfl
  | cons v vs ih => intro off k cs; simp only [List.zipIdx_cons, List.foldl_cons]; rw [ih]; rfl
theorem foldl_setIdx : ∀ (vs : List Value) (k : Nat) (cs : Array Value), k + vs.length ≤ cs.size →
    ((vs.zipIdx k).foldl (fun cs p => cs.setIfInBounds p.2 p.1) cs).toList = cs.toList.take k ++ vs ++ cs.toList.drop (k + vs.length)
  | [], k, cs, _ => by simp
  | v :: vs, k, cs, h => by
    simp only [List.zipIdx_cons, List.foldl_cons, List.length_cons] at h ⊢
    rw [foldl_setIdx vs (k + 1) _ (by simp; omega)]
    apply List.ext_getElem?
    intro i
    simp only [List.getElem?_append, List.length_append, List.length_take, Array.length_toList, Array.size_setIfInBounds, List.getElem?_take, List.getElem?_drop, Array.getElem?_toList, Array.getElem?_setIfInBounds, List.length_cons]
    have h1 : min (k + 1) cs.size = k + 1 := by omega
    have h2 : min k cs.size = k := by omega
    rw [h1, h2]
    rcases Nat.lt_trichotomy i k with hi | hi | hi
    · simp [show i < k + 1 + vs.length by omega, show i < k + 1 by omega, show i < k + (vs.length + 1) by omega, hi, show ¬ k = i by omega]
    · subst hi; simp [show i < i + 1 + vs.length by omega, show i < cs.size by omega]
    · by_cases hv : i < k + 1 + vs.length
      · simp [hv, show ¬ i < k + 1 by omega, show i < k + (vs.length + 1) by omega, show ¬ i < k by omega]
        rw [show i - k = (i - (k + 1)) + 1 by omega]; simp
      · simp [hv, show ¬ i < k + (vs.length + 1) by omega, show ¬ k = k + 1 + vs.length + (i - (k + 1 + vs.length)) by omega]
        congr 1; omega

/-- Parts of a value, their places and sizes. -/
def Parts (c : Cx) (l : List (Nat × Nat × AV)) (m : List (Nat × Nat × Value)) : Prop :=
  l.length = m.length ∧ ∀ (i : Nat) p q, l[i]? = some p → m[i]? = some q → p.1 = q.1 ∧ p.2.1 = q.2.1 ∧ VR c p.2.2 q.2.2

def CellsR (c : Cx) (as : List AV) (xs : List Value) : Prop := as.length = xs.length ∧ ∀ (i : Nat) (a : AV) (x : Value), as[i]? = some a → xs[i]? = some x → VR c a x

theorem CellsR.splice {c : Cx} {as bs : List AV} {xs ys : List Value} (h : CellsR c as xs) (k : CellsR c bs ys) (off : Nat) (ho : off + bs.length ≤ as.length) :
    CellsR c (as.take off ++ bs ++ as.drop (off + bs.length)) (xs.take off ++ ys ++ xs.drop (off + ys.length)) := by
  obtain ⟨h1, h2⟩ := h
  obtain ⟨k1, k2⟩ := k
  refine ⟨by simp; omega, fun i a x ha hx => ?_⟩
  simp only [List.getElem?_append, List.length_append, List.length_take, List.getElem?_take, List.getElem?_drop] at ha hx
  have e1 : min off as.length = off := by omega
  have e2 : min off xs.length = off := by omega
  rw [e1] at ha
  rw [e2] at hx
  by_cases c1 : i < off
  · simp [c1, show i < off + bs.length by omega] at ha
    simp [c1, show i < off + ys.length by omega] at hx
    exact h2 i a x ha hx
  · by_cases c2 : i < off + bs.length
    · simp [c1, c2] at ha
      simp [c1, show i < off + ys.length by omega] at hx
      exact k2 _ a x ha hx
    · simp [c1, c2] at ha
      simp [c1, show ¬ i < off + ys.length by omega] at hx
      rw [← k1] at hx
      exact h2 _ a x ha hx

def fillV (zero : List Value) : List (Nat × Nat × Value) → List Value
  | [] => zero
  | (off, _, v) :: rest => fillV (zero.take off ++ v.cells.toList ++ zero.drop (off + v.cells.toList.length)) rest
theorem fill_sound {c : Cx} : ∀ (l : List (Nat × Nat × AV)) (m : List (Nat × Nat × Value)) (place : Nat → Option (Nat × Nat)) (ps : List (Nat × Value)) (zero : List AV) (z : Array Value) {r : List AV}, Parts c l m →
    (ps.length = m.length ∧ ∀ (i : Nat) p q, ps[i]? = some p → m[i]? = some q → place p.1 = some (q.1, q.2.1) ∧ p.2 = q.2.2) → CellsR c zero z.toList → fillA zero l = some r →
    ∃ z', Instr.fill place z ps = some z' ∧ CellsR c r z'.toList
  | [], [], place, ps, zero, z, r, _, hps, hz, h => by
    simp only [fillA] at h; cases h
    obtain rfl : ps = [] := by have := hps.1; simpa using this
    exact ⟨z, rfl, hz⟩
  | [], _ :: _, _, _, _, _, _, hp, _, _, _ => by have := hp.1; simp at this
  | _ :: _, [], _, _, _, _, _, hp, _, _, _ => by have := hp.1; simp at this
  | (off, size, x) :: l, (off', size', v) :: m, place, [], zero, z, r, hp, hps, hz, h => by have := hps.1; simp at this
  | (off, size, x) :: l, (off', size', v) :: m, place, (i, v') :: ps, zero, z, r, hp, hps, hz, h => by
    obtain ⟨e1, e2, hv⟩ := hp.2 0 _ _ rfl rfl
    obtain ⟨e3, e4⟩ := hps.2 0 _ _ rfl rfl
    simp only at e1 e2 hv e3 e4
    subst e1 e2 e4
    simp only [fillA] at h
    split at h
    · rename_i hc
      obtain ⟨c1, c2, c3⟩ := hc
      have hne := cells_ne_undef c3
      obtain ⟨v1, v2⟩ := hv.cells hne
      have hzl := hz.1
      have hbs : CellsR c x.cells v'.cells.toList := ⟨by simpa using v1, fun i a x ha hx => v2 i a x ha (by simpa using hx)⟩
      have hsp := hz.splice hbs off (by omega)
      rw [c1] at hsp
      obtain ⟨z', h1, h2⟩ := fill_sound l m place ps _ (v'.cells.zipIdx.foldl (fun cs (c, j) => cs.setIfInBounds (off + j) c) z) ⟨by have := hp.1; simpa using this, fun i p q a b => hp.2 (i + 1) p q a b⟩
        ⟨by have := hps.1; simpa using this, fun i p q a b => hps.2 (i + 1) p q a b⟩ (r := r) (by
          rw [← Array.foldl_toList, Array.toList_zipIdx]
          have := foldl_set v'.cells.toList off 0 z
          simp only [Nat.add_zero] at this
          rw [show (fun (cs : Array Value) (x : Value × Nat) => match x with | (c, j) => cs.setIfInBounds (off + j) c) = (fun cs p => cs.setIfInBounds (off + p.2) p.1) from rfl, this, foldl_setIdx _ _ _ (by simp at hzl ⊢; omega)]
          exact hsp) h
      refine ⟨z', ?_, h2⟩
      simp only [Instr.fill, e3]
      rw [if_neg]
      · exact h1
      · simp at hzl ⊢
        omega
    · cases h

theorem ev_parts {c : Cx} {st : List AV} {a : Act} (hst : TR c st a.tmps) {fields : Array Field} : ∀ {ps : List (Nat × Operand)} {l : List (Nat × Nat × AX)}, partsOf P fields ps = some l →
    ∃ m, Parts c (l.map fun (a, b, x) => (a, b, x.ev st)) m ∧ ps.length = m.length ∧ ∀ (i : Nat) p q, ps[i]? = some p → m[i]? = some q → (∃ fd, fields[p.1]? = some fd ∧ fd.offset = q.1 ∧ szT P fd.type = some q.2.1) ∧ a.eval p.2 = q.2.2
  | [], l, h => by simp [partsOf] at h; subst h; exact ⟨[], ⟨rfl, fun i p q h => by simp at h⟩, rfl, fun i p q h => by simp at h⟩
  | (f, x) :: ps, l, h => by
    simp only [partsOf, Option.bind_eq_some_iff, Option.map_eq_some_iff] at h
    obtain ⟨fd, hfd, s, hs, y, hy, l', hl', rfl⟩ := h
    obtain ⟨m, h1, h2, h3⟩ := ev_parts hst hl'
    refine ⟨(fd.offset, s, a.eval x) :: m, ⟨by simpa using h1.1, fun i p q hp hq => ?_⟩, by simp [h2], fun i p q hp hq => ?_⟩
    · cases i with
      | zero => simp at hp hq; subst hp hq; exact ⟨rfl, rfl, ax_VR hst hy⟩
      | succ i => exact h1.2 i p q (by simpa using hp) (by simpa using hq)
    · cases i with
      | zero => simp at hp hq; subst hp hq; exact ⟨⟨fd, hfd, rfl, hs⟩, rfl⟩
      | succ i => exact h3 i p q (by simpa using hp) (by simpa using hq)
theorem ev_partsA {c : Cx} {st : List AV} {a : Act} (hst : TR c st a.tmps) {es : Nat} : ∀ {ps : List (Nat × Operand)} {l : List (Nat × Nat × AX)}, partsA es ps = some l →
    ∃ m, Parts c (l.map fun (a, b, x) => (a, b, x.ev st)) m ∧ ps.length = m.length ∧ ∀ (i : Nat) p q, ps[i]? = some p → m[i]? = some q → (q.1 = p.1 * es ∧ q.2.1 = es) ∧ a.eval p.2 = q.2.2
  | [], l, h => by simp [partsA] at h; subst h; exact ⟨[], ⟨rfl, fun i p q h => by simp at h⟩, rfl, fun i p q h => by simp at h⟩
  | (f, x) :: ps, l, h => by
    simp only [partsA, Option.bind_eq_some_iff, Option.map_eq_some_iff] at h
    obtain ⟨y, hy, l', hl', rfl⟩ := h
    obtain ⟨m, h1, h2, h3⟩ := ev_partsA hst hl'
    refine ⟨(f * es, es, a.eval x) :: m, ⟨by simpa using h1.1, fun i p q hp hq => ?_⟩, by simp [h2], fun i p q hp hq => ?_⟩
    · cases i with
      | zero => simp at hp hq; subst hp hq; exact ⟨rfl, rfl, ax_VR hst hy⟩
      | succ i => exact h1.2 i p q (by simpa using hp) (by simpa using hq)
    · cases i with
      | zero => simp at hp hq; subst hp hq; exact ⟨⟨rfl, rfl⟩, rfl⟩
      | succ i => exact h3 i p q (by simpa using hp) (by simpa using hq)

theorem mapM_places (w : World) : ∀ {fs : List Field} {ss : List Nat}, fs.mapM (fun f => szT P f.type) = some ss →
    (fs.mapM fun f => do pure (f.offset, ← sizeOf f.type) : Sem (List (Nat × Nat))).run P w = .ok (fs.zipWith (fun f s => (f.offset, s)) ss) w
  | [], ss, h => by simp at h; subst h; simp
  | f :: fs, ss, h => by
    rw [List.mapM_cons] at h
    cases hf : szT P f.type with
    | none => simp [hf] at h
    | some s =>
      cases hs : fs.mapM (fun f => szT P f.type) with
      | none => simp [hf, hs] at h
      | some ss' =>
        simp [hf, hs] at h
        subst h
        have ih := mapM_places w hs
        rw [List.mapM_cons]
        simp only [Sem.run_bind, run_sizeOf hf, Result.andThen_ok, Sem.run_pure, ih, List.zipWith_cons_cons]

theorem cellsR_agg {c : Cx} {as : List AV} {xs : Array Value} (h : CellsR c as xs.toList) : VR c (.agg as) (.agg xs) :=
  .agg _ _ (by simpa using h.1) fun i a x ha hx => h.2 i a x ha (by simpa using hx)

theorem mapM_array {α β : Type} (f : α → Sem β) (l : Array α) (w : World) {r : List β} (h : (l.toList.mapM f).run P w = .ok r w) : (l.mapM f).run P w = .ok r.toArray w := by
  rw [Array.mapM_eq_mapM_toList, Sem.run_map, h]
  rfl

theorem build_sound {c : Cx} {st : List AV} {a : Act} (hst : TR c st a.tmps) {t : TypeId} {parts : Array (Nat × Operand)} {zero : List AV} {l : List (Nat × Nat × AX)} {r : List AV} (hz : zeroT P t = some zero)
    (hp : (∃ fields ss, P.underlying t = some (.struct fields) ∧ fields.toList.mapM (fun f => szT P f.type) = some ss ∧ partsOf P fields parts.toList = some l) ∨ (∃ n e s, P.underlying t = some (.array n e) ∧ szT P e = some s ∧ partsA s parts.toList = some l))
    (h : fillA zero (l.map fun (a, b, x) => (a, b, x.ev st)) = some r) (w : World) : ∃ v, (Instr.build t (parts.map fun (i, x) => (i, a.eval x))).run P w = .ok v w ∧ VR c (.agg r) v := by
  obtain ⟨i, zv, hi, hv, hm⟩ := zero_of hz
  have hzr : CellsR c zero zv.cells.toList := by
    obtain ⟨c1, c2⟩ := cv1_cells (c := c) hm
    exact ⟨c1, c2⟩
  rcases hp with ⟨fields, ss, hu, hss, hl⟩ | ⟨n, e, s, hu, hs, hl⟩
  · obtain ⟨m, h1, h2, h3⟩ := ev_parts hst hl
    have hpl := mapM_array _ fields w (mapM_places w hss)
    obtain ⟨z', q1, q2⟩ := fill_sound _ m ((fields.toList.zipWith (fun f s => (f.offset, s)) ss).toArray[·]?) ((parts.map fun (i, x) => (i, a.eval x)).toList) zero zv.cells h1 ⟨by simpa using h2, fun i p q hp hq => by
      simp only [Array.toList_map, List.getElem?_map, Option.map_eq_some_iff] at hp
      obtain ⟨⟨f, x⟩, hp, rfl⟩ := hp
      obtain ⟨⟨fd, hfd, ho, hsz⟩, he⟩ := h3 i _ q hp hq
      refine ⟨?_, he⟩
      simp only [List.getElem?_toArray, List.getElem?_zipWith]
      obtain ⟨m1, m2⟩ := mapM_some_get hss
      have hfl : fields.toList[f]? = some fd := by simpa using hfd
      have hlt : f < ss.length := by have := (List.getElem?_eq_some_iff.1 hfl).1; omega
      have := m2 f fd ss[f] hfl (by simp)
      rw [hsz] at this
      rw [hfl]
      simp only [List.getElem?_eq_getElem hlt, ho]
      exact congrArg some (Prod.ext rfl (Option.some.inj this).symm)⟩ hzr h
    refine ⟨.agg z', ?_, cellsR_agg q2⟩
    simp only [Instr.build, Sem.run_bind, run_zeroValue hi hv, Result.andThen_ok, run_underlying hu]
    simp only [hpl, Result.andThen_ok]
    simp only [q1, Sem.run_pure]
  · obtain ⟨m, h1, h2, h3⟩ := ev_partsA hst hl
    obtain ⟨z', q1, q2⟩ := fill_sound _ m (fun i => some (i * s, s)) ((parts.map fun (i, x) => (i, a.eval x)).toList) zero zv.cells h1 ⟨by simpa using h2, fun i p q hp hq => by
      simp only [Array.toList_map, List.getElem?_map, Option.map_eq_some_iff] at hp
      obtain ⟨⟨f, x⟩, hp, rfl⟩ := hp
      obtain ⟨⟨e1, e2⟩, he⟩ := h3 i _ q hp hq
      exact ⟨by rw [e1, e2], he⟩⟩ hzr h
    refine ⟨.agg z', ?_, cellsR_agg q2⟩
    simp only [Instr.build, Sem.run_bind, run_zeroValue hi hv, Result.andThen_ok, run_underlying hu, run_sizeOf hs]
    simp only [q1, Sem.run_pure]
end
end Go.Am
