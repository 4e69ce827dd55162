/- Part of the proof: what functions of the program compute, walked. No conditions. -/
import Derived.Test.YtejbmdnhchoilaaGreatP16
set_option linter.unusedVariables false
set_option linter.unusedSimpArgs false
set_option maxRecDepth 100000
section
open Go Go.Am Go.Proofs
namespace Go.Am.Pt
theorem unitsB (jobs : List Jb) (pl : List Nat) (hp : ∀ p ∈ pl, p < jobs.length) (hpl : pl.length < 60) (l3 : List (ByteArray × Int)) (hC : Cnt jobs jobs.length l3) :
    awpC PR ([] : AHeap).length c138s38 (retC [.tmp 2] fun r' Hb => Stop (Fin [] r' Hb (.slc 0 0 (pl.filterMap (unit1 jobs pl)).length none) (outO (pl.filterMap (unit1 jobs pl))))) [(1, .ptr 0 0 0), (3, .slc 2 0 pl.length none), (4, .map 1), (45, .slc 2 0 pl.length none), (46, .fn (.func 163) [] [.ptr 0 0 0]), (47, .tuple [])] [some (.rows 29 1 [jbs jobs]), some (.amap (l3.map fun p => (.str p.1, g3 p.2))), some (.rows 3 1 (pl.map iN))] := by
  have hm : (jobs.map jbA).length = jobs.length := List.length_map ..
  conv => whnf
  refine loop_to pl.length (fun k e H => ∃ l, W5 29 3 jobs pl k l H ∧ e = [(1, .ptr 0 0 0), (3, .slc 2 0 pl.length none), (4, .map 1), (48, .slc 2 0 pl.length none), (49, i64 pl.length), (50, i64 k)]) ?_ ?_
  · rintro k e H hk ⟨l, hW, rfl⟩
    conv => whnf
    generalize hq : decide ((k : Int) < (pl.length : Int)) = q
    cases q
    case false =>
      have hk2 : k = pl.length := by have := of_decide_eq_false hq; omega
      subst hk2
      have t := unitsC jobs pl hp hpl l H hW
      conv at t => whnf
      conv => whnf
      exact t
    have hk2 : k < pl.length := by have := of_decide_eq_true hq; omega
    obtain ⟨p, hpk⟩ : ∃ p, pl[k]? = some p := ⟨_, List.getElem?_eq_getElem hk2⟩
    have hpj := hp p (List.mem_of_getElem? hpk)
    obtain ⟨x, hx⟩ : ∃ x, jobs[p]? = some x := ⟨_, List.getElem?_eq_getElem hpj⟩
    have hpk' : pl[((k : Nat) : Int).toNat]? = some p := hpk
    have hx' : jobs[((p : Nat) : Int).toNat]? = some x := hx
    have hgn : gangN jobs p = x.task.gang := by simp [gangN, hx]
    obtain ⟨v, hv⟩ := hW.all p hpj
    have hstep := @W5.step _ _ _ _ _ _ _ hW _ hpk _ hv
    rw [hgn] at hv hstep
    have hlv : lkD x.task.gang l ⟨0, none, []⟩ = v := by
      obtain ⟨i, hi⟩ := lk_of_mem hW.nd hv
      unfold lkD
      rw [hi]
    conv => whnf
    refine k_idx ?_ _ (rowsOf_of hW.h2) (by omega) (by omega)
    conv => whnf
    refine k_cell (rowAt_of hW.h2 (get_map hpk')) ?_
    conv => whnf
    refine k_cell (rowAt_of hW.h0 rfl) ?_
    conv => whnf
    refine k_el (get_map hx') (by omega) ?_
    conv => whnf
    refine x_lookA (f := g5) (z0 := ⟨0, none, []⟩) v lk2_o mapU strU gangV gangR hW.h1 hlv ?_
    obtain ⟨c, at', w⟩ := v
    cases at' with
    | none =>
      have hw0 : w = [] := hW.none _ hv rfl
      subst hw0
      conv => whnf
      refine forceS_any ?_
      conv => whnf
      obtain ⟨H1, e1, n1, g1, f1⟩ := app_facts H (some (.rows 183 2 [.agg [i64 c, .nilslc]]))
      refine k_stH H1 (r := .agg [i64 0, .nilslc]) rfl (get_app0 H _) ⟨rfl, by decide, by decide, rfl⟩ (by rw [set_app0, e1]; rfl) ?_
      clear e1
      conv => whnf
      refine k_cell (rowAt_of g1 rfl) ?_
      conv => whnf
      obtain ⟨H2, e2, n2, g2, f2⟩ := app_facts H1 (some (.rows 3 1 [iN p]))
      refine fs_to H2 e2.symm ?_
      clear e2
      conv => whnf
      refine app_nilm (f := iN) (new := [p]) (view_o (l := [p]) (rs_eq g2) (by simp) (by simp)) (by simp [roomBound]) ?_
      obtain ⟨H3, e3, n3, g3a, f3⟩ := app_facts H2 (some (.rows 3 1 ([p].map iN)))
      refine fs_to H3 e3.symm ?_
      clear e3
      have g3' : H3[H.length]? = some (some (.rows 183 2 [.agg [i64 c, .nilslc]])) := by rw [f3 _ (by omega), f2 _ (by omega), g1]
      conv => whnf
      obtain ⟨H4, e4, n4, g4, f4⟩ := set_facts H3 H.length (some (.rows 183 2 [.agg [i64 c, .slc H2.length 0 (0 + [p].length) none]])) (by omega)
      refine k_stH H4 (r := .agg [i64 c, .nilslc]) rfl g3' ⟨rfl, by decide, by decide, rfl⟩ (by rw [e4]; rfl) ?_
      clear e4
      conv => whnf
      have F4 : ∀ i, i < H.length → H4[i]? = H[i]? := fun i h => by rw [f4 i (by omega), f3 i (by omega), f2 i (by omega), f1 i h]
      have hl2 := live_lt hW.h2
      have h40 : H4[0]? = some (some (.rows 29 1 [jbs jobs])) := by rw [F4 0 (by omega)]; exact hW.h0
      have h41 := hW.h1
      rw [← F4 1 (by omega)] at h41
      refine k_cell (rowAt_of h40 rfl) ?_
      conv => whnf
      refine k_el (get_map hx') (by omega) ?_
      conv => whnf
      refine k_row (rowAt_of g4 rfl) ?_
      conv => whnf
      refine k_mset (f := g5) ⟨c, some (H.length + 2), [] ++ [p]⟩ (by simp [g5, n2, n1]) h41 ?_
      obtain ⟨H5, e5, n5, g5', f5⟩ := set_facts H4 1 (some (.amap ((ups x.task.gang ⟨c, some (H.length + 2), [] ++ [p]⟩ l).map fun p => (.str p.1, g5 p.2)))) (by omega)
      refine fs_to H5 e5.symm ?_
      clear e5
      conv => whnf
      repeat (first
        | (refine ⟨by simp only [aLoad1, rowAt, f5 0 (by omega), h40]; rfl, ?_⟩; conv => whnf)
        | (refine e_row (rowAt_of ((f5 _ (by omega)).trans g4) rfl) rfl ?_; conv => whnf))
      refine w_i64 (by omega) ?_
      conv => whnf
      refine gcp_id (Nat.zero_le _) ⟨hk2, _, hstep ((f5 0 (by omega)).trans (F4 0 (by omega))) g5' ((f5 2 (by omega)).trans (F4 2 (by omega))) (fun i h1 h2 hne => (f5 i (by omega)).trans (F4 i h2)) ?_, rfl⟩
      rw [f5 _ (by omega), f4 _ (by omega)]
      rw [n2, n1] at g3a
      exact g3a
    | some id =>
      obtain ⟨hid2, hid⟩ := hW.obj _ hv id rfl
      have hidl := live_lt hid
      have hwl : w.length ≤ k := by
        have := (hW.val _ hv).2
        simp only at this
        rw [this]
        exact Nat.le_trans (List.length_filter_le ..) (List.length_take_le ..)
      conv => whnf
      refine forceS_any ?_
      conv => whnf
      obtain ⟨H1, e1, n1, g1, f1⟩ := app_facts H (some (.rows 183 2 [.agg [i64 c, .slc id 0 w.length none]]))
      refine k_stH H1 (r := .agg [i64 0, .nilslc]) rfl (get_app0 H _) ⟨rfl, by decide, by decide, rfl⟩ (by rw [set_app0, e1]; rfl) ?_
      clear e1
      conv => whnf
      refine k_cell (rowAt_of g1 rfl) ?_
      conv => whnf
      obtain ⟨H2, e2, n2, g2, f2⟩ := app_facts H1 (some (.rows 3 1 [iN p]))
      refine fs_to H2 e2.symm ?_
      clear e2
      conv => whnf
      refine app_map (f := iN) (l := w) (new := [p]) (by rw [f2 _ (by omega), f1 _ (by omega)]; exact hid) (view_o (l := [p]) (rs_eq g2) (by simp) (by simp)) (Nat.le_refl _) (by simp [roomBound]; omega) (fun _ => ?_) (fun h => absurd h (by omega))
      obtain ⟨H3, e3, n3, g3a, f3⟩ := app_facts (H2.set id none) (some (.rows 3 1 ((w ++ [p]).map iN)))
      refine fs_to H3 e3.symm ?_
      clear e3
      rw [List.length_set] at n3 g3a f3
      have g3' : H3[H.length]? = some (some (.rows 183 2 [.agg [i64 c, .slc id 0 w.length none]])) := by rw [f3 _ (by omega), List.getElem?_set_ne (by omega), f2 _ (by omega), g1]
      conv => whnf
      obtain ⟨H4, e4, n4, g4, f4⟩ := set_facts H3 H.length (some (.rows 183 2 [.agg [i64 c, .slc H2.length 0 (w.length + [p].length) none]])) (by omega)
      refine k_stH H4 (r := .agg [i64 c, .slc id 0 w.length none]) rfl g3' ⟨rfl, by decide, by decide, rfl⟩ (by rw [e4]; rfl) ?_
      clear e4
      conv => whnf
      have F4 : ∀ i, i < H.length → i ≠ id → H4[i]? = H[i]? := fun i h hne => by rw [f4 i (by omega), f3 i (by omega), List.getElem?_set_ne (Ne.symm hne), f2 i (by omega), f1 i h]
      have hl2 := live_lt hW.h2
      have h40 : H4[0]? = some (some (.rows 29 1 [jbs jobs])) := by rw [F4 0 (by omega) (by omega)]; exact hW.h0
      have h41 := hW.h1
      rw [← F4 1 (by omega) (by omega)] at h41
      refine k_cell (rowAt_of h40 rfl) ?_
      conv => whnf
      refine k_el (get_map hx') (by omega) ?_
      conv => whnf
      refine k_row (rowAt_of g4 rfl) ?_
      conv => whnf
      refine k_mset (f := g5) ⟨c, some (H.length + 2), w ++ [p]⟩ (by simp [g5, n2, n1]) h41 ?_
      obtain ⟨H5, e5, n5, g5', f5⟩ := set_facts H4 1 (some (.amap ((ups x.task.gang ⟨c, some (H.length + 2), w ++ [p]⟩ l).map fun p => (.str p.1, g5 p.2)))) (by omega)
      refine fs_to H5 e5.symm ?_
      clear e5
      conv => whnf
      repeat (first
        | (refine ⟨by simp only [aLoad1, rowAt, f5 0 (by omega), h40]; rfl, ?_⟩; conv => whnf)
        | (refine e_row (rowAt_of ((f5 _ (by omega)).trans g4) rfl) rfl ?_; conv => whnf))
      refine w_i64 (by omega) ?_
      conv => whnf
      refine gcp_id (Nat.zero_le _) ⟨hk2, _, hstep ((f5 0 (by omega)).trans (F4 0 (by omega) (by omega))) g5' ((f5 2 (by omega)).trans (F4 2 (by omega) (by omega))) (fun i h1 h2 hne => (f5 i (by omega)).trans (F4 i h2 (fun e => hne (by rw [e])))) ?_, rfl⟩
      rw [f5 _ (by omega), f4 _ (by omega)]
      rw [n2, n1] at g3a
      exact g3a
  · conv => whnf
    refine gcp_id (Nat.zero_le _) ⟨l3.map fun e => (e.1, ⟨e.2, none, []⟩), ⟨rfl, ?_, rfl, ?_, fun i hi => ?_, fun e he => ?_, fun e he hn => ?_, fun e he id hid => ?_, fun e he f hf id h1 h2 => ?_⟩, rfl⟩
    · rw [List.map_map]; rfl
    · unfold keysOf; rw [List.map_map]; exact hC.nd
    · obtain ⟨c, hc⟩ := hC.all i hi hi
      exact ⟨_, List.mem_map.2 ⟨_, hc, rfl⟩⟩
    · obtain ⟨a, ha, rfl⟩ := List.mem_map.1 he
      have := hC.cnt a ha
      rw [List.take_length] at this
      exact ⟨this, rfl⟩
    · obtain ⟨a, ha, rfl⟩ := List.mem_map.1 he
      rfl
    · obtain ⟨a, ha, rfl⟩ := List.mem_map.1 he
      cases hid
    · obtain ⟨a, ha, rfl⟩ := List.mem_map.1 he
      cases h1
theorem units_ok (jobs : List Jb) (hl : jobs.length < 60) (hs : SeqOne jobs) : AC PR 138 [jbs jobs] [] (.slc 0 0 (unitsF jobs).length none) (outO (unitsF jobs)) := by
  have hm : (jobs.map jbA).length = jobs.length := List.length_map ..
  apply A138
  conv => whnf
  refine x_mkmap mkU_o ?_
  conv => whnf
  refine loop_to jobs.length (fun k e H => ∃ l, Cnt jobs k l ∧ e = [(1, .ptr 0 0 0), (3, .slc 2 0 (plF jobs k).length none), (4, .map 1), (17, jbs jobs), (18, i64 (jobs.map jbA).length), (19, i64 k)] ∧ H = [some (.rows 29 1 [jbs jobs]), some (.amap (l.map fun p => (.str p.1, g3 p.2))), some (.rows 3 1 ((plF jobs k).map iN))]) ?_ ?_
  · rintro k e H hk ⟨l, hC, rfl, rfl⟩
    conv => whnf
    generalize hq : decide ((k : Int) < ((jobs.map jbA).length : Int)) = q
    cases q
    case false =>
      have hk2 : k = jobs.length := by have := of_decide_eq_false hq; omega
      subst hk2
      have hmem := fun p (h : p ∈ plF jobs jobs.length) => (plF_mem h).2.1
      have hpl := plF_len jobs jobs.length
      have c1 := stableI_ok (plF jobs jobs.length) jobs (fun i => i < jobs.length) (totI hs) (fun _ h => h) hmem (by omega)
      have hsl := srt_len (cfI jobs) (plF jobs jobs.length)
      have t := unitsB jobs (srt (cfI jobs) (plF jobs jobs.length)) (srt_mem hmem) (by omega) l hC
      conv at t => whnf
      rw [hsl] at t
      conv => whnf
      refine call_fr (R := .tuple []) [2, 0] [] [some (.rows 3 1 ((srt (cfI jobs) (plF jobs jobs.length)).map iN)), some (.rows 29 1 [jbs jobs])] c1 ?_
      conv => whnf
      exact t
    have hk2 : k < jobs.length := by have := of_decide_eq_true hq; omega
    obtain ⟨x, hx⟩ : ∃ x, jobs[k]? = some x := ⟨_, List.getElem?_eq_getElem hk2⟩
    have hx' : jobs[((k : Nat) : Int).toNat]? = some x := hx
    have hpl := plF_len jobs k
    have hstep := hC.step hx
    have hcl := cntF_le (jobs.take k) x.task.gang
    have htk : (jobs.take k).length ≤ k := List.length_take_le ..
    have hlv : lkD x.task.gang l 0 = (cntF (jobs.take k) x.task.gang : Int) := by
      unfold lkD
      cases hq : lk x.task.gang l 0 with
      | none => rw [hC.none hq]; rfl
      | some p => obtain ⟨i, v⟩ := p; exact hC.cnt _ (lk_mem hq).1
    have hps := plF_succ jobs k
    have hw : waitsP jobs k = decide (x.node = ⟨#[]⟩) := by simp [waitsP, hx]
    rw [hw] at hps
    have c1 := waits_ok x
    generalize cntF (jobs.take k) x.task.gang = c at hcl hlv hstep
    conv => whnf
    refine k_el (get_map hx') (by omega) ?_
    conv => whnf
    refine x_lookA (f := g3) (z0 := 0) (l := l) (c : Int) lk1_o mapU strU gangV gangR rfl hlv ?_
    conv => whnf
    refine w_as ((c : Int) + 1) rfl (by omega) ?_
    conv => whnf
    refine k_mset (f := g3) ((c : Int) + 1) rfl rfl ?_
    conv => whnf
    refine call_closed c1 ?_
    conv => whnf
    generalize hqw : decide (x.node = ⟨#[]⟩) = qw at hps
    cases qw
    case false =>
      conv => whnf
      refine w_i64 (by omega) ?_
      conv => whnf
      rw [if_neg (by simp)] at hps
      rw [← hps]
      exact at_head [some 0, some 1, some 2] _ [(1, .ptr 0 0 0), (3, .slc 2 0 (plF jobs (k + 1)).length none), (4, .map 1), (17, jbs jobs), (18, i64 (jobs.map jbA).length), (19, i64 (k + 1 : Nat))] ⟨hk2, _, hstep, rfl, rfl⟩ (hN := by exact autoG)
    rw [if_pos rfl] at hps
    have hpl2 : (plF jobs (k + 1)).length = (plF jobs k).length + 1 := by rw [hps]; simp
    conv => whnf
    refine app_map (f := iN) (l := plF jobs k) (new := [k]) rfl rfl (Nat.le_refl _) (by simp [roomBound]; omega) (fun _ => ?_) (fun h => absurd h (by omega))
    conv => whnf
    refine w_i64 (by omega) ?_
    conv => whnf
    rw [← hps]
    exact at_head [some 0, some 1, some 6] _ [(1, .ptr 0 0 0), (3, .slc 2 0 (plF jobs (k + 1)).length none), (4, .map 1), (17, jbs jobs), (18, i64 (jobs.map jbA).length), (19, i64 (k + 1 : Nat))] ⟨hk2, _, hstep, rfl, rfl⟩ (hN := by exact autoG)
  · conv => whnf
    exact at_head [some 0, some 1, none] _ [(1, .ptr 0 0 0), (3, .slc 2 0 (plF jobs 0).length none), (4, .map 1), (17, jbs jobs), (18, i64 (jobs.map jbA).length), (19, i64 (0 : Nat))] ⟨[], .zero jobs, rfl, rfl⟩ (hN := by
      (repeat' (first
        | (refine Go'.setF (by assumption) (by intro a; simp; done) ?_)
        | (refine Go'.amapF ?_; intro a; simp; done)
        | exact trivial
        | decide
        | (refine Gv.same _ (Bel.mono (Nat.zero_le _) ?_); assumption)
        | (refine Gr.flat _ ?_; assumption)
        | (refine Gr.closed _ ?_ rfl; assumption)
        | (refine Gv.same _ ?_; simp; done)
        | (refine Go'.map ?_; intro a; simp; done)
        | (refine GrO.mapF ?_; intro a; simp; done)
        | (refine GrO.mapC ?_ rfl; intro a; simp; done)
        | (refine Go'.same _ _ _ ?_; simp; done)
        | exact Gv.slc _ _ _ _ _ rfl
        | exact Gv.ptr _ _ _ _ rfl
        | exact Gv.map _ _ rfl
        | exact Or.inl rfl
        | (refine Gv.nil _ rfl ?_; first | decide | (simp; done))
        | (refine Gv.int ?_; first | omega | (simp; done) | (simp; omega))
        | refine Gv.aggL ?_
        | refine Gv.tupleL ?_
        | refine Gv.fnL ?_ ?_
        | refine Go'.rowsL ?_
        | refine Or.inr ?_
        | refine Exists.intro _ (And.intro rfl ?_)
        | (refine Gr.flat _ ?_; simp; done)
        | (refine GrO.flat _ _ _ ?_; simp; done)
        | (refine Gr.closed _ ?_ rfl; simp; done)
        | (refine GrO.closed _ _ _ ?_ rfl; simp; done)
        | exact Gr.slc _ _ _ _ _ rfl
        | exact Gr.ptr _ _ _ _ rfl
        | refine Gr.aggL ?_
        | refine Gr.tupleL ?_
        | refine GrO.rowsL ?_
        | (refine Gv.lstM ?_; intro a; simp; done)
        | (refine Gv.lend ?_ rfl ?_ ?_ <;> first | exact fz_zip rfl | (simp; done) | rfl | omega | (intro a; simp; done) | (simp; omega))
        | (refine Gv.slcN rfl ?_; first | omega | (simp; done) | (simp; omega))
        | (refine Gv.frz _ _ _ _ _ _ _ _ ?_ rfl ?_ rfl ?_ <;> first | exact fz_zip rfl | (simp; done))
        | exact Gv.nillst _
        | (refine Go'.pre ?_ ?_ <;> first | assumption | (intro a; simp; done))
        | (refine Gv.boolE ?_; first | assumption | (symm; assumption) | (simp; done))
        | refine And.intro rfl ?_
        | refine And.intro ?_ ?_))
      exact .amap _ _ rfl (by simp))
def wkB (m : Mc) (t : Tk) (j : Jb) : Bool := decide (j.node = m.node.name) && decide (j.task.prio < t.prio)
def weakF (m : Mc) (jobs : List Jb) (t : Tk) : List Jb := srt ordW (jobs.filter (wkB m t))
theorem filter_take {α : Type} (p : α → Bool) {l : List α} {k : Nat} {x : α} (h : l[k]? = some x) : (l.take (k + 1)).filter p = if p x = true then (l.take k).filter p ++ [x] else (l.take k).filter p := by
  rw [List.take_add_one, h, List.filter_append]
  cases hp : p x <;> simp [hp]
theorem weaker_ok (m : Mc) (jobs : List Jb) (t : Tk) (hl : jobs.length < 60) (hs : SeqOne jobs) : AC PR 207 [mcA m, jbs jobs, tkA t] [] (jbs (weakF m jobs t)) [] := by
  have hm : (jobs.map jbA).length = jobs.length := List.length_map ..
  apply A207
  conv => whnf
  refine loop_to jobs.length (fun k e H => e = [(3, .ptr 0 0 0), (5, .ptr 1 0 0), (7, .slc 2 0 ((jobs.take k).filter (wkB m t)).length none), (10, jbs jobs), (11, i64 (jobs.map jbA).length), (12, i64 k)] ∧ H = [some (.rows 57 7 [mcA m]), some (.rows 47 10 [tkA t]), rowsJ ((jobs.take k).filter (wkB m t))]) ?_ ?_
  · rintro k e H hk ⟨rfl, rfl⟩
    have hfl : ((jobs.take k).filter (wkB m t)).length ≤ k := Nat.le_trans (List.length_filter_le ..) (List.length_take_le ..)
    conv => whnf
    generalize hq : decide ((k : Int) < ((jobs.map jbA).length : Int)) = q
    cases q
    case false =>
      have hk2 : ¬ k < jobs.length := by have := of_decide_eq_false hq; omega
      rw [show jobs.take k = jobs from List.take_of_length_le (by omega)] at hfl ⊢
      have c1 := stableJ_ok (jobs.filter (wkB m t)) (fun j => j ∈ jobs) (totW hs) (fun z hz => (List.mem_filter.1 hz).1) (by omega)
      have hsl := srt_len ordW (jobs.filter (wkB m t))
      conv => whnf
      refine call_fr (R := .tuple []) [2] [] [rowsJ (weakF m jobs t)] c1 ?_
      conv => whnf
      exact at_end [] (hr := Gv.lend (l := weakF m jobs t) (fun j o hj _ => by simp at hj) rfl hsl.symm (by intro a; simp))
    have hk2 : k < jobs.length := by have := of_decide_eq_true hq; omega
    have hgo := List.getElem?_eq_getElem hk2
    generalize jobs[k] = x at hgo
    have hf := filter_take (wkB m t) hgo
    have hw : wkB m t x = (decide (x.node = m.node.name) && decide (x.task.prio < t.prio)) := rfl
    generalize wkB m t x = b at hw hf
    generalize (jobs.take k).filter (wkB m t) = us at hf hfl
    generalize hq1 : decide (x.node = m.node.name) = q1 at hw
    generalize hq2 : decide (x.task.prio < t.prio) = q2 at hw
    conv => whnf
    repeat ((first | refine And.intro rfl ?_ | refine kA1 ?_ _ | refine kA2 ?_ _ | refine k_row gmA ?_ | refine k_cell gmA ?_ | refine e_row gmA rfl ?_ | refine k_el gmA (by omega) ?_ | refine k_some gmA ?_ | refine f_set _ rfl ?_ | refine kA8 ?_); conv => whnf)
    rw [hq1]
    cases q1
    case false =>
      rw [Bool.false_and] at hw
      subst hw
      rw [if_neg (by simp)] at hf
      conv => whnf
      repeat ((first | refine And.intro rfl ?_ | refine kA1 ?_ _ | refine kA2 ?_ _ | refine k_row gmA ?_ | refine k_cell gmA ?_ | refine e_row gmA rfl ?_ | refine k_el gmA (by omega) ?_ | refine k_some gmA ?_ | refine f_set _ rfl ?_ | refine kA8 ?_); conv => whnf)
      exact at_head [some 0, some 1, some 2] _ [(3, .ptr 0 0 0), (5, .ptr 1 0 0), (7, .slc 2 0 us.length none), (10, jbs jobs), (11, i64 (jobs.map jbA).length), (12, i64 (k + 1 : Nat))] ⟨hk2, by rw [hf], by rw [hf]⟩
    conv => whnf
    rw [hq2]
    cases q2
    case false =>
      rw [Bool.true_and] at hw
      subst hw
      rw [if_neg (by simp)] at hf
      conv => whnf
      repeat ((first | refine And.intro rfl ?_ | refine kA1 ?_ _ | refine kA2 ?_ _ | refine k_row gmA ?_ | refine k_cell gmA ?_ | refine e_row gmA rfl ?_ | refine k_el gmA (by omega) ?_ | refine k_some gmA ?_ | refine f_set _ rfl ?_ | refine kA8 ?_); conv => whnf)
      exact at_head [some 0, some 1, some 2] _ [(3, .ptr 0 0 0), (5, .ptr 1 0 0), (7, .slc 2 0 us.length none), (10, jbs jobs), (11, i64 (jobs.map jbA).length), (12, i64 (k + 1 : Nat))] ⟨hk2, by rw [hf], by rw [hf]⟩
    rw [Bool.true_and] at hw
    subst hw
    rw [if_pos rfl] at hf
    conv => whnf
    refine app_map (f := jbA) (l := us) (new := [x]) rfl rfl (Nat.le_refl _) (by simp [roomBound]; omega) (fun _ => ?_) (fun h => absurd h (by omega))
    conv => whnf
    repeat ((first | refine And.intro rfl ?_ | refine kA1 ?_ _ | refine kA2 ?_ _ | refine k_row gmA ?_ | refine k_cell gmA ?_ | refine e_row gmA rfl ?_ | refine k_el gmA (by omega) ?_ | refine k_some gmA ?_ | refine f_set _ rfl ?_ | refine kA8 ?_); conv => whnf)
    exact at_head [some 0, some 1, some 5] [some (.rows 57 7 [mcA m]), some (.rows 47 10 [tkA t]), rowsJ (us ++ [x])] [(3, .ptr 0 0 0), (5, .ptr 1 0 0), (7, .slc 2 0 (us ++ [x]).length none), (10, jbs jobs), (11, i64 (jobs.map jbA).length), (12, i64 (k + 1 : Nat))] ⟨hk2, by rw [hf], by rw [hf]⟩
  · conv => whnf
    exact at_head [some 0, some 1, none] [some (.rows 57 7 [mcA m]), some (.rows 47 10 [tkA t]), rowsJ ((jobs.take 0).filter (wkB m t))] _ ⟨rfl, rfl⟩
def goW (need : Rs) (dn : List Jb) (free : Rs) : List Jb → List Jb × Bool
  | [] => ([], false)
  | j :: l => if ¬ (addF free j.task.need).2 = 0 then ([], false) else if fitsB need (addF free j.task.need).1 = true then (dn ++ [j], true) else goW need (dn ++ [j]) (addF free j.task.need).1 l
def goneF (m : Mc) (jobs : List Jb) (t : Tk) : List Jb × Bool :=
  if whyF m jobs t = 0 then ([], true) else if ¬ whyF m jobs t = 4 then ([], false) else goW t.need [] (freeF m jobs).1 (weakF m jobs t)
theorem weakF_len (m : Mc) (jobs : List Jb) (t : Tk) : (weakF m jobs t).length ≤ jobs.length := by
  unfold weakF
  rw [srt_len]
  exact List.length_filter_le ..
theorem goneW_ok (m : Mc) (jobs : List Jb) (t : Tk) (hl : jobs.length < 60) (hs : SeqOne jobs) (hml : (m.node.labels.length : Int) ≤ 1000000) (htl : (t.wants.length : Int) ≤ 1000000) : AC PR 187 [mcA m, jbs jobs, tkA t] [] (.tuple [jbs (goneF m jobs t).1, .bool (goneF m jobs t).2]) [] := by
  have c1 := why_ok m jobs t (by omega) hml htl
  have c2 := free_ok m jobs (by omega)
  have c3 := weaker_ok m jobs t hl hs
  have hwl := weakF_len m jobs t
  have hB : goneF m jobs t = if whyF m jobs t = 0 then ([], true) else if ¬ whyF m jobs t = 4 then ([], false) else goW t.need [] (freeF m jobs).1 (weakF m jobs t) := rfl
  generalize whyF m jobs t = y at c1 hB
  generalize freeF m jobs = f at c2 hB
  generalize weakF m jobs t = wl at c3 hB hwl
  generalize goneF m jobs t = r at hB
  obtain ⟨f1, f2⟩ := f
  have hm : (wl.map jbA).length = wl.length := List.length_map ..
  apply A187
  conv => whnf
  refine call_closed c1 ?_
  conv => whnf
  generalize hq1 : decide (y = 0) = q1
  cases q1
  case true =>
    rw [if_pos (of_decide_eq_true hq1)] at hB
    subst hB
    conv => whnf
    exact at_end []
  rw [if_neg (of_decide_eq_false hq1)] at hB
  conv => whnf
  generalize hq2 : decide (y = 4) = q2
  cases q2
  case false =>
    rw [if_pos (of_decide_eq_false hq2)] at hB
    subst hB
    conv => whnf
    exact at_end []
  rw [if_neg (fun h => h (of_decide_eq_true hq2))] at hB
  conv => whnf
  refine call_closed c2 ?_
  conv => whnf
  refine call_closed c3 ?_
  conv => whnf
  refine loop_to wl.length (fun k e H => ∃ fr : Rs, goW t.need (wl.take k) fr (wl.drop k) = r ∧ e = [(5, .ptr 0 0 0), (8, .ptr 1 0 0), (10, jbs wl), (33, jbs wl), (34, i64 (wl.map jbA).length), (35, i64 k)] ∧ H = [some (.rows 47 10 [tkA t]), some (.rows 40 3 [rsA fr])]) ?_ ?_
  · rintro k e H hk ⟨fr, hg, rfl, rfl⟩
    conv => whnf
    generalize hq : decide ((k : Int) < ((wl.map jbA).length : Int)) = q
    cases q
    case false =>
      have hk2 : ¬ k < wl.length := by have := of_decide_eq_false hq; omega
      rw [List.drop_eq_nil_of_le (by omega)] at hg
      simp only [goW] at hg
      subst hg
      conv => whnf
      exact at_end []
    have hk2 : k < wl.length := by have := of_decide_eq_true hq; omega
    have hgo := List.getElem?_eq_getElem hk2
    rw [List.drop_eq_getElem_cons hk2] at hg
    have htk : wl.take (k + 1) = wl.take k ++ [wl[k]] := by rw [List.take_add_one, hgo]; rfl
    generalize wl[k] = x at hgo hg htk
    simp only [goW, ← htk] at hg
    have c4 := add_ok fr x.task.need
    generalize addF fr x.task.need = a at c4 hg
    obtain ⟨a1, a2⟩ := a
    have c5 := fits_ok t.need a1
    generalize fitsB t.need a1 = b at c5 hg
    conv => whnf
    repeat ((first | refine And.intro rfl ?_ | refine kA1 ?_ _ | refine kA2 ?_ _ | refine k_row gmA ?_ | refine k_cell gmA ?_ | refine e_row gmA rfl ?_ | refine k_el gmA (by omega) ?_ | refine k_some gmA ?_ | refine f_set _ rfl ?_ | refine kA8 ?_); conv => whnf)
    refine call_closed c4 ?_
    conv => whnf
    generalize hq3 : decide (a2 = 0) = q3
    cases q3
    case false =>
      rw [if_pos (of_decide_eq_false hq3)] at hg
      subst hg
      conv => whnf
      exact at_end []
    rw [if_neg (fun h => h (of_decide_eq_true hq3))] at hg
    conv => whnf
    refine call_closed c5 ?_
    conv => whnf
    cases b
    case true =>
      rw [if_pos rfl] at hg
      subst hg
      conv => whnf
      repeat ((first | refine And.intro rfl ?_ | refine kA1 ?_ _ | refine kA2 ?_ _ | refine k_row gmA ?_ | refine k_cell gmA ?_ | refine e_row gmA rfl ?_ | refine k_el gmA (by omega) ?_ | refine k_some gmA ?_ | refine f_set _ rfl ?_ | refine kA8 ?_); conv => whnf)
      refine k_some (v := .lst 13 ((wl.take (k + 1)).map jbA) none) (by
        have e0 : 0 ≤ (k : Int) + 1 := by omega
        have e1 : k + 1 ≤ wl.length := hk2
        simp [aSlice, aBounds, AV.natOf, List.map_take, e0, e1]) ?_
      conv => whnf
      exact at_end []
    rw [if_neg (by simp)] at hg
    conv => whnf
    repeat ((first | refine And.intro rfl ?_ | refine kA1 ?_ _ | refine kA2 ?_ _ | refine k_row gmA ?_ | refine k_cell gmA ?_ | refine e_row gmA rfl ?_ | refine k_el gmA (by omega) ?_ | refine k_some gmA ?_ | refine f_set _ rfl ?_ | refine kA8 ?_); conv => whnf)
    exact at_head [some 0, some 1] [some (.rows 47 10 [tkA t]), some (.rows 40 3 [rsA a1])] [(5, .ptr 0 0 0), (8, .ptr 1 0 0), (10, jbs wl), (33, jbs wl), (34, i64 (wl.map jbA).length), (35, i64 (k + 1 : Nat))] ⟨hk2, a1, hg, rfl, rfl⟩
  · conv => whnf
    exact at_head [some 1, some 2] [some (.rows 47 10 [tkA t]), some (.rows 40 3 [rsA f1])] [(5, .ptr 0 0 0), (8, .ptr 1 0 0), (10, jbs wl), (33, jbs wl), (34, i64 (wl.map jbA).length), (35, i64 (0 : Nat))] ⟨f1, by simpa using hB.symm, rfl, rfl⟩
end Go.Am.Pt
end
