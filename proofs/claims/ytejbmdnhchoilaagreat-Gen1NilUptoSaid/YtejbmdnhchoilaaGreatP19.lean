/- Part of the proof: what functions of the program compute, walked. No conditions. -/
import Derived.Test.YtejbmdnhchoilaaGreatP18
set_option linter.unusedVariables false
set_option linter.unusedSimpArgs false
set_option maxRecDepth 100000
section
open Go Go.Am Go.Proofs
namespace Go.Am.Pt
theorem goW_mem (need : Rs) : ∀ (l dn : List Jb) (fr : Rs), ∀ j ∈ (goW need dn fr l).1, j ∈ dn ∨ j ∈ l
  | [], dn, fr, j, h => by simp [goW] at h
  | i :: l, dn, fr, j, h => by
    unfold goW at h
    split at h
    · simp at h
    · split at h
      · simp at h ⊢; rcases h with h | h
        · exact .inl h
        · exact .inr (.inl h)
      · have := goW_mem need l (dn ++ [i]) _ j h
        simp at this ⊢
        rcases this with (h | h) | h
        · exact .inl h
        · exact .inr (.inl h)
        · exact .inr (.inr h)
theorem goneF_mem (m : Mc) (jobs : List Jb) (t : Tk) : ∀ j ∈ (goneF m jobs t).1, j ∈ jobs := by
  intro j h
  unfold goneF at h
  split at h
  · simp at h
  · split at h
    · simp at h
    · rcases goW_mem _ _ _ _ j h with h | h
      · simp at h
      · exact (List.mem_filter.1 ((srt_perm ..).mem_iff.1 h)).1
theorem choose_names (ms : List Mc) (jobs : List Jb) (t : Tk) : ∀ v ∈ (chooseF ms jobs t).2.1, ∃ j ∈ jobs, j.task.name = v := by
  intro v h
  unfold chooseF at h
  split at h
  · simp at h
  · rename_i a l e
    obtain ⟨j, hj, rfl⟩ := List.mem_map.1 h
    have hm : minO a l ∈ offersF ms jobs t := by
      rw [e]
      rcases minO_mem l a with h | h
      · rw [h]; simp
      · exact List.mem_cons_of_mem _ h
    obtain ⟨m, _, hm⟩ := List.mem_filterMap.1 hm
    split at hm
    · simp only [Option.some.injEq] at hm
      rw [← hm] at hj
      exact ⟨j, goneF_mem _ _ _ _ hj, rfl⟩
    · cases hm
theorem choose_len (ms : List Mc) (jobs : List Jb) (t : Tk) : (chooseF ms jobs t).2.1.length ≤ jobs.length := by
  unfold chooseF
  split
  · simp
  · rename_i a l e
    have hm : minO a l ∈ offersF ms jobs t := by
      rw [e]
      rcases minO_mem l a with h | h
      · rw [h]; simp
      · exact List.mem_cons_of_mem _ h
    simp only [namesF, List.length_map]
    exact offers_len _ hm
theorem find_in {js : List Jb} {v : ByteArray} (h : ∃ j ∈ js, j.task.name = v) : ∃ i x, findJ js v = ((i : Nat) : Int) ∧ js[i]? = some x ∧ x.task.name = v := by
  have hn : ¬ findJ js v < 0 := by
    intro hlt
    obtain ⟨j, hj, e⟩ := h
    unfold findJ idxB at hlt
    cases hf : js.findIdx? (fun j : Jb => decide (j.task.name = v)) with
    | none =>
      rw [List.findIdx?_eq_none_iff] at hf
      have := hf j hj
      simp [e] at this
    | some i => rw [hf] at hlt; simp at hlt; omega
  obtain ⟨h1, h2, x, h3, h4⟩ := idxB_lt _ _ hn
  exact ⟨_, x, h2, h3, of_decide_eq_true h4⟩
def evJ (js : List Jb) (v : ByteArray) : List Jb := match js[(findJ js v).toNat]? with
  | some x => js.set (findJ js v).toNat { x with node := ⟨#[]⟩ }
  | none => js
theorem evJ_tk (js : List Jb) (v : ByteArray) : tkS (evJ js v) = tkS js := by
  unfold evJ
  split
  · rename_i x hx
    exact tkS_set hx { x with node := ⟨#[]⟩ } rfl rfl
  · rfl
def oustL (name : ByteArray) : List Jb → List Ac → List ByteArray → List Jb × List Ac
  | js, ac, [] => (js, ac)
  | js, ac, v :: l => oustL name (evJ js v) (ac ++ [⟨2, v, name⟩]) l
theorem oustL_keeps (name : ByteArray) : ∀ (l : List ByteArray) (js : List Jb) (ac : List Ac), tkS (oustL name js ac l).1 = tkS js ∧ (oustL name js ac l).2.length = ac.length + l.length
  | [], js, ac => ⟨rfl, rfl⟩
  | v :: l, js, ac => by
    obtain ⟨h1, h2⟩ := oustL_keeps name l (evJ js v) (ac ++ [⟨2, v, name⟩])
    exact ⟨h1.trans (evJ_tk js v), by unfold oustL; rw [h2]; simp; omega⟩
def oustG (s : St) (p : Nat) : List Ac × St := match s.jobs[p]? with
  | none => ([], s)
  | some x => if (chooseF s.machines s.jobs x.task).2.2 = true then match (oustL (chooseF s.machines s.jobs x.task).1 s.jobs [] (chooseF s.machines s.jobs x.task).2.1).1[p]? with
    | none => ([], s)
    | some y => ((oustL (chooseF s.machines s.jobs x.task).1 s.jobs [] (chooseF s.machines s.jobs x.task).2.1).2 ++ [⟨1, y.task.name, (chooseF s.machines s.jobs x.task).1⟩], wj s ((oustL (chooseF s.machines s.jobs x.task).1 s.jobs [] (chooseF s.machines s.jobs x.task).2.1).1.set p (bindJ (chooseF s.machines s.jobs x.task).1 y)))
    else ([], s)
theorem oustG_keeps (s : St) (p : Nat) : tkS (oustG s p).2.jobs = tkS s.jobs ∧ (oustG s p).1.length ≤ s.jobs.length + 1 ∧ (oustG s p).2 = wj s (oustG s p).2.jobs := by
  unfold oustG
  split
  · exact ⟨rfl, Nat.zero_le _, rfl⟩
  · split
    · rename_i x hx _
      have hl := choose_len s.machines s.jobs x.task
      obtain ⟨h1, h2⟩ := oustL_keeps (chooseF s.machines s.jobs x.task).1 (chooseF s.machines s.jobs x.task).2.1 s.jobs []
      split
      · exact ⟨rfl, Nat.zero_le _, rfl⟩
      · rename_i y hy
        exact ⟨(tkS_set hy (bindJ _ y) rfl rfl).trans h1, by simp at h2 ⊢; omega, rfl⟩
    · exact ⟨rfl, Nat.zero_le _, rfl⟩
theorem oust_ok (s : St) (p : Nat) (hz : StW s) (hms : s.machines.length < 100) (hjl : s.jobs.length < 60) (hs : SeqOne s.jobs) (hp : p < s.jobs.length) : AC PR 140 [.ptr 0 0 0, i64 p] (gH s) (acs (oustG s p).1) (gH (oustG s p).2) := by
  have hzj := hz.j
  have hzw := hz.w
  have hgp := List.getElem?_eq_getElem hp
  have hgp' : s.jobs[((p : Nat) : Int).toNat]? = some s.jobs[p] := hgp
  have hxw := hzw s.jobs[p] (List.getElem_mem _)
  have hB : oustG s p = oustG s p := rfl
  conv at hB => rhs; unfold oustG; rw [hgp]
  generalize s.jobs[p] = x at hgp hgp' hxw hB
  have c1 := choose_ok s.machines s.jobs x.task hjl hs hms hz.l hxw
  have hnm := choose_names s.machines s.jobs x.task
  have hln := choose_len s.machines s.jobs x.task
  simp only at hB
  generalize chooseF s.machines s.jobs x.task = c at c1 hnm hln hB
  obtain ⟨name, names, ok⟩ := c
  simp only at hnm hln hB c1
  apply A140
  conv => whnf
  repeat ((first | refine And.intro rfl ?_ | refine kA1 ?_ _ | refine kA2 ?_ _ | refine k_row gmA ?_ | refine k_cell gmA ?_ | refine e_row gmA rfl ?_ | refine k_el gmA (by omega) ?_ | refine k_some gmA ?_ | refine f_set _ rfl ?_ | refine kA8 ?_); conv => whnf)
  refine call_fr (R := .tuple [.str name, .slc 4 0 names.length none, .bool ok]) [] [1, 3] [some (.rows 9 1 (names.map stA1))] c1 ?_
  conv => whnf
  repeat ((first | refine And.intro rfl ?_ | refine e_el gmA (by omega) ?_ | refine And.intro (by simp; done) ?_); conv => whnf)
  cases ok
  case false =>
    simp only [Bool.false_eq_true, if_false] at hB
    rw [hB]
    conv => whnf
    exact at_end [some 0, some 1, some 2, some 3]
  simp only [if_true] at hB
  conv => whnf
  have hum : (names.map stA1).length = names.length := List.length_map ..
  refine loop_to names.length (fun k e H => ∃ js ac, oustL name js ac (names.drop k) = oustL name s.jobs [] names ∧ tkS js = tkS s.jobs ∧ ac.length = k ∧ e = [(0, .ptr 0 0 0), (1, i64 p), (5, .str name), (8, .slc 5 0 ac.length none), (37, .slc 4 0 names.length none), (38, i64 names.length), (39, i64 k)] ∧ H = gH (wj s js) ++ [some (.rows 9 1 (names.map stA1)), some (.rows 61 3 (ac.map acA))]) ?_ ?_
  · rintro k e H hk ⟨js, ac, hR, hT, hA, rfl, rfl⟩
    have hjl2 := tkS_len hT
    have hjl3 : (wj s js).jobs.length = js.length := rfl
    conv => whnf
    generalize hq : decide ((k : Int) < ((names.length : Nat) : Int)) = q
    cases q
    case false =>
      have hk2 : ¬ k < names.length := by have := of_decide_eq_false hq; omega
      rw [List.drop_eq_nil_of_le (by omega)] at hR
      rw [← hR] at hB
      simp only [oustL] at hB
      have hgy := List.getElem?_eq_getElem (l := js) (i := p) (by omega)
      rw [hgy] at hB
      generalize js[p] = y at hgy hB
      simp only at hB
      rw [hB]
      have hl3 : (js.set p (bindJ name y)).length = js.length := List.length_set ..
      have c2 := bind_ok js p y name hgy (by omega)
      conv => whnf
      refine call_fr (R := acA ⟨1, y.task.name, name⟩) [3] [] [rowsJ (js.set p (bindJ name y))] c2 ?_
      conv => whnf
      refine app_map (f := acA) (l := ac) (new := [⟨1, y.task.name, name⟩]) rfl rfl (by omega) (by simp [roomBound]; omega) (fun _ => ?_) (fun h => absurd h (by omega))
      conv => whnf
      have hjl4 : (wj s (js.set p (bindJ name y))).jobs.length = js.length := hl3
      exact at_end [some 0, some 1, some 2, some 3]
    have hk2 : k < names.length := by have := of_decide_eq_true hq; omega
    have hgo := List.getElem?_eq_getElem hk2
    have hx' : names[((k : Nat) : Int).toNat]? = some names[k] := hgo
    have hvn := hnm names[k] (List.getElem_mem _)
    rw [List.drop_eq_getElem_cons hk2] at hR
    generalize names[k] = v at hgo hx' hvn hR
    have hvj : ∃ j ∈ js, j.task.name = v := by
      apply Classical.byContradiction
      intro hno
      obtain ⟨j, hj, e⟩ := hvn
      exact tkS_mem (P := fun t => t.name ≠ v) hT.symm (fun j hj e => hno ⟨j, hj, e⟩) j hj e
    obtain ⟨i, y, hf, hgy, hyv⟩ := find_in hvj
    have hgy' : js[((i : Nat) : Int).toNat]? = some y := hgy
    have hil := (List.getElem?_eq_some_iff.1 hgy).1
    have c3 := find_ok js v (by omega)
    rw [hf] at c3
    have hev : evJ js v = js.set i { y with node := ⟨#[]⟩ } := by unfold evJ; rw [hf]; simp only [Int.toNat_natCast]; rw [hgy]
    simp only [oustL, hev] at hR
    conv => whnf
    repeat ((first | refine And.intro rfl ?_ | refine kA1 ?_ _ | refine kA2 ?_ _ | refine k_row gmA ?_ | refine k_cell gmA ?_ | refine e_row gmA rfl ?_ | refine k_el gmA (by omega) ?_ | refine k_some gmA ?_ | refine f_set _ rfl ?_ | refine kA8 ?_); conv => whnf)
    refine call_fr [] [3] [] c3 ?_
    conv => whnf
    repeat ((first | refine And.intro rfl ?_ | refine e_el gmA (by omega) ?_ | refine And.intro (by simp; done) ?_); conv => whnf)
    repeat ((first | refine And.intro rfl ?_ | refine kA1 ?_ _ | refine kA2 ?_ _ | refine k_row gmA ?_ | refine k_cell gmA ?_ | refine e_row gmA rfl ?_ | refine k_el gmA (by omega) ?_ | refine k_some gmA ?_ | refine f_set _ rfl ?_ | refine kA8 ?_); conv => whnf)
    refine f_set (f := jbA) { y with node := ⟨#[]⟩ } rfl ?_
    conv => whnf
    rw [show (i : Int).toNat = i from rfl]
    have hl5 : (js.set i { y with node := ⟨#[]⟩ }).length = js.length := List.length_set ..
    refine app_map (f := acA) (l := ac) (new := [⟨2, v, name⟩]) rfl rfl (by omega) (by simp [roomBound]; omega) (fun _ => ?_) (fun h => absurd h (by omega))
    conv => whnf
    repeat ((first | refine And.intro rfl ?_ | refine kA1 ?_ _ | refine kA2 ?_ _ | refine k_row gmA ?_ | refine k_cell gmA ?_ | refine e_row gmA rfl ?_ | refine k_el gmA (by omega) ?_ | refine k_some gmA ?_ | refine f_set _ rfl ?_ | refine kA8 ?_); conv => whnf)
    have hjl6 : (wj s (js.set i { y with node := ⟨#[]⟩ })).jobs.length = js.length := hl5
    refine at_head [some 0, some 1, some 2, some 3, some 4, some 7] (gH (wj s (js.set i { y with node := ⟨#[]⟩ })) ++ [some (.rows 9 1 (names.map stA1)), some (.rows 61 3 ((ac ++ [(⟨2, v, name⟩ : Ac)]).map acA))]) [(0, .ptr 0 0 0), (1, i64 p), (5, .str name), (8, .slc 5 0 (ac ++ [(⟨2, v, name⟩ : Ac)]).length none), (37, .slc 4 0 names.length none), (38, i64 names.length), (39, i64 (k + 1 : Nat))] ⟨hk2, js.set i { y with node := ⟨#[]⟩ }, ac ++ [⟨2, v, name⟩], hR, (tkS_set hgy { y with node := ⟨#[]⟩ } rfl rfl).trans hT, by simp [hA], rfl, rfl⟩
  · conv => whnf
    exact at_head [some 0, some 1, some 2, some 3, some 4, none] (gH s ++ [some (.rows 9 1 (names.map stA1)), some (.rows 61 3 (([] : List Ac).map acA))]) _ ⟨s.jobs, [], rfl, rfl, rfl, rfl, rfl⟩
def unitG (s : St) (u : List Nat) : List Ac × St := if (tryG s u).2.1 = true then ((tryG s u).1, (tryG s u).2.2) else match u with
  | [] => ([], s)
  | p :: _ => match s.jobs[p]? with
    | none => ([], s)
    | some x => if x.task.gang = ⟨#[]⟩ then oustG s p else ([], s)
def passL : St → List Ac → List (List Nat) → List Ac × St
  | s, ac, [] => (ac, s)
  | s, ac, u :: l => passL (unitG s u).2 (ac ++ (unitG s u).1) l
def passG (s : St) : List Ac × St := passL s [] (unitsF s.jobs)
structure PassK (s s' : St) : Prop where
  k : tkS s'.jobs = tkS s.jobs
  w : s' = wj s s'.jobs
theorem PassK.refl (s : St) : PassK s s := ⟨rfl, rfl⟩
theorem PassK.trans {a b c : St} (h1 : PassK a b) (h2 : PassK b c) : PassK a c := ⟨h2.k.trans h1.k, by rw [h2.w, h1.w]⟩
theorem PassK.sw {s s' : St} (h : PassK s s') (hz : StW s) : StW s' := by
  rw [h.w]
  exact ⟨⟨hz.m, hz.q, by rw [show (wj s s'.jobs).jobs.length = s.jobs.length from tkS_len h.k]; exact hz.j, hz.l, tkS_mem (P := fun t => (t.wants.length : Int) ≤ 1000000) h.k hz.w⟩, hz.c0, hz.c1, hz.n0, hz.n1⟩
theorem PassK.ms {s s' : St} (h : PassK s s') : s'.machines = s.machines := by rw [h.w]
theorem PassK.jl {s s' : St} (h : PassK s s') : s'.jobs.length = s.jobs.length := tkS_len h.k
theorem PassK.one {s s' : St} (h : PassK s s') (hs : SeqOne s.jobs) : SeqOne s'.jobs := by
  unfold SeqOne
  rw [tkS_seq h.k]; exact hs
theorem unitG_keeps (s : St) (u : List Nat) : PassK s (unitG s u).2 ∧ (unitG s u).1.length ≤ u.length + s.jobs.length + 1 := by
  obtain ⟨t1, t2, t3⟩ := tryG_keeps s u
  unfold unitG
  split
  · exact ⟨⟨t1, t3⟩, by simp; omega⟩
  · split
    · exact ⟨.refl s, Nat.zero_le _⟩
    · split
      · exact ⟨.refl s, Nat.zero_le _⟩
      · split
        · rename_i p _ _ _ x _ _
          obtain ⟨o1, o2, o3⟩ := oustG_keeps s p
          exact ⟨⟨o1, o3⟩, by simp; omega⟩
        · exact ⟨.refl s, Nat.zero_le _⟩
theorem units_in (jobs : List Jb) : (unitsF jobs).length ≤ jobs.length ∧ ∀ u ∈ unitsF jobs, u.length ≤ jobs.length ∧ u ≠ [] ∧ ∀ p ∈ u, p < jobs.length := by
  have hl := plF_len jobs jobs.length
  have hsl := srt_len (cfI jobs) (plF jobs jobs.length)
  have hm : ∀ p ∈ srt (cfI jobs) (plF jobs jobs.length), p < jobs.length := srt_mem fun p h => (plF_mem h).2.1
  unfold unitsF
  generalize srt (cfI jobs) (plF jobs jobs.length) = pl at hsl hm
  refine ⟨Nat.le_trans (List.length_filterMap_le ..) (by omega), fun u hu => ?_⟩
  obtain ⟨p, hp, hu⟩ := List.mem_filterMap.1 hu
  have hpj := hm p hp
  unfold unit1 at hu
  split at hu
  · cases hu
  · split at hu
    · cases hu
      exact ⟨by simp; omega, by simp, by simp; exact hpj⟩
    · split at hu
      · rename_i hc
        cases hu
        refine ⟨Nat.le_trans (List.length_filter_le ..) (by omega), fun h => ?_, fun q hq => hm q (List.mem_filter.1 hq).1⟩
        rw [h] at hc
        simp at hc
      · cases hu
theorem gnr_us {nb : Prop} : ∀ (us : List (List Nat)) (τ : List Nat), GNr τ nb (us.map uO) (us.map uO)
  | [], _ => trivial
  | u :: l, τ => ⟨.flat _ _ _ (by intro r hr; obtain ⟨a, _, rfl⟩ := List.mem_map.1 hr; simp), gnr_us l τ⟩
theorem outO_fr {nb : Prop} (us : List (List Nat)) (n b : Nat) (h : n = us.length + 1) : GNr ([] ++ List.range' b n) nb (outO us) (some (.rows 144 1 (outR (b + 1) us)) :: us.map uO) := by
  subst h
  refine ⟨.rows _ _ _ _ (by simp [outR_len]) fun i x y hx hy => ?_, gnr_us us _⟩
  rw [outR_get] at hx hy
  cases hi : us[i]? with
  | none => rw [hi] at hx; cases hx
  | some u =>
    have hil := (List.getElem?_eq_some_iff.1 hi).1
    rw [hi] at hx hy
    simp only [Option.map_some, Option.some.injEq] at hx hy
    subst hx hy
    refine .slc _ _ _ _ _ ?_
    rw [List.nil_append, List.getElem?_range' (by omega)]
    congr 1; omega
abbrev gRowAt (a b c : Nat) (s : St) : AV := .agg [i64 s.clock, i64 s.next, .slc a 0 s.machines.length none, .slc b 0 s.queues.length none, .slc c 0 s.jobs.length none]
theorem tryG_no {s : St} {u : List Nat} {l : List Ac} {t : St} (h : tryG s u = (l, false, t)) : l = [] ∧ t = s := by
  unfold tryG at h
  split at h
  · simp only [Prod.mk.injEq] at h
    exact ⟨h.1.symm, h.2.2.symm⟩
  · simp at h
theorem pass_ok (s : St) (hz : StW s) (hms : s.machines.length < 100) (hjl : s.jobs.length < 60) (hs : SeqOne s.jobs) : AC PR 102 [.ptr 0 0 0] (gH s) (acs (passG s).1) (gK (passG s).2) := by
  have c0 := units_ok s.jobs hjl hs
  obtain ⟨hu1, hu2⟩ := units_in s.jobs
  have hB : passG s = passL s [] (unitsF s.jobs) := rfl
  generalize passG s = R at hB
  generalize unitsF s.jobs = us at c0 hu1 hu2 hB
  apply A102
  conv => whnf
  refine call_fr (R := .slc 4 0 us.length none) [] [3] (some (.rows 144 1 (outR 5 us)) :: us.map uO) c0 ?_ (hO := outO_fr us _ 4 (by simp [outO])) (hr := .slc _ _ _ _ _ rfl)
  conv => whnf
  refine forceS_any ?_
  conv => whnf
  refine loop_to us.length (fun k e H => ∃ s1 ac, passL s1 ac (us.drop k) = R ∧ PassK s s1 ∧ ac.length ≤ 200 * k ∧ e = [(0, .ptr 0 0 0), (3, .slc 8 0 ac.length none), (14, .slc 7 0 us.length none), (15, i64 us.length), (16, i64 k)] ∧ H = gK s1 ++ [some (.rows 144 1 (us.map luA)), some (.rows 61 3 (ac.map acA))]) ?_ ?_
  · rintro k e H hk ⟨s1, ac, hR, hK, hA, rfl, rfl⟩
    have hjl1 := hK.jl
    have hms1 := hK.ms
    have hz1 := hK.sw hz
    conv => whnf
    generalize hq : decide ((k : Int) < (us.length : Int)) = q
    cases q
    case false =>
      have hk2 : ¬ k < us.length := by have := of_decide_eq_false hq; omega
      rw [List.drop_eq_nil_of_le (by omega)] at hR
      simp only [passL] at hR
      subst hR
      conv => whnf
      exact at_end [some 0, some 1, some 2, some 3, some 4, some 5, some 6]
    have hk2 : k < us.length := by have := of_decide_eq_true hq; omega
    have hgo := List.getElem?_eq_getElem hk2
    have hx' : us[((k : Nat) : Int).toNat]? = some us[k] := hgo
    obtain ⟨u1, u2, u3⟩ := hu2 us[k] (List.getElem_mem _)
    rw [List.drop_eq_getElem_cons hk2] at hR
    generalize us[k] = u at hgo hx' hR u1 u2 u3
    obtain ⟨p, u', rfl⟩ : ∃ p u', u = p :: u' := by
      cases u with
      | nil => exact absurd rfl u2
      | cons p u' => exact ⟨p, u', rfl⟩
    have hpj := u3 p (by simp)
    obtain ⟨x, hx⟩ : ∃ x, s1.jobs[p]? = some x := ⟨_, List.getElem?_eq_getElem (by omega)⟩
    have hxp : s1.jobs[((p : Nat) : Int).toNat]? = some x := hx
    have c1 := try_ok s1 (p :: u') hz1 (by rw [hms1]; exact hms) (by omega) (fun q hq => by rw [hjl1]; exact u3 q hq)
    obtain ⟨k1, k2⟩ := unitG_keeps s1 (p :: u')
    have hUG : unitG s1 (p :: u') = if (tryG s1 (p :: u')).2.1 = true then ((tryG s1 (p :: u')).1, (tryG s1 (p :: u')).2.2) else if x.task.gang = ⟨#[]⟩ then oustG s1 p else ([], s1) := by
      unfold unitG
      simp only [hx]
    simp only [passL] at hR
    have hno := fun l t => @tryG_no s1 (p :: u') l t
    generalize unitG s1 (p :: u') = ug at hUG hR k1 k2
    generalize tryG s1 (p :: u') = t at hUG c1 hno
    obtain ⟨l, ok, s2⟩ := t
    simp only at hUG c1
    obtain ⟨ug1, ug2⟩ := ug
    simp only at hR k1 k2
    conv => whnf
    refine k_idx ?_ _ rfl (by omega) (by omega)
    conv => whnf
    refine k_cell (get_map hx') ?_
    conv => whnf
    refine call_fr (R := .tuple [acs l, .bool ok]) [0, 4, 5, 6] [] [some (.rows 68 5 [gRowAt 9 10 11 s2]), none, none, none, rowsM s2.machines, rowsQ s2.queues, rowsJ s2.jobs] c1 ?_
    conv => whnf
    cases ok
    case true =>
      simp only [if_true, Prod.mk.injEq] at hUG
      obtain ⟨rfl, rfl⟩ := hUG
      conv => whnf
      refine app_map (f := acA) (l := ac) (new := ug1) rfl rfl (by omega) (by simp [roomBound] at *; omega) (fun _ => ?_) (fun h => absurd h (by omega))
      conv => whnf
      refine w_i64 (by omega) ?_
      conv => whnf
      exact at_head [some 0, some 1, some 2, some 3, some 9, some 10, some 11, some 7, some 12] (gK ug2 ++ [some (.rows 144 1 (us.map luA)), some (.rows 61 3 ((ac ++ ug1).map acA))]) [(0, .ptr 0 0 0), (3, .slc 8 0 (ac ++ ug1).length none), (14, .slc 7 0 us.length none), (15, i64 us.length), (16, i64 (k + 1 : Nat))] ⟨hk2, ug2, ac ++ ug1, hR, hK.trans k1, by simp only [List.length_append]; omega, rfl, rfl⟩
    simp only [Bool.false_eq_true, if_false] at hUG
    obtain ⟨rfl, rfl⟩ := hno _ _ rfl
    conv => whnf
    repeat ((first | refine And.intro rfl ?_ | refine kA1 ?_ _ | refine kA2 ?_ _ | refine k_row gmA ?_ | refine k_cell gmA ?_ | refine e_row gmA rfl ?_ | refine k_el gmA (by omega) ?_ | refine k_some gmA ?_ | refine f_set _ rfl ?_ | refine kA8 ?_); conv => whnf)
    generalize hqg : decide (x.task.gang = ⟨#[]⟩) = qg
    cases qg
    case false =>
      rw [if_neg (of_decide_eq_false hqg)] at hUG
      simp only [Prod.mk.injEq] at hUG
      obtain ⟨rfl, rfl⟩ := hUG
      conv => whnf
      refine app_map (f := acA) (l := ac) (new := []) rfl rfl (by omega) (by simp [roomBound] at *; omega) (fun _ => ?_) (fun h => absurd h (by omega))
      conv => whnf
      refine w_i64 (by omega) ?_
      conv => whnf
      exact at_head [some 0, some 1, some 2, some 3, some 9, some 10, some 11, some 7, some 12] (gK ug2 ++ [some (.rows 144 1 (us.map luA)), some (.rows 61 3 ((ac ++ []).map acA))]) [(0, .ptr 0 0 0), (3, .slc 8 0 (ac ++ ([] : List Ac)).length none), (14, .slc 7 0 us.length none), (15, i64 us.length), (16, i64 (k + 1 : Nat))] ⟨hk2, ug2, ac ++ [], hR, hK.trans k1, by simp only [List.length_append]; omega, rfl, rfl⟩
    rw [if_pos (of_decide_eq_true hqg)] at hUG
    have c2 := oust_ok s2 p hz1 (by rw [hms1]; exact hms) (by omega) (hK.one hs) (by omega)
    rw [← hUG] at c2
    conv => whnf
    repeat ((first | refine And.intro rfl ?_ | refine kA1 ?_ _ | refine kA2 ?_ _ | refine k_row gmA ?_ | refine k_cell gmA ?_ | refine e_row gmA rfl ?_ | refine k_el gmA (by omega) ?_ | refine k_some gmA ?_ | refine f_set _ rfl ?_ | refine kA8 ?_); conv => whnf)
    refine call_fr (R := acs ug1) [0, 9, 10, 11] [] [some (.rows 68 5 [gRowAt 9 10 11 ug2]), rowsM ug2.machines, rowsQ ug2.queues, rowsJ ug2.jobs] c2 ?_
    conv => whnf
    refine app_map (f := acA) (l := ac) (new := ug1) rfl rfl (by omega) (by simp [roomBound] at *; omega) (fun _ => ?_) (fun h => absurd h (by omega))
    conv => whnf
    refine w_i64 (by omega) ?_
    conv => whnf
    exact at_head [some 0, some 1, some 2, some 3, some 9, some 10, some 11, some 7, some 12] (gK ug2 ++ [some (.rows 144 1 (us.map luA)), some (.rows 61 3 ((ac ++ ug1).map acA))]) [(0, .ptr 0 0 0), (3, .slc 8 0 (ac ++ ug1).length none), (14, .slc 7 0 us.length none), (15, i64 us.length), (16, i64 (k + 1 : Nat))] ⟨hk2, ug2, ac ++ ug1, hR, hK.trans k1, by simp only [List.length_append]; omega, rfl, rfl⟩
  · conv => whnf
    refine at_head [some 0, some 1, some 2, some 3, some 1, some 2, some 3, some 4, none] (gK s ++ [some (.rows 144 1 (us.map luA)), some (.rows 61 3 (([] : List Ac).map acA))]) [(0, .ptr 0 0 0), (3, .slc 8 0 0 none), (14, .slc 7 0 us.length none), (15, i64 us.length), (16, i64 (0 : Nat))] ⟨s, [], hB.symm, .refl s, Nat.zero_le _, rfl, rfl⟩ (hN := ?_)
    refine ⟨⟨_, rfl, by exact autoG⟩, ⟨_, rfl, by exact autoG⟩, ⟨_, rfl, by exact autoG⟩, ⟨_, rfl, by exact autoG⟩, ⟨_, rfl, .rows _ _ _ _ (by simp [outR_len]) fun i a b ha hb => ?_⟩, by decide, trivial⟩
    rw [outR_get] at ha
    rw [List.getElem?_map] at hb
    cases hi : us[i]? with
    | none => rw [hi] at ha; cases ha
    | some u =>
      rw [hi] at ha hb
      simp only [Option.map_some, Option.some.injEq] at ha hb
      subst ha hb
      refine Gv.lend (l := u) (t := 3) (fun j o hj _ => ?_) ?_ rfl (by intro a; simp)
      · match j with
        | 0 | 1 | 2 | 3 | 4 | 5 | 6 | 7 => simp at hj <;> omega
        | 8 => simp at hj
        | j + 9 => simp at hj
      · show (_ :: _ :: _ :: _ :: _ :: us.map uO)[5 + i]? = _
        rw [show 5 + i = i + 1 + 1 + 1 + 1 + 1 by omega]
        simp only [List.getElem?_cons_succ]
        rw [List.getElem?_map, hi]
        rfl
end Go.Am.Pt
end
