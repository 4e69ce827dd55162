/- Part of the proof: what functions of the program compute, walked. No conditions. -/
import Derived.Test.YtejbmdnhchoilaaGreatP20
set_option linter.unusedVariables false
set_option linter.unusedSimpArgs false
set_option maxRecDepth 100000
section
open Go Go.Am Go.Proofs
namespace Go.Am.Pt
structure Inv (s : St) : Prop where
  m : s.machines.length ≤ 16
  q : s.queues.length ≤ 8
  j : s.jobs.length ≤ 48
  l : ∀ m ∈ s.machines, (m.node.labels.length : Int) ≤ 1000000
  w : ∀ j ∈ s.jobs, (j.task.wants.length : Int) ≤ 1000000
  c0 : 0 ≤ s.clock
  c1 : s.clock ≤ 1073741824
  n0 : 1 ≤ s.next
  n1 : s.next ≤ 1073741824
  o : SeqOne s.jobs
  s : ∀ j ∈ s.jobs, j.seq < s.next
theorem Inv.fits {s : St} (h : Inv s) : Fits s := by
  have h1 := h.m
  have h2 := h.q
  have h3 := h.j
  have h4 := h.n0
  exact ⟨⟨⟨by omega, by omega, by omega, h.l, h.w⟩, h.c0, h.c1, by omega, h.n1⟩, by omega, by omega, by omega, h.o⟩
theorem inv_new : Inv St.new := by
  refine ⟨by decide, by decide, by decide, by simp, by simp, by decide, by decide, by decide, by decide, by simp [SeqOne], by simp⟩
theorem Inv.jobs {s : St} (h : Inv s) {l : List Jb} (hk : tkS l = tkS s.jobs) : Inv (wj s l) := by
  refine ⟨h.m, h.q, by rw [show (wj s l).jobs.length = l.length from rfl, tkS_len hk]; exact h.j, h.l, tkS_mem (P := fun t => (t.wants.length : Int) ≤ 1000000) hk h.w, h.c0, h.c1, h.n0, h.n1, by unfold SeqOne; rw [tkS_seq hk]; exact h.o, fun j hj => ?_⟩
  have : j.seq ∈ l.map (·.seq) := List.mem_map_of_mem hj
  rw [tkS_seq hk] at this
  obtain ⟨y, hy, e⟩ := List.mem_map.1 this
  rw [← e]; exact h.s y hy
theorem Inv.machines {s : St} (h : Inv s) {ms : List Mc} (hl : ms.length ≤ 16) (hm : ∀ m ∈ ms, (m.node.labels.length : Int) ≤ 1000000) : Inv { s with machines := ms } :=
  ⟨hl, h.q, h.j, hm, h.w, h.c0, h.c1, h.n0, h.n1, h.o, h.s⟩
theorem Inv.queues {s : St} (h : Inv s) {qs : List Qu} (hl : qs.length ≤ 8) : Inv { s with queues := qs } :=
  ⟨h.m, hl, h.j, h.l, h.w, h.c0, h.c1, h.n0, h.n1, h.o, h.s⟩
theorem Inv.sub {s : St} (h : Inv s) {l : List Jb} (hs : l.Sublist s.jobs) : Inv (wj s l) := by
  have := h.j
  refine ⟨h.m, h.q, Nat.le_trans hs.length_le h.j, h.l, fun j hj => h.w j (hs.subset hj), h.c0, h.c1, h.n0, h.n1, (hs.map _).nodup h.o, fun j hj => h.s j (hs.subset hj)⟩
theorem addNode_inv {s : St} (h : Inv s) (n : Nd) (hn : (n.labels.length : Int) ≤ 1000000) : Inv (addNodeG s n).2 := by
  have := h.m
  unfold addNodeG
  split
  · exact h
  · split
    · exact h
    · refine h.machines (by simp [insAt]; omega) fun m hm => ?_
      simp only [insAt, List.mem_append, List.mem_cons] at hm
      rcases hm with hm | rfl | hm
      · exact h.l m (List.mem_of_mem_take hm)
      · exact hn
      · exact h.l m (List.mem_of_mem_drop hm)
theorem addQueue_inv {s : St} (h : Inv s) (n : Qu) : Inv (addQueueG s n).2 := by
  have := h.q
  unfold addQueueG
  split
  · exact h
  · split
    · exact h
    · exact h.queues (by simp [insAt]; omega)
theorem dropNode_inv {s : St} (h : Inv s) (n : ByteArray) : Inv (dropNodeG s n).2 := by
  have := h.m
  unfold dropNodeG
  split
  · exact h
  · refine Inv.jobs (s := { s with machines := s.machines.eraseIdx (machF s.machines n).toNat }) (h.machines (Nat.le_trans (List.eraseIdx_sublist ..).length_le h.m) fun m hm => h.l m ((List.eraseIdx_sublist ..).subset hm)) (tkS_rel ..)
theorem dropQueue_inv {s : St} (h : Inv s) (n : ByteArray) : Inv (dropQueueG s n).2 := by
  unfold dropQueueG
  split
  · exact h
  · split
    · exact h
    · exact h.queues (Nat.le_trans (List.eraseIdx_sublist ..).length_le h.q)
theorem gone_inv {s : St} (h : Inv s) (n : ByteArray) (k : Int) : Inv (goneG s n k).2 := by
  unfold goneG
  split
  · exact h
  · split
    · exact h
    · unfold goneJ
      split
      · exact h
      · exact h.sub (List.eraseIdx_sublist ..)
theorem beat_inv {s : St} (h : Inv s) (n : ByteArray) : Inv (beatG s n).2 := by
  unfold beatG
  split
  · exact h
  · simp only
    unfold beatS
    split
    · rename_i m hm
      refine h.machines (by rw [List.length_set]; exact h.m) fun x hx => ?_
      rcases List.mem_or_eq_of_mem_set hx with hx | rfl
      · exact h.l x hx
      · exact h.l m (List.mem_of_getElem? hm)
    · exact h
theorem submit_inv {s : St} (h : Inv s) (t : Tk) (ht : (t.wants.length : Int) ≤ 1000000) : Inv (submitG s t).2 := by
  have hj := h.j
  have h0 := h.n0
  have h1 := h.n1
  unfold submitG
  split
  · exact h
  · split
    · exact h
    · split
      · exact h
      · unfold submitQ
        split
        · exact h
        · split
          · exact h
          · split
            · exact h
            · refine ⟨h.m, h.q, by simp [subS]; omega, h.l, fun j hj => ?_, h.c0, h.c1, by simp only [subS]; omega, by simp only [subS]; omega, ?_, fun j hj => ?_⟩
              · simp only [subS, List.mem_append, List.mem_cons, List.not_mem_nil, or_false] at hj
                rcases hj with hj | rfl
                · exact h.w j hj
                · exact ht
              · simp only [subS, SeqOne, List.map_append, List.map_cons, List.map_nil]
                rw [List.nodup_append]
                refine ⟨h.o, by simp, fun a ha b hb => ?_⟩
                obtain ⟨y, hy, rfl⟩ := List.mem_map.1 ha
                have := h.s y hy
                simp at hb
                omega
              · simp only [subS, List.mem_append, List.mem_cons, List.not_mem_nil, or_false] at hj ⊢
                rcases hj with hj | rfl
                · have := h.s j hj
                  omega
                · simp only; omega
theorem Inv.exp {s s' : St} (h : Inv s) (hk : ExpK s s') : Inv s' := by
  have h1 := Inv.jobs h hk.k
  refine ⟨by rw [hk.ml]; exact h.m, by rw [hk.q]; exact h.q, h1.j, (hk.sw ⟨⟨h.fits.w.m, h.fits.w.q, h.fits.w.j, h.l, h.w⟩, h.c0, h.c1, h.fits.w.n0, h.n1⟩).l, h1.w, by rw [hk.c]; exact h.c0, by rw [hk.c]; exact h.c1, by rw [hk.n]; exact h.n0, by rw [hk.n]; exact h.n1, h1.o, fun j hj => by rw [hk.n]; exact h1.s j hj⟩
theorem expL_keeps : ∀ (l : List Nat) (s : St) (ac : List Ac), ExpK s (expL s ac l).2 ∧ (expL s ac l).1.length ≤ ac.length + l.length * s.jobs.length
  | [], s, ac => ⟨.refl s, by simp [expL]⟩
  | i :: l, s, ac => by
    obtain ⟨k1, k2⟩ := expG_keeps s i
    obtain ⟨p1, p2⟩ := expL_keeps l (expG s i).2 (ac ++ (expG s i).1)
    refine ⟨k1.trans p1, ?_⟩
    unfold expL
    rw [k1.jl] at p2
    simp only [List.length_append, List.length_cons, Nat.succ_mul] at p2 ⊢
    omega
theorem tick_inv {s : St} (h : Inv s) : Inv (tickG s).2 := by
  have h0 := h.c0
  have h1 := h.c1
  unfold tickG
  split
  · exact h
  · have hc : Inv (ckS s) := ⟨h.m, h.q, h.j, h.l, h.w, by simp only; omega, by simp only; omega, h.n0, h.n1, h.o, h.s⟩
    obtain ⟨k1, _⟩ := expL_keeps (List.range s.machines.length) (ckS s) []
    have hi := hc.exp k1
    have hj := hi.j
    obtain ⟨p1, _⟩ := passG_keeps (expL (ckS s) [] (List.range s.machines.length)).2 (by omega)
    simp only
    rw [p1.w]
    exact hi.jobs p1.k
theorem nxS_inv {s : St} (h : Inv s) : nxS s = s := by
  have := h.n0
  unfold nxS
  rw [if_neg (by omega)]
theorem doK_inv {s : St} (h : Inv s) (o : Op') (hn : (o.node.labels.length : Int) ≤ 1000000) (ht : (o.task.wants.length : Int) ≤ 1000000) : Inv (doK s o).2 := by
  unfold doK
  split
  · exact addNode_inv h _ hn
  · split
    · exact dropNode_inv h _
    · split
      · exact addQueue_inv h _
      · split
        · exact dropQueue_inv h _
        · split
          · exact submit_inv h _ ht
          · split
            · exact beat_inv h _
            · split
              · exact tick_inv h
              · exact gone_inv h _ _
theorem doG_inv {s : St} (h : Inv s) (o : Op') (hn : (o.node.labels.length : Int) ≤ 1000000) (ht : (o.task.wants.length : Int) ≤ 1000000) : Inv (doG s o).2 := by
  unfold doG
  split
  · rw [nxS_inv h]; exact doK_inv h o hn ht
  · exact h
theorem doK_acts {s : St} (h : Inv s) (o : Op') : (doK s o).1.acts.length ≤ 100000 := by
  have hm := h.m
  have hj := h.j
  unfold doK
  split
  · unfold addNodeG; split
    · simp [no]
    · split <;> simp [no]
  · split
    · unfold dropNodeG; split
      · simp [no]
      · have := relA_len o.name s.jobs
        simp only; omega
    · split
      · unfold addQueueG; split
        · simp [no]
        · split <;> simp [no]
      · split
        · unfold dropQueueG; split
          · simp [no]
          · split <;> simp [no]
        · split
          · unfold submitG; split
            · simp [no]
            · split
              · simp [no]
              · split
                · simp [no]
                · unfold submitQ; split
                  · simp [no]
                  · split
                    · simp [no]
                    · split <;> simp [no]
          · split
            · unfold beatG; split <;> simp [no]
            · split
              · unfold tickG; split
                · simp [no]
                · obtain ⟨k1, k2⟩ := expL_keeps (List.range s.machines.length) (ckS s) []
                  have hj2 := k1.jl
                  obtain ⟨p1, p2⟩ := passG_keeps (expL (ckS s) [] (List.range s.machines.length)).2 (by rw [hj2]; simp only; omega)
                  have hx : s.machines.length * s.jobs.length ≤ 16 * 48 := Nat.mul_le_mul hm hj
                  simp only [List.length_append, List.length_range, List.length_nil] at k2 p2 ⊢
                  omega
              · unfold goneG; split
                · simp [no]
                · split
                  · simp [no]
                  · unfold goneJ; split
                    · simp [no]
                    · simp only; split <;> simp
theorem doG_acts {s : St} (h : Inv s) (o : Op') : (doG s o).1.acts.length ≤ 100000 := by
  unfold doG
  split
  · rw [nxS_inv h]; exact doK_acts h o
  · simp [no]
abbrev St.zero : St := ⟨0, 0, [], [], []⟩
theorem fitsZero : Fits St.zero := by
  refine ⟨⟨⟨by decide, by decide, by decide, by intro m h; simp at h, by intro m h; simp at h⟩, by decide, by decide, by decide, by decide⟩, by decide, by decide, by decide, ?_⟩
  simp [SeqOne]
theorem OpB.sized {o : Op'} (h : OpB o) : Sized o.task := ⟨by have := h.s3; have := h.s4; have := h.s5; have := h.s6; omega⟩
theorem smallB_len {o : Op'} (h : smallB o = true) : (o.node.labels.length : Int) ≤ 1000000 ∧ (o.task.wants.length : Int) ≤ 1000000 := by
  simp only [smallB, Bool.and_eq_true, decide_eq_true_eq] at h
  omega
theorem AC.frz2 {P : Program} {f : FuncId} {args Args : List AV} {H H1 H2 : AHeap} {R : AV} (src : List (Option Nat)) (h : AC P f args H1 R H2)
    (hp : idPre H.length src) (hd : ndA src H1 = true) (hN : GN H.length src H (fzOf src H1) src H1) (hargs : GL H.length src H (fzOf src H1) Args args) : AC P f Args H R H2 := by
  intro Z φ w xs hR hxs hax
  obtain ⟨φ', h1, h2, h3, h4⟩ := gc_view hp hd hN hR
  obtain ⟨ga1, ga2⟩ := hargs.all
  have hlen := hN.len
  have hc := h Z φ' w xs h2 (by omega) fun i a x ha hx => by
    have hi : i < Args.length := by rw [ga1]; exact (List.getElem?_eq_some_iff.1 ha).1
    exact (ga2 i _ a (List.getElem?_eq_getElem hi) ha).sound h4 (hax i _ x (List.getElem?_eq_getElem hi) hx)
  refine hc.mono fun e w' ⟨v, φ2, he, hs, hv⟩ => ⟨v, φ2, he, ⟨⟨fun id hid => ?_, fun id hid => ?_, hs.le.sz, fun b hb hn => hs.le.own b hb fun hc => hn (hc.imp (h3 b) fun z => z), fun b hb hn => hs.le.blk b hb fun hc => hn (hc.imp (h3 b) fun z => z)⟩, hs.os, hs.tape, hs.output, hs.drawn, hs.res, hs.rel⟩, hv⟩
  · have hlt : id < H.length := hid
    have := (List.getElem?_eq_some_iff.1 (hp id hlt)).1
    exact hs.le.dom id (show id < H1.length by omega)
  · have hlt : id < H.length := hid
    have := (List.getElem?_eq_some_iff.1 (hp id hlt)).1
    exact (hs.le.φ id (show id < H1.length by omega)).trans (h1 id hlt)
theorem do_zero (o : Op') (ho : Sized o.task) (hn : (o.node.labels.length : Int) ≤ 1000000) (ht : (o.task.wants.length : Int) ≤ 1000000) : AC PR 18 [.ptr 0 0 0, opA o] [some (.rows 68 5 [.agg [i64 0, i64 0, .nilslc, .nilslc, .nilslc]])] (anA (doG St.zero o).1) (gK (doG St.zero o).2) := by
  refine AC.frz2 [some 0, none, none, none] (do_ok St.zero o fitsZero ho hn ht) (idB_idPre rfl) rfl ?_ ?_
  · exact autoG
  · exact ⟨Gv.ptr _ _ _ _ rfl, .same _ (by simp), trivial⟩
theorem twins (o : Op') (hz : OpB o) (hn : (o.node.labels.length : Int) ≤ 1000000) (ht : (o.task.wants.length : Int) ≤ 1000000) : ∃ (a : An) (z1 s1 t : St),
    AC PR 18 [.ptr 0 0 0, opA o] [some (.rows 68 5 [.agg [i64 0, i64 0, .nilslc, .nilslc, .nilslc]])] (anA a) (gK z1) ∧
    AC PR 18 [.ptr 0 0 0, opA o] (gH St.new) (anA a) (gK s1) ∧
    AC PR 20 [.ptr 0 0 0] (gH z1) (stA t) (gH z1) ∧
    AC PR 20 [.ptr 0 0 0] (gH s1) (stA t) (gH s1) ∧ (a.acts.length : Int) ≤ 1000000 ∧ StSz t := by
  have d1 := do_zero o hz.sized hn ht
  have d2 := do_ok St.new o fitsNew hz.sized hn ht
  have hi := doG_inv inv_new o hn ht
  have ha := doG_acts inv_new o
  have hi0 := hi.n0
  cases hr : opR o with
  | true =>
    have e : doG St.zero o = doG St.new o := by
      unfold doG
      rw [if_pos hr, if_pos hr]
      rfl
    rw [e] at d1
    refine ⟨_, _, _, (doG St.new o).2, d1, d2, state_ok _ hi.fits.w.toStSz (by omega), state_ok _ hi.fits.w.toStSz (by omega), by omega, hi.fits.w.toStSz⟩
  | false =>
    have e1 : doG St.zero o = (no 1, St.zero) := by unfold doG; rw [if_neg (by rw [hr]; decide)]
    have e2 : doG St.new o = (no 1, St.new) := by unfold doG; rw [if_neg (by rw [hr]; decide)]
    rw [e1] at d1
    rw [e2] at d2
    exact ⟨no 1, St.zero, St.new, St.new, d1, d2, state_z _ rfl, state_ok _ fitsNew.w.toStSz (by decide), by simp [no], fitsNew.w.toStSz⟩
theorem nil_ok (o : Op') (hz : OpB o) : AC PR 7 [opA o] [] (.bool true) [] := by
  have c1 := small_ok o hz
  have hl := @smallB_len o
  generalize smallB o = q at c1 hl
  apply A7
  conv => whnf
  refine call_closed awake_ok ?_
  conv => whnf
  repeat (first
    | (refine And.intro rfl ?_; conv => whnf))
  refine call_closed c1 ?_
  conv => whnf
  cases q
  case false =>
    conv => whnf
    refine call_closed awake_ok ?_
    conv => whnf
    exact at_end []
  obtain ⟨hn, ht⟩ := hl rfl
  conv => whnf
  refine call_fr (R := .ptr 2 0 0) [] [] [some (.rows 68 5 [gRowAt 3 4 5 St.new]), rowsM [], rowsQ [], rowsJ []] new_ok ?_
  conv => whnf
  refine call_closed (do_nil o) ?_
  conv => whnf
  refine call_closed state_nil ?_
  conv => whnf
  repeat ((first | refine And.intro rfl ?_ | refine e_el gmA (by omega) ?_ | refine And.intro (by simp; done) ?_); conv => whnf)
  refine call_closed refNew_ok ?_
  conv => whnf
  repeat ((first | refine And.intro rfl ?_ | refine e_el gmA (by omega) ?_ | refine And.intro (by simp; done) ?_); conv => whnf)
  refine call_closed (stSelf_ok St.new fitsNew.w.toStSz) ?_
  conv => whnf
  repeat ((first | refine And.intro rfl ?_ | refine e_el gmA (by omega) ?_ | refine And.intro (by simp; done) ?_); conv => whnf)
  obtain ⟨a, z1, s1, t, d1, d2, cz, cs, ha, hst⟩ := twins o hz hn ht
  have ce := ansSelf_ok a ha
  have cf := stSelf_ok t hst
  refine call_fr (R := anA a) [1] [] [some (.rows 68 5 [gRowAt 10 11 12 z1]), none, none, none, rowsM z1.machines, rowsQ z1.queues, rowsJ z1.jobs] d1 ?_
  conv => whnf
  repeat ((first | refine And.intro rfl ?_ | refine e_el gmA (by omega) ?_ | refine And.intro (by simp; done) ?_); conv => whnf)
  refine call_fr (R := anA a) [2, 3, 4, 5] [] [some (.rows 68 5 [gRowAt 13 14 15 s1]), none, none, none, rowsM s1.machines, rowsQ s1.queues, rowsJ s1.jobs] d2 ?_
  conv => whnf
  repeat ((first | refine And.intro rfl ?_ | refine e_el gmA (by omega) ?_ | refine And.intro (by simp; done) ?_); conv => whnf)
  refine call_closed ce ?_
  conv => whnf
  repeat ((first | refine And.intro rfl ?_ | refine e_el gmA (by omega) ?_ | refine And.intro (by simp; done) ?_); conv => whnf)
  refine call_fr (R := stA t) [1, 10, 11, 12] [] [some (.rows 68 5 [gRowAt 10 11 12 z1]), rowsM z1.machines, rowsQ z1.queues, rowsJ z1.jobs] cz ?_
  conv => whnf
  repeat ((first | refine And.intro rfl ?_ | refine e_el gmA (by omega) ?_ | refine And.intro (by simp; done) ?_); conv => whnf)
  refine call_fr (R := stA t) [2, 13, 14, 15] [] [some (.rows 68 5 [gRowAt 13 14 15 s1]), rowsM s1.machines, rowsQ s1.queues, rowsJ s1.jobs] cs ?_
  conv => whnf
  repeat ((first | refine And.intro rfl ?_ | refine e_el gmA (by omega) ?_ | refine And.intro (by simp; done) ?_); conv => whnf)
  refine call_closed cf ?_
  conv => whnf
  repeat ((first | refine And.intro rfl ?_ | refine e_el gmA (by omega) ?_ | refine And.intro (by simp; done) ?_); conv => whnf)
  exact at_end []
end Go.Am.Pt
end
