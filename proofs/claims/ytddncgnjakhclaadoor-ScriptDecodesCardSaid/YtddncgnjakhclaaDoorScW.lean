/- Steps held against themselves; what is decoded can be. No conditions. -/
import Derived.Test.YtddncgnjakhclaaDoorScD2
import Derived.Test.YtddncgnjakhclaaDoorPtV5
set_option linter.unusedVariables false
set_option linter.unusedSimpArgs false
set_option maxRecDepth 100000
open Go Go.Am Go.Proofs
namespace Go.Am.Scr
open Go.Am.Pt
theorem rsEq_self (a : Rs) : rsEq a a = true := by simp [rsEq]
theorem opEq_self (o : Op') : opEq o o = true := by simp [opEq, quEq, nodeEq, taskEq, rsEq]
theorem same_ok (s : Sp) (ha : (s.o.node.labels.length : Int) ≤ 1000000) (hb : (s.o.task.wants.length : Int) ≤ 1000000) : AC PR 9 [spA s, spA s] [] (.bool true) [] := by
  have c1 := rsameOp_ok s.o s.o ha hb
  rw [opEq_self] at c1
  have e1 : decide (s.kind = s.kind) = true := decide_eq_true rfl
  have e2 : decide (s.n = s.n) = true := decide_eq_true rfl
  have e3 : decide (s.part = s.part) = true := decide_eq_true rfl
  have e4 : decide (s.name = s.name) = true := decide_eq_true rfl
  apply A9
  conv => whnf
  rw [e1]
  conv => whnf
  rw [e2]
  conv => whnf
  rw [e3]
  conv => whnf
  rw [e4]
  conv => whnf
  refine call_closed (c1) ?_
  conv => whnf
  exact at_end []
theorem lab_len (n : Nat) : (labF n).length ≤ 2 := by
  unfold labF lab1 lab2
  split <;> split <;> simp
theorem opF_len (r : Rd) : (opF r).1.node.labels.length ≤ 2 ∧ (opF r).1.task.wants.length ≤ 2 := by
  have h0 : ∀ m, m < 9 → at' 0 r % 9 = m → _ := fun m _ h => h
  unfold opF
  split <;> exact ⟨by first | exact lab_len _ | exact Nat.zero_le _, by first | exact lab_len _ | exact Nat.zero_le _⟩
theorem stF_len (k : Nat) (r : Rd) : (stF k r).1.o.node.labels.length ≤ 2 ∧ (stF k r).1.o.task.wants.length ≤ 2 := by
  unfold stF
  split <;> first | exact opF_len r | exact ⟨Nat.zero_le _, Nat.zero_le _⟩
theorem dec_all (Q : Sp → Prop) (h : ∀ k r, 1 ≤ k → k ≤ 11 → Q (stF k r).1) : ∀ (n : Nat) (r : Rd), ∀ s ∈ decL n r, Q s
  | 0, r, s, hs => by simp [decL] at hs
  | n + 1, r, s, hs => by
    simp only [decL] at hs
    split at hs
    · simp at hs
    · split at hs
      · rename_i hk
        split at hs
        · simp at hs
        · rcases List.mem_cons.1 hs with rfl | hs
          · exact h _ _ hk.1 hk.2
          · exact dec_all Q h n _ s hs
      · exact dec_all Q h n _ s hs
theorem name_t : ∀ i : _root_.Fin 32, nameB (sT ++ num i.val) = true := by decide +kernel
theorem name_q : ∀ i : _root_.Fin 4, nameB (sQ ++ num i.val) = true := by decide +kernel
theorem name_n : ∀ i : _root_.Fin 8, nameB (sN ++ num i.val) = true := by decide +kernel
theorem nt (r : Rd) : nameB (nameS sT 32 r) = true := name_t ⟨(one r).1 % 32, Nat.mod_lt _ (by omega)⟩
theorem nq (r : Rd) : nameB (nameS sQ 4 r) = true := name_q ⟨(one r).1 % 4, Nat.mod_lt _ (by omega)⟩
theorem nn (r : Rd) : nameB (nameS sN 8 r) = true := name_n ⟨(one r).1 % 8, Nat.mod_lt _ (by omega)⟩
theorem right_am (r : Rd) : rightB (amR r) = true := by
  have h0 := one_lt (after 0 r)
  have h1 := one_lt (after 1 r)
  have h2 := one_lt (after 2 r)
  have k : ∀ n : Nat, n < 256 → inR (n : Int) = true := fun n h => by
    unfold inR
    rw [decide_eq_false (by omega), decide_eq_false (by omega)]; rfl
  unfold rightB
  rw [show (amR r).a = ((one (after 0 r)).1 : Int) from rfl, show (amR r).b = ((one (after 1 r)).1 : Int) from rfl, show (amR r).c = ((one (after 2 r)).1 : Int) from rfl, k _ h0, k _ h1, k _ h2]; rfl
theorem labels_lab (n : Nat) : labelsB (labF n) = true := by
  unfold labF lab1 lab2
  split <;> split <;> decide +kernel
theorem pick_maybe (n : Nat) (a b : ByteArray) (ha : nameB a = true) (hb : nameB b = true) : maybeB (pickS n a b) = true := by
  unfold pickS maybeB
  split
  · rw [ha]; simp
  · split
    · rw [hb]; simp
    · simp
theorem task_right (r : Rd) : taskB (taskF r) = true := by
  have hp : prioB (((at' 2 r % 10 : Nat) : Int)) = true := by
    unfold prioB
    rw [decide_eq_false (by omega), decide_eq_false (by omega)]; rfl
  have hg : gangB (taskF r) = true := by
    unfold gangB
    split
    · rename_i h
      have : gangF r = ⟨#[]⟩ := h
      simp [taskF, this]
    · rename_i h
      have h2 : ¬ gangF r = ⟨#[]⟩ := h
      have h3 : nameB (gangF r) = true := by
        have := pick_maybe (at' 6 r / 16) sG sH (by decide +kernel) (by decide +kernel)
        unfold maybeB at this
        rw [show pickS (at' 6 r / 16) sG sH = gangF r from rfl, decide_eq_false h2] at this
        simpa using this
      have e : (taskF r).size = ((2 + at' 7 r % 3 : Nat) : Int) := by simp [taskF, h2]
      rw [show (taskF r).gang = gangF r from rfl, h3, e, decide_eq_true (by omega), decide_eq_true (by omega)]; rfl
  unfold taskB
  rw [hg, show (taskF r).name = nameS sT 32 r from rfl, nt, show (taskF r).queue = nameS sQ 4 (after 1 r) from rfl, nq, show (taskF r).prio = ((at' 2 r % 10 : Nat) : Int) from rfl, hp, show (taskF r).need = amR (after 3 r) from rfl, right_am,
    show (taskF r).wants = labF (at' 6 r) from rfl, labels_lab, show (taskF r).apart = pickS (at' 6 r / 4) sX sY from rfl, pick_maybe _ _ _ (by decide +kernel) (by decide +kernel)]; rfl
theorem opF_right (r : Rd) : opR (opF r).1 = true := by
  have z1 : nodeEq nd0 ndZ = true := by decide +kernel
  have z2 : quEq qu0 quZ = true := by decide +kernel
  have z3 : taskEq tk0 tkZ = true := by decide +kernel
  have z4 : decide (e0 = ⟨#[]⟩) = true := by decide +kernel
  unfold opF
  split
  · simp [opR, z2, z3, z4, nodeB, nn, right_am, labels_lab, namedB]
  · simp [opR, z1, z2, z3, nn, namedB]
  · simp [opR, z1, z3, z4, queueB, nq, right_am, namedB]
  · simp [opR, z1, z2, z3, nq, namedB]
  · simp [opR, z1, z2, z4, task_right, namedB]
  · simp [opR, z1, z2, z3, nt, namedB]
  · simp [opR, z1, z2, z3, nt, namedB]
  · simp [opR, z1, z2, z3, nn, namedB]
  · simp [opR, z1, z2, z3, z4, namedB]
theorem stF_right (k : Nat) (r : Rd) (h : (stF k r).1.kind = 1) : opR (stF k r).1.o = true := by
  unfold stF at h ⊢
  split at h <;> first | exact opF_right r | (simp at h; done) | skip
  rename_i h1 _ _ _ _ _ _ _
  have h' : ((k : Nat) : Int) = 1 := h
  exact absurd (by omega) h1
end Go.Am.Scr
