/- MeshOnce: for every input the law returns true, and each argument reads behind the call as it read before. No conditions. -/
import Derived.Test.YthioendhhaancaaMeshO
import Derived.Test.YthioendhhaancaaRows
import Derived.ProofKit
import Derived.OpenShut
import Derived.ShutString
import Derived.ChangeOld
import Derived.Below
import Derived.Laws.IdiomArrays
import Derived.Lib.SmallJoins
namespace Go.Proofs.Ythioendhhaancaa.meshOnce
open Go.ChangeShapes Go.WideShapes Go.ChangeAt Go.RowKit Go.Joins Go.Am
set_option linter.unusedVariables false
theorem own : ownKnob Try.prog.godebug = none := by kernel_rfl
theorem laidOut : laidOutB Try.prog = true := by kernel_rfl
theorem shp39 {cs : List AV} (h : Shp Try.prog 6 39 cs) : ∃ l : List Int, l.length ≤ maxLen ∧ cs = [MeshI.ML l] := by
  obtain ⟨rows, hl, rfl, hr⟩ := h.slice Try.underlying39
  obtain ⟨l, rfl⟩ := choose_map (f := fun p : Int => [AV.int .i64 p]) (rows := rows) fun r hr' => by
    obtain ⟨s, _, rfl⟩ := (hr r hr').int Try.underlying3
    exact ⟨s, rfl⟩
  have e1 : Try.prog.cellsOf 3 = 1 := by kernel_rfl
  have e2 : isRowE Try.prog 3 = false := by kernel_rfl
  refine ⟨l, by simpa using hl, ?_⟩
  rw [e1, e2, List.map_map]
  rfl
theorem shp40 {cs : List AV} (h : Shp Try.prog 6 40 cs) : ∃ l : List Int, l.length ≤ maxLen ∧ (∀ p ∈ l, 0 ≤ p ∧ p < 18446744073709551616) ∧ cs = [MeshI.PL l] := by
  obtain ⟨rows, hl, rfl, hr⟩ := h.slice Try.underlying40
  obtain ⟨l, rfl⟩ := choose_map (f := fun p : {n : Int // 0 ≤ n ∧ n < 18446744073709551616} => [AV.int .u64 p.1]) (rows := rows) fun r hr' => by
    obtain ⟨s, hs, rfl⟩ := (hr r hr').int Try.underlying41
    refine ⟨⟨s, ?_⟩, rfl⟩
    simp [Lit.wf, IntKind.min, IntKind.max, IntKind.signed, IntKind.bits] at hs
    omega
  have e1 : Try.prog.cellsOf 41 = 1 := by kernel_rfl
  have e2 : isRowE Try.prog 41 = false := by kernel_rfl
  refine ⟨l.map (·.1), by simpa using hl, fun p hp => ?_, ?_⟩
  · obtain ⟨q, _, rfl⟩ := List.mem_map.1 hp; exact q.2
  · rw [e1, e2, List.map_map, MeshI.PL, List.map_map]
    rfl
set_option maxRecDepth 100000 in
theorem lifted (os : Os) (started : os.Started) (H : Type) (enc : TypeId × Value → H) :
    ReturnsInHanded {} Try.checked os 4 .any (Rows.meshOnceSpec.pre6 enc Try.prog Try.f4 Rows.meshOnceRow.domain false) (Rows.meshOnceSpec.post enc Try.prog Try.f4 false true false false) := by
  refine returnsInHanded_of_change (C := Try.checked) own started (by kernel_rfl) Try.func4
    (ChangeSpec.witness6 (enc := enc) (C := Try.checked) false ⟨#[], #[.slice none 0 0, .slice none 0 0], []⟩ 8 (by kernel_rfl) (by kernel_rfl) (by kernel_rfl) (by kernel_rfl)) ?_
  intro W base args ds gs before hval0 hW hcnd _
  have hval : ∀ (j : Nat) t v, Try.f4.params[j]? = some t → args[j]? = some v → Value.okWide Try.prog W .any base t v := hval0
  have hW' := hW
  obtain ⟨p, q, hA0, hV, rfl, hfz, hnd⟩ := hW
  have hA : DataW.TrodAll enc Try.prog W 0 (fun _ => true) true Try.f4.params.toList args.toList ds p := hA0
  rw [Try.params4] at hA hval
  obtain ⟨v0, vs0, d0, ds0, p0, q0, hargs, rfl, rfl, h0, r0⟩ := trodAll_cons hA
  obtain ⟨v1, vs1, d1, ds1, p1, q1, rfl, rfl, rfl, h1, r1⟩ := trodAll_cons r0
  obtain ⟨rfl, rfl, rfl⟩ := trodAll_nil r1
  obtain rfl : args = #[v0, v1] := by cases args; simp_all
  obtain ⟨rfl, rfl⟩ := trodVars_none hV
  have k0 := h0
  have lt0 : ∀ x ∈ p0, x.block < W.heap.size := by obtain ⟨m, hm⟩ := k0; exact DataW.trod_lt m _ _ _ hm
  obtain ⟨cs0, sh0, vr0, bel0⟩ := open_arg 6 (by kernel_rfl) (hval 0 39 v0 rfl rfl) h0
  have e0 : isRowE Try.prog 39 = false := by kernel_rfl
  rw [e0] at vr0 bel0
  obtain ⟨x0, hx0, rfl⟩ := shp39 sh0
  simp only [mkRow, List.headD_cons] at vr0 bel0
  have k1 := h1
  have lt1 : ∀ x ∈ p1, x.block < W.heap.size := by obtain ⟨m, hm⟩ := k1; exact DataW.trod_lt m _ _ _ hm
  obtain ⟨cs1, sh1, vr1, bel1⟩ := open_arg 6 (by kernel_rfl) (hval 1 40 v1 rfl rfl) h1
  have e1 : isRowE Try.prog 40 = false := by kernel_rfl
  rw [e1] at vr1 bel1
  obtain ⟨x1, hx1, hy1, rfl⟩ := shp40 sh1
  simp only [mkRow, List.headD_cons] at vr1 bel1
  clear hA0 hval0
  refine (law_call (w := W) (MeshI.once_law x0 x1 hx0 hx1 hy1) rfl ?_).mono fun e W' ⟨he, bel'⟩ => ?_
  · intro φ i a x h1 h2
    match i with
    | 0 => simp at h1 h2; subst h1 h2; exact vr0 φ
    | 1 => simp at h1 h2; subst h1 h2; exact vr1 φ
    | i + 2 => simp at h1
  subst he
  exact ⟨_, rfl, _, _, _, [], _, [], hW', trodAll_mk1 (shut_bool Try.underlying4 _), (trodAll_cons_mk (Below.trod laidOut (by kernel_rfl) (of_decide_eq_true (by kernel_rfl)) k0 bel' lt0) (trodAll_cons_mk (Below.trod laidOut (by kernel_rfl) (of_decide_eq_true (by kernel_rfl)) k1 bel' lt1) trodAll_mk0)), rfl, bel'.frame _, fun h => by cases h⟩

theorem over : Rows.meshOnceRow.holds Try.pinned (OpenSpec.ofChange Rows.meshOnceSpec) :=
  OpenClaim.holds_of_wide 4 Try.f4 rfl rfl rfl rfl rfl rfl rfl ⟨rfl, rfl, rfl, rfl, rfl⟩ rfl rfl rfl rfl rfl (by kernel_rfl) Try.func4 (by kernel_rfl)
    (of_decide_eq_true (by kernel_rfl)) (by unfold Func.isWrapper; first | (rw [if_pos (by decide +kernel)]; kernel_rfl) | (rw [if_neg (by decide +kernel)]; exact ⟨rfl, rfl⟩))
    (fun os started H enc _ => lifted os started H enc)

end Go.Proofs.Ythioendhhaancaa.meshOnce
theorem Go.Proofs.Ythioendhhaancaa.meshOnce_holds : Go.Proofs.Ythioendhhaancaa.Rows.MeshOnceSaid := Go.Proofs.Ythioendhhaancaa.meshOnce.over
#print axioms Go.Proofs.Ythioendhhaancaa.meshOnce_holds
