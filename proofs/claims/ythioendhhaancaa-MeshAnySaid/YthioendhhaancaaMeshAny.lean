/- MeshAny: for every input the law returns true, and each argument reads behind the call as it read before. No conditions. -/
import Derived.Test.YthioendhhaancaaMeshA3
import Derived.Test.YthioendhhaancaaRows
import Derived.ProofKit
import Derived.OpenShut
import Derived.ShutString
import Derived.ChangeOld
import Derived.Below
import Derived.Laws.IdiomArrays
import Derived.Lib.SmallJoins
namespace Go.Proofs.Ythioendhhaancaa.meshAny
open Go.ChangeShapes Go.WideShapes Go.ChangeAt Go.RowKit Go.Joins Go.Am
set_option linter.unusedVariables false
theorem own : ownKnob Try.prog.godebug = none := by kernel_rfl
theorem laidOut : laidOutB Try.prog = true := by kernel_rfl
theorem shp29 {cs : List AV} (h : Shp Try.prog 5 29 cs) : ∃ o : MeshA.OpR, cs = [.int .i64 o.kind, .int .i64 o.n] := by
  obtain ⟨parts, hl, rfl, hp⟩ := h.struct Try.underlying29
  match parts, hl with
  | [p0, p1], _ =>
    have h0 : Shp Try.prog 4 3 p0 := hp 0 _ p0 rfl rfl
    have h1 : Shp Try.prog 4 3 p1 := hp 1 _ p1 rfl rfl
    obtain ⟨a, _, rfl⟩ := h0.int Try.underlying3
    obtain ⟨b, _, rfl⟩ := h1.int Try.underlying3
    exact ⟨⟨a, b⟩, rfl⟩
theorem shp22 {cs : List AV} (h : Shp Try.prog 6 22 cs) : ∃ l : List MeshA.OpR, l.length ≤ maxLen ∧ cs = [MeshA.MO l] := by
  obtain ⟨rows, hl, rfl, hr⟩ := h.slice Try.underlying22
  obtain ⟨l, rfl⟩ := choose_map (f := fun o : MeshA.OpR => [AV.int .i64 o.kind, AV.int .i64 o.n]) (rows := rows) fun r hr' => shp29 (hr r hr')
  have e1 : Try.prog.cellsOf 29 = 2 := by kernel_rfl
  have e2 : isRowE Try.prog 29 = true := by kernel_rfl
  refine ⟨l, by simpa using hl, ?_⟩
  rw [e1, e2, List.map_map]
  rfl
set_option maxRecDepth 100000 in
theorem lifted (os : Os) (started : os.Started) (H : Type) (enc : TypeId × Value → H) :
    ReturnsInHanded {} Try.checked os 3 .any (Rows.meshAnySpec.pre6 enc Try.prog Try.f3 Rows.meshAnyRow.domain false) (Rows.meshAnySpec.post enc Try.prog Try.f3 false true false false) := by
  refine returnsInHanded_of_change (C := Try.checked) own started (by kernel_rfl) Try.func3
    (ChangeSpec.witness6 (enc := enc) (C := Try.checked) false ⟨#[], #[.int .i64 0, .slice none 0 0], []⟩ 8 (by kernel_rfl) (by kernel_rfl) (by kernel_rfl) (by kernel_rfl)) ?_
  intro W base args ds gs before hval0 hW hcnd _
  have hval : ∀ (j : Nat) t v, Try.f3.params[j]? = some t → args[j]? = some v → Value.okWide Try.prog W .any base t v := hval0
  have hW' := hW
  obtain ⟨p, q, hA0, hV, rfl, hfz, hnd⟩ := hW
  have hA : DataW.TrodAll enc Try.prog W 0 (fun _ => true) true Try.f3.params.toList args.toList ds p := hA0
  rw [Try.params3] at hA hval
  obtain ⟨v0, vs0, d0, ds0, p0, q0, hargs, rfl, rfl, h0, r0⟩ := trodAll_cons hA
  obtain ⟨v1, vs1, d1, ds1, p1, q1, rfl, rfl, rfl, h1, r1⟩ := trodAll_cons r0
  obtain ⟨rfl, rfl, rfl⟩ := trodAll_nil r1
  obtain rfl : args = #[v0, v1] := by cases args; simp_all
  obtain ⟨rfl, rfl⟩ := trodVars_none hV
  have k0 := h0
  have lt0 : ∀ x ∈ p0, x.block < W.heap.size := by obtain ⟨m, hm⟩ := k0; exact DataW.trod_lt m _ _ _ hm
  obtain ⟨cs0, sh0, vr0, bel0⟩ := open_arg 6 (by kernel_rfl) (hval 0 3 v0 rfl rfl) h0
  have e0 : isRowE Try.prog 3 = false := by kernel_rfl
  rw [e0] at vr0 bel0
  obtain ⟨x0, _, rfl⟩ := sh0.int Try.underlying3
  simp only [mkRow, List.headD_cons] at vr0 bel0
  have k1 := h1
  have lt1 : ∀ x ∈ p1, x.block < W.heap.size := by obtain ⟨m, hm⟩ := k1; exact DataW.trod_lt m _ _ _ hm
  obtain ⟨cs1, sh1, vr1, bel1⟩ := open_arg 6 (by kernel_rfl) (hval 1 22 v1 rfl rfl) h1
  have e1 : isRowE Try.prog 22 = false := by kernel_rfl
  rw [e1] at vr1 bel1
  obtain ⟨x1, hx1, rfl⟩ := shp22 sh1
  simp only [mkRow, List.headD_cons] at vr1 bel1
  clear hA0 hval0
  refine (law_call (w := W) (MeshA.any_law x0 x1 hx1) rfl ?_).mono fun e W' ⟨he, bel'⟩ => ?_
  · intro φ i a x h1 h2
    match i with
    | 0 => simp at h1 h2; subst h1 h2; exact vr0 φ
    | 1 => simp at h1 h2; subst h1 h2; exact vr1 φ
    | i + 2 => simp at h1
  subst he
  exact ⟨_, rfl, _, _, _, [], _, [], hW', trodAll_mk1 (shut_bool Try.underlying4 _), (trodAll_cons_mk (Below.trod laidOut (by kernel_rfl) (of_decide_eq_true (by kernel_rfl)) k0 bel' lt0) (trodAll_cons_mk (Below.trod laidOut (by kernel_rfl) (of_decide_eq_true (by kernel_rfl)) k1 bel' lt1) trodAll_mk0)), rfl, bel'.frame _, fun h => by cases h⟩

theorem over : Rows.meshAnyRow.holds Try.pinned (OpenSpec.ofChange Rows.meshAnySpec) :=
  OpenClaim.holds_of_wide 3 Try.f3 rfl rfl rfl rfl rfl rfl rfl ⟨rfl, rfl, rfl, rfl, rfl⟩ rfl rfl rfl rfl rfl (by kernel_rfl) Try.func3 (by kernel_rfl)
    (of_decide_eq_true (by kernel_rfl)) (by unfold Func.isWrapper; first | (rw [if_pos (by decide +kernel)]; kernel_rfl) | (rw [if_neg (by decide +kernel)]; exact ⟨rfl, rfl⟩))
    (fun os started H enc _ => lifted os started H enc)

end Go.Proofs.Ythioendhhaancaa.meshAny
theorem Go.Proofs.Ythioendhhaancaa.meshAny_holds : Go.Proofs.Ythioendhhaancaa.Rows.MeshAnySaid := Go.Proofs.Ythioendhhaancaa.meshAny.over
#print axioms Go.Proofs.Ythioendhhaancaa.meshAny_holds
