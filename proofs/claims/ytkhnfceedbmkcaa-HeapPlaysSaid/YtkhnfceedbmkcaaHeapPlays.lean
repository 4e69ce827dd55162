/- HeapPlays: for every input the law returns true, and each argument reads behind the call as it read before. No conditions. -/
import Derived.Test.YtkhnfceedbmkcaaHeapF6
import Derived.Test.YtkhnfceedbmkcaaRows
import Derived.ProofKit
import Derived.OpenShut
import Derived.ShutString
import Derived.ChangeOld
import Derived.Below
import Derived.Laws.IdiomArrays
import Derived.Lib.SmallJoins
namespace Go.Proofs.Ytkhnfceedbmkcaa.heapPlays
open Go.ChangeShapes Go.WideShapes Go.ChangeAt Go.RowKit Go.Joins Go.Am
set_option linter.unusedVariables false
theorem own : ownKnob Try.prog.godebug = none := by kernel_rfl
theorem laidOut : laidOutB Try.prog = true := by kernel_rfl
theorem shp27 {cs : List AV} (h : Shp Try.prog 4 27 cs) : ∃ p : HeapP.X, cs = [.int .i64 p.key, .int .i64 p.x] := by
  obtain ⟨parts, hl, rfl, hp⟩ := h.struct Try.underlying27
  match parts, hl with
  | [p0, p1], _ =>
    have h0 : Shp Try.prog 3 3 p0 := hp 0 _ p0 rfl rfl
    have h1 : Shp Try.prog 3 3 p1 := hp 1 _ p1 rfl rfl
    obtain ⟨a, _, rfl⟩ := h0.int Try.underlying3
    obtain ⟨b, _, rfl⟩ := h1.int Try.underlying3
    exact ⟨⟨a, b⟩, rfl⟩
theorem shp53 {cs : List AV} (h : Shp Try.prog 5 53 cs) : ∃ o : HeapP.OpR, cs = [.int .i64 o.kind, .int .i64 o.p.key, .int .i64 o.p.x, .bool o.odd] := by
  obtain ⟨parts, hl, rfl, hp⟩ := h.struct Try.underlying53
  match parts, hl with
  | [p0, p1, p2], _ =>
    have h0 : Shp Try.prog 4 3 p0 := hp 0 _ p0 rfl rfl
    have h1 : Shp Try.prog 4 27 p1 := hp 1 _ p1 rfl rfl
    have h2 : Shp Try.prog 4 4 p2 := hp 2 _ p2 rfl rfl
    obtain ⟨a, _, rfl⟩ := h0.int Try.underlying3
    obtain ⟨b, rfl⟩ := shp27 h1
    obtain ⟨c, rfl⟩ := h2.bool Try.underlying4
    exact ⟨⟨a, b, c⟩, rfl⟩
theorem shp48 {cs : List AV} (h : Shp Try.prog 6 48 cs) : ∃ l : List HeapP.OpR, l.length ≤ maxLen ∧ cs = [HeapP.MO l] := by
  obtain ⟨rows, hl, rfl, hr⟩ := h.slice Try.underlying48
  obtain ⟨l, rfl⟩ := choose_map (f := fun o : HeapP.OpR => [AV.int .i64 o.kind, AV.int .i64 o.p.key, AV.int .i64 o.p.x, AV.bool o.odd]) (rows := rows) fun r hr' => shp53 (hr r hr')
  have e1 : Try.prog.cellsOf 53 = 4 := by kernel_rfl
  have e2 : isRowE Try.prog 53 = true := by kernel_rfl
  refine ⟨l, by simpa using hl, ?_⟩
  rw [e1, e2, List.map_map]
  rfl
set_option maxRecDepth 100000 in
theorem lifted (os : Os) (started : os.Started) (H : Type) (enc : TypeId × Value → H) :
    ReturnsInHanded {} Try.checked os 5 .any (Rows.heapPlaysSpec.pre6 enc Try.prog Try.f5 Rows.heapPlaysRow.domain false) (Rows.heapPlaysSpec.post enc Try.prog Try.f5 false true false false) := by
  refine returnsInHanded_of_change (C := Try.checked) own started (by kernel_rfl) Try.func5
    (ChangeSpec.witness6 (enc := enc) (C := Try.checked) false ⟨#[], #[.slice none 0 0], []⟩ 8 (by kernel_rfl) (by kernel_rfl) (by kernel_rfl) (by kernel_rfl)) ?_
  intro W base args ds gs before hval0 hW hcnd _
  have hval : ∀ (j : Nat) t v, Try.f5.params[j]? = some t → args[j]? = some v → Value.okWide Try.prog W .any base t v := hval0
  have hW' := hW
  obtain ⟨p, q, hA0, hV, rfl, hfz, hnd⟩ := hW
  have hA : DataW.TrodAll enc Try.prog W 0 (fun _ => true) true Try.f5.params.toList args.toList ds p := hA0
  rw [Try.params5] at hA hval
  obtain ⟨v0, vs0, d0, ds0, p0, q0, hargs, rfl, rfl, h0, r0⟩ := trodAll_cons hA
  obtain ⟨rfl, rfl, rfl⟩ := trodAll_nil r0
  obtain rfl : args = #[v0] := by cases args; simp_all
  obtain ⟨rfl, rfl⟩ := trodVars_none hV
  have k0 := h0
  have lt0 : ∀ x ∈ p0, x.block < W.heap.size := by obtain ⟨m, hm⟩ := k0; exact DataW.trod_lt m _ _ _ hm
  obtain ⟨cs0, sh0, vr0, bel0⟩ := open_arg 6 (by kernel_rfl) (hval 0 48 v0 rfl rfl) h0
  have e0 : isRowE Try.prog 48 = false := by kernel_rfl
  rw [e0] at vr0 bel0
  obtain ⟨x0, hx0, rfl⟩ := shp48 sh0
  simp only [mkRow, List.headD_cons] at vr0 bel0
  clear hA0 hval0
  refine (law_call (w := W) (HeapP.plays_law x0 hx0) rfl ?_).mono fun e W' ⟨he, bel'⟩ => ?_
  · intro φ i a x h1 h2
    match i with
    | 0 => simp at h1 h2; subst h1 h2; exact vr0 φ
    | i + 1 => simp at h1
  subst he
  exact ⟨_, rfl, _, _, _, [], _, [], hW', trodAll_mk1 (shut_bool Try.underlying4 _), (trodAll_cons_mk (Below.trod laidOut (by kernel_rfl) (of_decide_eq_true (by kernel_rfl)) k0 bel' lt0) trodAll_mk0), rfl, bel'.frame _, fun h => by cases h⟩

theorem over : Rows.heapPlaysRow.holds Try.pinned (OpenSpec.ofChange Rows.heapPlaysSpec) :=
  OpenClaim.holds_of_wide 5 Try.f5 rfl rfl rfl rfl rfl rfl rfl ⟨rfl, rfl, rfl, rfl, rfl⟩ rfl rfl rfl rfl rfl (by kernel_rfl) Try.func5 (by kernel_rfl)
    (of_decide_eq_true (by kernel_rfl)) (by unfold Func.isWrapper; first | (rw [if_pos (by decide +kernel)]; kernel_rfl) | (rw [if_neg (by decide +kernel)]; exact ⟨rfl, rfl⟩))
    (fun os started H enc _ => lifted os started H enc)

end Go.Proofs.Ytkhnfceedbmkcaa.heapPlays
theorem Go.Proofs.Ytkhnfceedbmkcaa.heapPlays_holds : Go.Proofs.Ytkhnfceedbmkcaa.Rows.HeapPlaysSaid := Go.Proofs.Ytkhnfceedbmkcaa.heapPlays.over
#print axioms Go.Proofs.Ytkhnfceedbmkcaa.heapPlays_holds
