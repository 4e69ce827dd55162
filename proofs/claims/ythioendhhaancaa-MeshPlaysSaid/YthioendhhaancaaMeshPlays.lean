/- MeshPlays: for every input the law returns true, and each argument reads behind the call as it read before. No conditions. -/
import Derived.Test.YthioendhhaancaaPlaysW
import Derived.Deep.Slices
import Derived.ProofKit
import Derived.OpenShut
import Derived.ShutString
import Derived.ChangeOld
import Derived.Below
import Derived.Laws.IdiomArrays
import Derived.Lib.SmallJoins
namespace Go.Proofs.Ythioendhhaancaa.meshPlays
open Go.ChangeShapes Go.WideShapes Go.ChangeAt Go.RowKit Go.Lw Go.Joins Go.Deep
set_option linter.unusedVariables false
theorem own : ownKnob Try.prog.godebug = none := by kernel_rfl
theorem laidOut : laidOutB Try.prog = true := by kernel_rfl
theorem cells29 : Try.prog.cellsOf 29 = 2 := by kernel_rfl
theorem cells3 : Try.prog.cellsOf 3 = 1 := by kernel_rfl
instance instOpV : Inhabited OpV := ⟨⟨0, 0⟩⟩
theorem trod_op {H : Type} {enc : TypeId × Value → H} {W : World} {base n : Nat} {spare : Nat → Bool} {held : Bool} {cs : List Value} {x : DataW H × List MemPlace}
    (hl : cs.length = 2) (h : DataW.trod enc Try.prog W base spare held n 29 cs = some x) : ∃ r : OpV, cs = [.int .i64 r.kind, .int .i64 r.n] := by
  obtain ⟨c0, c1, hcs⟩ := array2 (cs := cs.toArray) (by simpa using hl)
  obtain rfl : cs = [c0, c1] := by have := congrArg Array.toList hcs; simpa using this
  obtain ⟨y0, y1, n, _, _, h0, h1⟩ := trod_struct2 Try.underlying29 h
  obtain ⟨a, e0, _⟩ := DataW.trod_int Try.underlying3 (by simpa [cells3] using h0)
  obtain ⟨b, e1, _⟩ := DataW.trod_int Try.underlying3 (by simpa [cells3] using h1)
  simp at e0 e1
  subst e0 e1
  exact ⟨⟨a, b⟩, rfl⟩
theorem open_ops {H : Type} {enc : TypeId × Value → H} {W : World} {r : Reach} {b0 base : Nat} {spare : Nat → Bool} {held : Bool} {v : Value} {d : DataW H} {ps : List MemPlace}
    (hv : Value.okWide Try.prog W r b0 22 v) (h : DataW.Trod enc Try.prog W base spare held 22 v d ps) :
    ∃ a len cap, v = .slice a len cap ∧ (len = 0 ∨ ∃ b off xs, a = some ⟨b, off, none⟩ ∧ xs.length = len ∧ len ≤ maxLen ∧ b < W.heap.size ∧ Lies2 W b off xs) := by
  obtain ⟨a, len, cap, rfl⟩ := okWide_slice Try.underlying22 hv
  refine ⟨a, len, cap, rfl, ?_⟩
  obtain ⟨fuel, hf⟩ := h
  rcases open_slice Try.underlying22 hf with ⟨hcs, _⟩ | ⟨a', len', cap', m, n, D, Pl, hcs, _, hl, hm, hmm, _, hel⟩
  · simp [Value.cells] at hcs; exact .inl hcs.2.1
  · simp [Value.cells] at hcs
    obtain ⟨rfl, rfl, rfl⟩ := hcs
    by_cases h0 : len = 0
    · exact .inl h0
    right
    have hlm : len ≤ m := by rw [hmm]; split <;> omega
    rw [cells29] at hel
    have hs : a'.spot = none := by
      obtain ⟨cs, h1, _⟩ := hel 0 (by omega)
      obtain ⟨_, hlen, hce⟩ := World.cells?_some h1
      have q0 := hce 0 (by omega)
      rw [List.getElem?_eq_getElem (by omega)] at q0
      have := World.cell?_spot q0
      simpa [Addr.add] using this
    obtain ⟨b, off, spot⟩ := a'
    simp only at hs
    subst hs
    have add_n : ∀ n, (Addr.mk b off none).add n = ⟨b, off + n, none⟩ := fun n => by unfold Addr.add; split <;> simp_all
    have add_m : ∀ n k, (Addr.mk b n none).add k = ⟨b, n + k, none⟩ := fun n k => by unfold Addr.add; split <;> simp_all
    have key : ∀ i, i < len → ∃ r : OpV, W.cell? ⟨b, off + i * 2, none⟩ = some (.int .i64 r.kind) ∧ W.cell? ⟨b, off + i * 2 + 1, none⟩ = some (.int .i64 r.n) := by
      intro i hi
      obtain ⟨cs, h1, h2⟩ := hel i (by omega)
      obtain ⟨_, hlen, hce⟩ := World.cells?_some h1
      obtain ⟨r, rfl⟩ := trod_op hlen h2
      have q0 := hce 0 (by omega)
      have q1 := hce 1 (by omega)
      rw [add_n, add_m] at q0 q1
      exact ⟨r, q0, q1⟩
    obtain ⟨V, hV⟩ := choose_lt key
    obtain ⟨q0, _⟩ := hV 0 (by omega)
    have hblt := World.block_lt_of_cell? _ _ q0
    refine ⟨b, off, (List.range len).map V, rfl, by simp, by omega, hblt, ?_⟩
    intro i x hx
    rw [List.getElem?_map] at hx
    rcases Nat.lt_or_ge i len with hi | hi
    · rw [List.getElem?_range hi] at hx
      simp at hx
      subst hx
      exact hV i hi
    · rw [List.getElem?_eq_none (by simpa using hi)] at hx
      simp at hx
theorem walk (room : Int) (a : Option Addr) (len cap : Nat) (w : World) (h : len = 0 ∨ ∃ b off xs, a = some ⟨b, off, none⟩ ∧ xs.length = len ∧ len ≤ maxLen ∧ b < w.heap.size ∧ Lies2 w b off xs) :
    Calls Try.prog 5 #[.int .i64 room, .slice a len cap] w fun e w' => e = .returned (.bool true) ∧ Below w.heap.size w w' := by
  rcases h with rfl | ⟨b, off, xs, rfl, hl, hm, hb, hx⟩
  · exact plays_nil room a cap w
  · by_cases h3 : len ≤ 300
    · exact plays_any room b off len cap xs w hl h3 hb hx
    · exact plays_long room _ len cap w (by omega)
set_option maxRecDepth 100000 in
theorem lifted (os : Os) (started : os.Started) (H : Type) (enc : TypeId × Value → H) :
    ReturnsInHanded {} Try.checked os 5 .any (Rows.meshPlaysSpec.pre6 enc Try.prog Try.f5 Rows.meshPlaysRow.domain false) (Rows.meshPlaysSpec.post enc Try.prog Try.f5 false true false false) := by
  refine returnsInHanded_of_change (C := Try.checked) own started (by kernel_rfl) Try.func5
    (ChangeSpec.witness6 (enc := enc) (C := Try.checked) false ⟨#[], #[.int .i64 0, .slice none 0 0], []⟩ 8 (by kernel_rfl) (by kernel_rfl) (by kernel_rfl) (by kernel_rfl)) ?_
  intro W base args ds gs before hval0 hW hcnd _
  have hval : ∀ (j : Nat) t v, Try.f5.params[j]? = some t → args[j]? = some v → Value.okWide Try.prog W .any base t v := hval0
  have hW' := hW
  obtain ⟨p, q, hA0, hV, rfl, hfz, hnd⟩ := hW
  have hA : DataW.TrodAll enc Try.prog W 0 (fun _ => true) true Try.f5.params.toList args.toList ds p := hA0
  rw [Try.params5] at hA hval
  obtain ⟨v0, vs0, d0, ds0, p0, q0, hargs, rfl, rfl, h0, r0⟩ := trodAll_cons hA
  obtain ⟨v1, vs1, d1, ds1, p1, q1, rfl, rfl, rfl, h1, r1⟩ := trodAll_cons r0
  obtain ⟨rfl, rfl, rfl⟩ := trodAll_nil r1
  obtain rfl : args = #[v0, v1] := by cases args; simp_all
  obtain ⟨rfl, rfl⟩ := trodVars_none hV
  have k0 := h0
  have lt0 : ∀ x ∈ p0, x.block < W.heap.size := by obtain ⟨m, hm⟩ := k0; exact DataW.trod_lt m _ _ _ hm
  obtain ⟨x0, rfl, rfl, rfl, wf0⟩ := open_int Try.underlying3 (hval 0 3 v0 rfl rfl) h0
  have k1 := h1
  have lt1 : ∀ x ∈ p1, x.block < W.heap.size := by obtain ⟨m, hm⟩ := k1; exact DataW.trod_lt m _ _ _ hm
  obtain ⟨a1, len1, cap1, rfl, w1⟩ := open_ops (hval 1 22 v1 rfl rfl) h1
  clear hA0 hval0
  refine (walk x0 a1 len1 cap1 W w1).mono fun e W' ⟨he, bel⟩ => ?_
  subst he
  exact ⟨_, rfl, _, _, _, [], _, [], hW', trodAll_mk1 (shut_bool Try.underlying4 _), (trodAll_cons_mk (Below.trod laidOut (by kernel_rfl) (of_decide_eq_true (by kernel_rfl)) k0 bel lt0) (trodAll_cons_mk (Below.trod laidOut (by kernel_rfl) (of_decide_eq_true (by kernel_rfl)) k1 bel lt1) trodAll_mk0)), rfl, bel.frame _, fun h => by cases h⟩

theorem over : Rows.meshPlaysRow.holds Try.pinned (OpenSpec.ofChange Rows.meshPlaysSpec) :=
  OpenClaim.holds_of_wide 5 Try.f5 rfl rfl rfl rfl rfl rfl rfl ⟨rfl, rfl, rfl, rfl, rfl⟩ rfl rfl rfl rfl rfl (by kernel_rfl) Try.func5 (by kernel_rfl)
    (of_decide_eq_true (by kernel_rfl)) (by unfold Func.isWrapper; first | (rw [if_pos (by decide +kernel)]; kernel_rfl) | (rw [if_neg (by decide +kernel)]; exact ⟨rfl, rfl⟩))
    (fun os started H enc _ => lifted os started H enc)

end Go.Proofs.Ythioendhhaancaa.meshPlays
theorem Go.Proofs.Ythioendhhaancaa.meshPlays_holds : Go.Proofs.Ythioendhhaancaa.Rows.MeshPlaysSaid := Go.Proofs.Ythioendhhaancaa.meshPlays.over
#print axioms Go.Proofs.Ythioendhhaancaa.meshPlays_holds
