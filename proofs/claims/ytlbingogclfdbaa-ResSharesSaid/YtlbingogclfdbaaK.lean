/- Contracts of package res and of its reference, in the form that a law's walk takes them. No conditions. -/
import Derived.Test.YtlbingogclfdbaaSums
import Derived.Test.YtlbingogclfdbaaShare
import Derived.Test.YtlbingogclfdbaaReg
namespace Go.Proofs.Ytlbingogclfdbaa
open Go.RowKit Go.Lw
attribute [local go_sem] lt_p2 le_p2 lt_p3 le_p3 lt_p4 le_p4 lt_p5 le_p5 lt_p6 le_p6 lt_p7 le_p7 lt_p8 le_p8 lt_p9 le_p9 lt_p10 le_p10 lt_p11 le_p11 lt_p12 le_p12 lt_p13 le_p13 lt_p14 le_p14 lt_p15 le_p15 lt_p16 le_p16 le_c0 le_c1 lt_c2 le_c2 lt_c3 le_c3 lt_c4 le_c4 lt_c5 le_c5 lt_c6 le_c6 lt_c7 le_c7 lt_c8 le_c8 lt_c9 le_c9 lt_c10 le_c10 lt_c11 le_c11 lt_c12 le_c12 lt_c13 le_c13 lt_c14 le_c14 lt_c15 le_c15 lt_c16 le_c16 cell_set uponV_value uponV_skip uponV_enter
set_option linter.unusedVariables false
set_option linter.unusedSimpArgs false
theorem part3_0 (a b c : Int) (w : World) : (part 3 #[.int .i64 a, .int .i64 b, .int .i64 c] (0 * 1)).run Try.prog w = .ok (.int .i64 a) w := by kernel_rfl
theorem part3_1 (a b c : Int) (w : World) : (part 3 #[.int .i64 a, .int .i64 b, .int .i64 c] (1 * 1)).run Try.prog w = .ok (.int .i64 b) w := by kernel_rfl
theorem part3_2 (a b c : Int) (w : World) : (part 3 #[.int .i64 a, .int .i64 b, .int .i64 c] (2 * 1)).run Try.prog w = .ok (.int .i64 c) w := by kernel_rfl
theorem size3 (w : World) : (sizeOf 3).run Try.prog w = .ok 1 w := by kernel_rfl
theorem eqi (a b : Int) (w : World) (d : Nat) : (Op.equalIn (d + 1) 3 (.int .i64 a) (.int .i64 b)).run Try.prog w = .ok (a == b) w := by
  simp [Op.equalIn, go_sem, run_underlying Try.underlying3]
theorem eq3 (a0 a1 a2 b0 b1 b2 : Int) (w : World) : (Op.equalIn 10000 23 (.agg #[.int .i64 a0, .int .i64 a1, .int .i64 a2]) (.agg #[.int .i64 b0, .int .i64 b1, .int .i64 b2])).run Try.prog w = .ok (a0 == b0 && a1 == b1 && a2 == b2) w := by
  show (Op.equalIn (9998 + 1 + 1) _ _ _).run Try.prog w = _
  unfold Op.equalIn
  simp only [Sem.run_bind, run_underlying Try.underlying23, Result.andThen_ok, size3]
  rw [Std.Legacy.Range.forIn_eq_forIn_range']
  simp only [Std.Legacy.Range.size, Nat.sub_zero, Nat.add_sub_cancel, Nat.div_one, List.range', List.forIn_cons, List.forIn_nil, Sem.run_bind, Result.andThen_ok, part3_0, part3_1, part3_2, eqi]
  cases h0 : (a0 == b0) <;> cases h1 : (a1 == b1) <;> cases h2 : (a2 == b2) <;> simp [go_sem, part3_0, part3_1, part3_2, eqi, h0, h1, h2]
theorem calls_k {f : FuncId} {args : Array Value} {w : World} {v v' : Value} {R : Ending → World → Prop} (hc : Calls Try.prog f args w fun e w' => e = .returned v ∧ Below w.heap.size w w') (h : v = v')
    (hR : ∀ w', Below w.heap.size w w' → R (.returned v') w') : Calls Try.prog f args w R := hc.mono fun e w' ⟨he, hb⟩ => he ▸ h ▸ hR w' hb
theorem calls_k1 {f : FuncId} {args : Array Value} {w : World} {v v' : Value} {o : Obj} {R : Ending → World → Prop} (hc : Calls Try.prog f args w fun e w' => e = .returned v ∧ w.alloc o = w') (h : v = v')
    (hR : ∀ w', Below w.heap.size w w' → R (.returned v') w') : Calls Try.prog f args w R := calls_k (hc.mono fun _ _ ⟨he, hw⟩ => ⟨he, hw ▸ below1 _ _⟩) h hR
theorem calls_k2 {f : FuncId} {args : Array Value} {w : World} {v v' : Value} {o o' : Obj} {R : Ending → World → Prop} (hc : Calls Try.prog f args w fun e w' => e = .returned v ∧ (w.alloc o).alloc o' = w') (h : v = v')
    (hR : ∀ w', Below w.heap.size w w' → R (.returned v') w') : Calls Try.prog f args w R := calls_k (hc.mono fun _ _ ⟨he, hw⟩ => ⟨he, hw ▸ below2 _ _ _⟩) h hR
variable {a0 a1 a2 b0 b1 b2 : Int} {w : World} {R : Ending → World → Prop}
theorem fits_k {t : Bool} (h : fitsB a0 a1 a2 b0 b1 b2 = t) (hR : ∀ w', Below w.heap.size w w' → R (.returned (.bool t)) w') : Calls Try.prog 10 #[rv a0 a1 a2, rv b0 b1 b2] w R :=
  calls_k2 (fits_any _ _ _ _ _ _ _) (by rw [h]) hR
theorem rfits_k {t : Bool} (h : fitsB a0 a1 a2 b0 b1 b2 = t) (hR : ∀ w', Below w.heap.size w w' → R (.returned (.bool t)) w') : Calls Try.prog 20 #[rv a0 a1 a2, rv b0 b1 b2] w R :=
  calls_k2 (rfits_any _ _ _ _ _ _ _) (by rw [h]) hR
theorem right_k {t : Bool} (h : rightB a0 a1 a2 = t) (hR : ∀ w', Below w.heap.size w w' → R (.returned (.bool t)) w') : Calls Try.prog 11 #[rv a0 a1 a2] w R :=
  calls_k1 (right_any _ _ _ _) (by rw [h]) hR
theorem rright_k {t : Bool} (h : rightB a0 a1 a2 = t) (hR : ∀ w', Below w.heap.size w w' → R (.returned (.bool t)) w') : Calls Try.prog 19 #[rv a0 a1 a2] w R :=
  calls_k1 (rright_any _ _ _ _) (by rw [h]) hR
theorem add_k {x y z e : Int} (h : addV a0 a1 a2 b0 b1 b2 1 = .tuple #[rv x y z, .int .i64 e]) (hR : ∀ w', Below w.heap.size w w' → R (.returned (.tuple #[rv x y z, .int .i64 e])) w') : Calls Try.prog 12 #[rv a0 a1 a2, rv b0 b1 b2] w R :=
  calls_k (add_any _ _ _ _ _ _ _) h hR
theorem sub_k {x y z e : Int} (h : addV a0 a1 a2 b0 b1 b2 (-1) = .tuple #[rv x y z, .int .i64 e]) (hR : ∀ w', Below w.heap.size w w' → R (.returned (.tuple #[rv x y z, .int .i64 e])) w') : Calls Try.prog 13 #[rv a0 a1 a2, rv b0 b1 b2] w R :=
  calls_k (sub_any _ _ _ _ _ _ _) h hR
theorem radd_k {x y z e : Int} (h : addV a0 a1 a2 b0 b1 b2 1 = .tuple #[rv x y z, .int .i64 e]) (hR : ∀ w', Below w.heap.size w w' → R (.returned (.tuple #[rv x y z, .int .i64 e])) w') : Calls Try.prog 17 #[rv a0 a1 a2, rv b0 b1 b2] w R :=
  calls_k (radd_any _ _ _ _ _ _ _) h hR
theorem rsub_k {x y z e : Int} (h : addV a0 a1 a2 b0 b1 b2 (-1) = .tuple #[rv x y z, .int .i64 e]) (hR : ∀ w', Below w.heap.size w w' → R (.returned (.tuple #[rv x y z, .int .i64 e])) w') : Calls Try.prog 18 #[rv a0 a1 a2, rv b0 b1 b2] w R :=
  calls_k (rsub_any _ _ _ _ _ _ _) h hR
theorem share_k {n : Int} (h : shareI a0 a1 a2 b0 b1 b2 = n) (hR : ∀ w', Below w.heap.size w w' → R (.returned (.int .i64 n)) w') : Calls Try.prog 16 #[rv a0 a1 a2, rv b0 b1 b2] w R :=
  calls_k (share_any _ _ _ _ _ _ _) (by rw [h]) hR
theorem rshare_k {n : Int} (h : shareI a0 a1 a2 b0 b1 b2 = n) (hR : ∀ w', Below w.heap.size w w' → R (.returned (.int .i64 n)) w') : Calls Try.prog 21 #[rv a0 a1 a2, rv b0 b1 b2] w R :=
  calls_k (rshare_any _ _ _ _ _ _ _) (by rw [h]) hR
set_option maxHeartbeats 1000000 in
theorem awake_any (w : World) :
    Calls Try.prog 9 #[] w fun e w' => e = .returned (.bool true) ∧ Below w.heap.size w w' := by
  have e1 : addV 1 2 3 1 0 0 1 = .tuple #[rv 2 2 3, .int .i64 0] := by rw [addV_0 (by decide) (by decide) (by decide)]; rfl
  have e2 : fitsB 0 0 0 2 2 3 = true := by decide
  have eq3' := eq3 2 2 3 2 2 3
  go_enter Try.func9, Try.ntmps9
  go_wp2_with fail
  refine (add_any 1 2 3 1 0 0 _).mono ?_
  rw [e1]
  rintro e w' ⟨rfl, hb⟩
  have hz := hb.size
  go_wp2_with (first | (go_at_call 10; refine (fits_any _ _ _ _ _ _ _).mono ?_; rintro e w' ⟨rfl, rfl⟩))
  go_ret
  exact ⟨ret_bool (by first | rfl | decide), by (repeat (first | with_reducible exact Below.refl _ _ | with_reducible assumption | with_reducible refine Below.drew ?_ | with_reducible refine bl_drewN ?_ | (with_reducible refine bl_alloc ?_ ?_; · (first | omega | (simp; done) | (simp; omega))) | (with_reducible refine bl_set ?_ ?_; · (first | omega | (simp; done) | (simp; omega))) | (with_reducible refine bl_trans hb ?_ ?_; · (first | omega | (simp; done) | (simp; omega)))))⟩

theorem awake_k (hR : ∀ w', Below w.heap.size w w' → R (.returned (.bool true)) w') : Calls Try.prog 9 #[] w R := calls_k (awake_any _) rfl hR
end Go.Proofs.Ytlbingogclfdbaa
