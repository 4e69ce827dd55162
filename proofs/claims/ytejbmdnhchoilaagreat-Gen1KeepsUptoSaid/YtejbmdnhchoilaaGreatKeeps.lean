/- Gen1Keeps where what it reads is of bulk at most 1048576: the law returns true, and each argument reads behind the call as it read before. No conditions. -/
import Derived.Test.YtejbmdnhchoilaaGreatP14
import Derived.Test.YtejbmdnhchoilaaGreatM21
import Derived.Test.YtejbmdnhchoilaaGreatRows
import Derived.ProofKit
import Derived.OpenShut
import Derived.ShutString
import Derived.ChangeOld
import Derived.Below
import Derived.Laws.IdiomArrays
import Derived.Lib.SmallJoins
import Derived.JoinedCond
namespace Go.Proofs.YtejbmdnhchoilaaGreat.gen1Keeps
open Go.ChangeShapes Go.WideShapes Go.ChangeAt Go.RowKit Go.Joins Go.Am Go.Am.Pt
set_option linter.unusedVariables false
set_option linter.unusedSimpArgs false
set_option maxRecDepth 100000
theorem own : ownKnob Tryz.prog.godebug = none := by kernel_rfl
theorem laidOut : laidOutB Tryz.prog = true := by kernel_rfl
theorem one_le {H : Type} (d : DataW H) : 1 ≤ Rows.uptoBulk d := by
  cases d with
  | lit l => cases l <;> simp [Rows.uptoBulk]
  | _ => simp [Rows.uptoBulk]
theorem part_le {H : Type} {d : DataW H} {l : List (DataW H)} (h : d ∈ l) : Rows.uptoBulk d ≤ Rows.uptoBulkAll l := by
  induction l with
  | nil => cases h
  | cons x r ih =>
    simp only [Rows.uptoBulkAll]
    cases List.mem_cons.1 h with
    | inl e => subst e; omega
    | inr e => have := ih e; omega
theorem length_le {H : Type} (l : List (DataW H)) : l.length ≤ Rows.uptoBulkAll l := by
  induction l with
  | nil => simp [Rows.uptoBulkAll]
  | cons x r ih => have := one_le x; simp only [Rows.uptoBulkAll, List.length_cons]; omega
theorem bulk {H : Type} : Bd.Bulk (H := H) Rows.uptoBulk where
  str l := by simp only [Rows.uptoBulk]; omega
  len a b := by have := length_le a; simp only [Rows.uptoBulk]; omega
  row a b d h := by have := part_le h; simp only [Rows.uptoBulk]; omega
  agg a d h := by have := part_le h; simp only [Rows.uptoBulk]; omega
theorem bulk_one {H : Type} {d : DataW H} (hk : Rows.uptoSmall H [d] = true) : Rows.uptoBulk d ≤ 1048576 := by
  have h := of_decide_eq_true hk
  simp only [Rows.uptoBulkAll] at h
  omega
section
variable {M : Nat}
theorem list2 {α : Type} {l : List α} (h : l.length = 2) : ∃ a b, l = [a, b] := by
  match l, h with
  | [a, b], _ => exact ⟨a, b, rfl⟩
theorem list3 {α : Type} {l : List α} (h : l.length = 3) : ∃ a b c, l = [a, b, c] := by
  match l, h with
  | [a, b, c], _ => exact ⟨a, b, c, rfl⟩
theorem list5 {α : Type} {l : List α} (h : l.length = 5) : ∃ a b c d e, l = [a, b, c, d, e] := by
  match l, h with
  | [a, b, c, d, e], _ => exact ⟨a, b, c, d, e, rfl⟩
theorem list8 {α : Type} {l : List α} (h : l.length = 8) : ∃ a b c d e f g i, l = [a, b, c, d, e, f, g, i] := by
  match l, h with
  | [a, b, c, d, e, f, g, i], _ => exact ⟨a, b, c, d, e, f, g, i, rfl⟩
theorem d_str {k : Nat} {cs : List AV} (h : Bd.Shp M Tryz.prog (k + 1) 9 cs) : ∃ s : ByteArray, s.size ≤ M ∧ cs = [.str s] := h.str Tryz.underlying9
theorem d_int {k : Nat} {cs : List AV} (h : Bd.Shp M Tryz.prog (k + 1) 3 cs) : ∃ n : Int, cs = [i64 n] := by
  obtain ⟨n, _, rfl⟩ := h.int Tryz.underlying3
  exact ⟨n, rfl⟩
theorem d_res {k : Nat} {cs : List AV} (h : Bd.Shp M Tryz.prog (k + 2) 40 cs) : ∃ r : Rs, cs = [i64 r.a, i64 r.b, i64 r.c] := by
  obtain ⟨ps, hl, rfl, hp⟩ : ∃ parts : List (List AV), parts.length = 3 ∧ cs = parts.flatten ∧ ∀ p ∈ parts, Bd.Shp M Tryz.prog (k + 1) 3 p := by simp only [Bd.Shp, Tryz.underlying40] at h; exact h
  obtain ⟨a, b, c, rfl⟩ := list3 hl
  obtain ⟨x, rfl⟩ := d_int (hp a (by simp))
  obtain ⟨y, rfl⟩ := d_int (hp b (by simp))
  obtain ⟨z, rfl⟩ := d_int (hp c (by simp))
  exact ⟨⟨x, y, z⟩, rfl⟩
theorem d_lbs {k : Nat} {cs : List AV} (h : Bd.Shp M Tryz.prog (k + 3) 41 cs) : ∃ l : List Lb, l.length ≤ M ∧ cs = [lbs l] := by
  obtain ⟨rows, hl, rfl, hr⟩ := h.slice Tryz.underlying41
  obtain ⟨l, hl2⟩ := choose_map (f := lb) (rows := rows.map (mkRow (isRowE Tryz.prog 65))) fun r hr' => by
    obtain ⟨q, hq, rfl⟩ := List.mem_map.1 hr'
    obtain ⟨ps, h1, rfl, h2⟩ := (hr q hq).struct Tryz.underlying65
    obtain ⟨a, b, rfl⟩ := list2 h1
    have g1 := h2 0 _ a rfl rfl
    obtain ⟨x, _, rfl⟩ := d_str g1
    have g2 := h2 1 _ b rfl rfl
    obtain ⟨y, _, rfl⟩ := d_str g2
    rw [show isRowE Tryz.prog 65 = true by kernel_rfl]
    exact ⟨(x, y), rfl⟩
  refine ⟨l, by rw [← List.length_map (f := lb), ← hl2, List.length_map]; exact hl, ?_⟩
  rw [hl2, show Tryz.prog.cellsOf 65 = 2 by kernel_rfl]
theorem d_op {cs : List AV} (h : Bd.Shp 1048576 Tryz.prog 6 49 cs) : ∃ o : Op', cs = opC o ∧ OpB o := by
  obtain ⟨ps, hl, rfl, hp⟩ := h.struct Tryz.underlying49
  obtain ⟨p0, p1, p2, p3, p4, rfl⟩ := list5 hl
  have g3 := hp 0 _ p0 rfl rfl
  obtain ⟨kd, rfl⟩ := d_int g3
  have g4 := hp 4 _ p4 rfl rfl
  obtain ⟨nm, b7, rfl⟩ := d_str g4
  have g18 := hp 1 _ p1 rfl rfl
  obtain ⟨ns, hl1, rfl, hn⟩ := Bd.Shp.struct Tryz.underlying43 g18
  obtain ⟨n0, n1, n2, rfl⟩ := list3 hl1
  have g5 := hn 0 _ n0 rfl rfl
  obtain ⟨a1, b1, rfl⟩ := d_str g5
  have g6 := hn 1 _ n1 rfl rfl
  obtain ⟨a2, rfl⟩ := d_res g6
  have g7 := hn 2 _ n2 rfl rfl
  obtain ⟨a3, b2, rfl⟩ := d_lbs g7
  have g19 := hp 2 _ p2 rfl rfl
  obtain ⟨qs, hl2, rfl, hq⟩ := Bd.Shp.struct Tryz.underlying45 g19
  obtain ⟨q0, q1, rfl⟩ := list2 hl2
  have g8 := hq 0 _ q0 rfl rfl
  obtain ⟨c1, e1, rfl⟩ := d_str g8
  have g9 := hq 1 _ q1 rfl rfl
  obtain ⟨c2, rfl⟩ := d_res g9
  have g20 := hp 3 _ p3 rfl rfl
  obtain ⟨ts, hl3, rfl, ht⟩ := Bd.Shp.struct Tryz.underlying47 g20
  obtain ⟨t0, t1, t2, t3, t4, t5, t6, t7, rfl⟩ := list8 hl3
  have g10 := ht 0 _ t0 rfl rfl
  obtain ⟨x0, f0, rfl⟩ := d_str g10
  have g11 := ht 1 _ t1 rfl rfl
  obtain ⟨x1, f1, rfl⟩ := d_str g11
  have g12 := ht 2 _ t2 rfl rfl
  obtain ⟨x2, rfl⟩ := d_int g12
  have g13 := ht 3 _ t3 rfl rfl
  obtain ⟨x3, rfl⟩ := d_res g13
  have g14 := ht 4 _ t4 rfl rfl
  obtain ⟨x4, f4, rfl⟩ := d_lbs g14
  have g15 := ht 5 _ t5 rfl rfl
  obtain ⟨x5, f5, rfl⟩ := d_str g15
  have g16 := ht 6 _ t6 rfl rfl
  obtain ⟨x6, f6, rfl⟩ := d_str g16
  have g17 := ht 7 _ t7 rfl rfl
  obtain ⟨x7, rfl⟩ := d_int g17
  exact ⟨⟨kd, ⟨a1, a2, a3⟩, ⟨c1, c2⟩, ⟨x0, x1, x2, x3, x4, x5, x6, x7⟩, nm⟩, rfl, ⟨b2, f4, b1, e1, f0, f1, f5, f6, b7⟩⟩
end
section
theorem d_ops {cs : List AV} (h : Bd.Shp 1048576 Tryz.prog 7 22 cs) : ∃ l : List Op', l.length ≤ 1048576 ∧ cs = [ops l] ∧ ∀ o ∈ l, OpB o := by
  obtain ⟨rows, hl, rfl, hr⟩ := h.slice Tryz.underlying22
  obtain ⟨l, hl2⟩ := choose_map (f := fun o : {o : Op' // OpB o} => opE o.1) (rows := rows.map (mkRow (isRowE Tryz.prog 49))) fun r hr' => by
    obtain ⟨q, hq, rfl⟩ := List.mem_map.1 hr'
    obtain ⟨o, rfl, hz⟩ := d_op (hr q hq)
    rw [show isRowE Tryz.prog 49 = true by kernel_rfl]
    exact ⟨⟨o, hz⟩, rfl⟩
  refine ⟨l.map (·.1), by rw [List.length_map, ← List.length_map (f := fun o : {o : Op' // OpB o} => opE o.1), ← hl2, List.length_map]; exact hl, ?_, fun o ho => ?_⟩
  · rw [hl2, show Tryz.prog.cellsOf 49 = 21 by kernel_rfl, ops, List.map_map]
    rfl
  · obtain ⟨x, _, rfl⟩ := List.mem_map.1 ho
    exact x.2
end
set_option maxRecDepth 100000 in
theorem contract (H : Type) (enc : TypeId × Value → H) (W : World) (base : Nat) (args : Array Value) (ds gs : List (DataW H)) (before : List MemPlace)
    (hval0 : ∀ (j : Nat) t v, Tryz.f6.params[j]? = some t → args[j]? = some v → Value.okWide Tryz.prog W .any base t v)
    (hW : DataW.Whole enc Tryz.prog Tryz.f6.params.toList Rows.gen1KeepsSpec.vars false W args.toList ds gs before) (hk : Rows.uptoSmall H (ds ++ gs) = true) :
    Calls Tryz.prog 6 args W fun e W' => ∃ v, e = .returned v ∧ Rows.gen1KeepsSpec.post enc Tryz.prog Tryz.f6 false true false false W args v W' := by
  have hval : ∀ (j : Nat) t v, Tryz.f6.params[j]? = some t → args[j]? = some v → Value.okWide Tryz.prog W .any base t v := hval0
  have hW' := hW
  obtain ⟨p, q, hA0, hV, rfl, hfz, hnd⟩ := hW
  have hA : DataW.TrodAll enc Tryz.prog W 0 (fun _ => true) true Tryz.f6.params.toList args.toList ds p := hA0
  rw [Tryz.params6] at hA hval
  obtain ⟨v0, vs0, d0, ds0, p0, q0, hargs, rfl, rfl, h0, r0⟩ := trodAll_cons hA
  obtain ⟨rfl, rfl, rfl⟩ := trodAll_nil r0
  obtain rfl : args = #[v0] := by cases args; simp_all
  obtain ⟨rfl, rfl⟩ := trodVars_none hV
  have hM0 := bulk_one (by simpa using hk)
  have k0 := h0
  have lt0 : ∀ x ∈ p0, x.block < W.heap.size := by obtain ⟨m, hm⟩ := k0; exact DataW.trod_lt m _ _ _ hm
  obtain ⟨cs0, sh0, vr0, bel0⟩ := Bd.open_arg bulk 7 (by kernel_rfl) (hval 0 22 v0 rfl rfl) h0 hM0
  obtain ⟨l0, hl0, rfl, hz0⟩ := d_ops sh0
  rw [show isRowE Tryz.prog 22 = false by kernel_rfl] at vr0 bel0
  clear hA0 hval0
  refine (law_call (w := W) (lawKeeps_ok l0 (by omega) hz0) rfl ?_).mono fun e W' ⟨he, bel'⟩ => ?_
  · intro φ i a x h1 h2
    match i with
    | 0 => simp at h1 h2; subst h1 h2; exact vr0 φ
    | i + 1 => simp at h1
  subst he
  exact ⟨_, rfl, _, _, _, [], _, [], hW', trodAll_mk1 (shut_bool Tryz.underlying4 _), (trodAll_cons_mk (Below.trod laidOut (by kernel_rfl) (of_decide_eq_true (by kernel_rfl)) k0 bel' lt0) trodAll_mk0), rfl, bel'.frame _, fun h => by cases h⟩
set_option maxRecDepth 100000 in
theorem lifted (os : Os) (started : os.Started) (H : Type) (enc : TypeId × Value → H) (F : Stop.Interp) :
    ReturnsInHanded {} Tryz.checked os 6 .any ((Rows.OpenSpec.upto Rows.gen1KeepsSpec).pre6 enc Tryz.prog Tryz.f6 Rows.gen1KeepsUptoRow.domain false) (((Rows.OpenSpec.upto Rows.gen1KeepsSpec).at F).post enc Tryz.prog Tryz.f6 false true false false) := by
  refine returnsInHanded_of_cond (C := Tryz.checked) (s := Rows.OpenSpec.upto Rows.gen1KeepsSpec) (k := Rows.uptoSmall) rfl own started (by kernel_rfl) Tryz.func6
    (OpenSpec.witness (enc := enc) (C := Tryz.checked) (s := Rows.OpenSpec.upto Rows.gen1KeepsSpec) (k := Rows.uptoSmall) rfl false
      ⟨#[], #[.slice none 0 0], []⟩ 8 (by kernel_rfl) (by kernel_rfl) (by kernel_rfl)
      (x := ([.nil], [], [])) (by kernel_rfl) rfl (by kernel_rfl)) ?_
  intro W base args ds gs before hval hW _ hk _
  exact contract H enc W base args ds gs before hval hW hk
theorem over : Rows.gen1KeepsUptoRow.holds Tryz.pinned (Rows.OpenSpec.upto Rows.gen1KeepsSpec) :=
  OpenClaim.holds_of_cond 6 Tryz.f6 rfl rfl rfl rfl rfl rfl rfl ⟨rfl, rfl, rfl, rfl, rfl⟩ rfl rfl rfl rfl rfl (by kernel_rfl) Tryz.func6 (by kernel_rfl)
    (of_decide_eq_true (by kernel_rfl)) (by unfold Func.isWrapper; first | (rw [if_pos (by decide +kernel)]; kernel_rfl) | (rw [if_neg (by decide +kernel)]; exact ⟨rfl, rfl⟩))
    (fun os started H enc _ F => lifted os started H enc F)
end Go.Proofs.YtejbmdnhchoilaaGreat.gen1Keeps
theorem Go.Proofs.YtejbmdnhchoilaaGreat.gen1Keeps_holds : Go.Proofs.YtejbmdnhchoilaaGreat.Rows.Gen1KeepsUptoSaid := Go.Proofs.YtejbmdnhchoilaaGreat.gen1Keeps.over
