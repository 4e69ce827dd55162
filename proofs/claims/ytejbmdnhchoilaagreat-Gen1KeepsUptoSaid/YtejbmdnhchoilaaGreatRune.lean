/- What IndexRune and its like answer, from the shelf. No conditions. -/
import Derived.Test.YtejbmdnhchoilaaGreatShelf
import Derived.WalkKit
import Derived.Lib.OthersKept
import Derived.Lib.RuneBytes
import Derived.Laws.Runes
import Derived.Deep.RegionWith
import Derived.IntWalk
import Derived.NoCompiler
namespace Go.Proofs
open Go.Shelf Go.RowKit Go.Lib
namespace YtejbmdnhchoilaaGreatR
def Up (w w' : World) : Prop := Below w.heap.size w w' ∧ w.drawn ≤ w'.drawn
theorem Up.refl (w : World) : Up w w := ⟨Below.refl _ _, Nat.le_refl _⟩
theorem Up.trans {a b c : World} (h : Up a b) (k : Up b c) : Up a c := ⟨h.1.trans (k.1.mono h.1.size), Nat.le_trans h.2 k.2⟩
theorem Up.drew {a b : World} (h : Up a b) : Up a b.drew := ⟨h.1.drew, Nat.le_succ_of_le h.2⟩
set_option maxHeartbeats 2000000 in
set_option maxRecDepth 1000000 in
theorem indexRune_err (s : ByteArray) (ha : ∀ i (h : i < s.size), (s[i]'h).toNat < 128) (w : World) :
    Calls Tryz.prog 180 #[.string s, .int .i32 65533] w fun e w' => e = .returned (.int .i64 (-1)) ∧ Up w w' := by
  go_enter Tryz.func180, Tryz.ntmps180
  go_wp2
  go_loopg [] s.size (fun gf wx => ∃ pos : Nat, wx.heap[w.heap.size]? = some (.stringIter s pos) ∧ Up w wx ∧ s.size ≤ pos + gf)
  case atStart => exact ⟨0, World.iter_heap w s 0, ⟨(Below.refl _ w).alloc (Nat.le_refl _) _, Nat.le_refl _⟩, by omega⟩
  case round =>
    obtain ⟨pos, hit, hbw, hfu⟩ := hrel
    by_cases hps : pos < s.size
    · obtain ⟨g', rfl⟩ : ∃ g', gk = g' + 1 := ⟨gk - 1, by omega⟩
      have hnx : ∀ ty, (Instr.next (.pointer (some ⟨w.heap.size, 0, none⟩)) true ty).run Tryz.prog wr = _ := fun ty => Lib.run_next_ascii_at wr w.heap.size s pos ty hit hps (ha pos hps)
      have hlt := ha pos hps
      generalize (s[pos]'hps).toNat = c at hnx hlt
      have hit2 := Lib.iterAt_heap wr w.heap.size s pos (pos + 1) hit
      have hbw2 : Up w (wr.iterAt w.heap.size s (pos + 1)) := ⟨Lib.below_iterAt hbw.1 (k := w.heap.size) (Nat.le_refl _) s (pos + 1), hbw.2⟩
      obtain ⟨W, hWd⟩ : ∃ W, wr.iterAt w.heap.size s (pos + 1) = W := ⟨_, rfl⟩
      rw [hWd] at hnx hit2 hbw2
      have hne : ¬ ((c : Int) = 65533) := by omega
      go_wp2
      go_roundg g'
      case measure => omega
      case rel => exact ⟨pos + 1, hit2, hbw2, by omega⟩
    · have hnx : ∀ ty, (Instr.next (.pointer (some ⟨w.heap.size, 0, none⟩)) true ty).run Tryz.prog wr = _ := fun ty => Lib.run_next_end_at wr w.heap.size s pos ty hit hps
      go_wp2
      go_ret
      exact ⟨rfl, hbw⟩
set_option maxHeartbeats 2000000 in
set_option maxRecDepth 1000000 in
theorem indexRune_bad (s : ByteArray) (r : Int) (h0 : 128 ≤ r) (h1 : r ≤ 1114111) (hr : r ≠ 65533) (hv : Lib.validRune r = false) (w : World) :
    Calls Tryz.prog 180 #[.string s, .int .i32 r] w fun e w' => e = .returned (.int .i64 (-1)) ∧ w' = w := by
  have h2 : ¬ r < 128 := by omega
  have h3 : (0 : Int) ≤ r := by omega
  go_enter Tryz.func180, Tryz.ntmps180
  go_wp2_with (go_at_call 198; refine (Tryz.utf8_ValidRune r _).mono ?_; rintro e w' ⟨rfl, hw⟩; rw [hv]; subst hw)
  go_ret
  exact ⟨rfl, rfl⟩
theorem validRune_valid {r : Int} (h : Lib.validRune r = true) : Utf8.valid r = true := by
  revert h
  unfold Lib.validRune Utf8.valid
  simp
  omega
theorem nf_go (l : List UInt8) (c : UInt8) (ha : ∀ x ∈ l, x.toNat < 128) (hc : 128 ≤ c.toNat) : Lib.indexByte l c = -1 := by
  induction l with
  | nil => rfl
  | cons b l ih =>
    have hb := ha b (by simp)
    have hne : (b == c) = false := by
      rw [beq_eq_false_iff_ne]; rintro rfl; omega
    simp only [Lib.indexByte, hne, Bool.false_eq_true, if_false, ih (fun x hx => ha x (by simp [hx])), beq_self_eq_true, if_true]
set_option maxHeartbeats 2000000 in
set_option maxRecDepth 1000000 in
theorem indexRune_more (s : ByteArray) (ha : ∀ i (h : i < s.size), (s[i]'h).toNat < 128) (hs : s.size ≤ 100) (r : Int) (h0 : 128 ≤ r) (h1 : r ≤ 1114111) (hr : r ≠ 65533) (hv : Lib.validRune r = true) (w : World) :
    Calls Tryz.prog 180 #[.string s, .int .i32 r] w fun e w' => e = .returned (.int .i64 (-1)) ∧ Up w w' := by
  have h2 : ¬ r < 128 := by omega
  have h3 : (0 : Int) ≤ r := by omega
  obtain ⟨e1, e2, e3⟩ := encode_facts r (validRune_valid hv) h0
  have hcv := run_convert_int_string (P := Tryz.prog) (src := 21) (dst := 9) (k := .i32) (n := r) (hs := by kernel_rfl) (hd := Tryz.underlying9)
  generalize Utf8.encode r = rs at e1 e2 e3 hcv
  go_enter Tryz.func180, Tryz.ntmps180
  go_wp2_with (go_at_call 198; refine (Tryz.utf8_ValidRune r _).mono ?_; rintro e w' ⟨rfl, hw⟩; rw [hv]; subst hw)
  go_step3
  go_wp2
  refine wp_loop_rounds 1 ?_
  rw [rounds_succ]
  obtain ⟨k, hk⟩ : ∃ k : Nat, rs.size = k + 1 := ⟨rs.size - 1, by omega⟩
  have hk2 : (rs.size : Int) - 1 = (k : Int) := by omega
  have e3' : 128 ≤ (rs[k]'(by omega)).toNat := by
    have := e3 (by omega)
    simpa only [hk, Nat.add_sub_cancel] using this
  by_cases hi : k < s.size
  · have hc : ((k : Int) < (s.size : Int)) := by omega
    have hlt := ha k hi
    simp only [hk2]
    go_wp2
    go_step3
    go_wp2
    have hk3 : ((k : Int) < (k : Int) + 1) := by omega
    have hne : ¬ (((s[k]'hi).toNat : Int) = ((rs[k]'(by omega)).toNat : Int)) := by omega
    have hne2 : ((((s[k]'hi).toNat : Int) == ((rs[k]'(by omega)).toNat : Int)) = false) := by simp; omega
    have hk4 : (k + 1 : Nat) ≤ s.size := by omega
    have hk5 : ((k : Int) + 1 ≤ (s.size : Int)) := by omega
    have hwr : IntKind.i64.wrap ((k : Int) + 1) = (k : Int) + 1 := by rw [IntWalk.i64_in _ (by omega)]
    have hk11 : 0 ≤ (k : Int) + 1 ∧ (k : Int) + 1 ≤ (s.size : Int) := by omega
    have hk6 : (0 : Int) ≤ (k : Int) + 1 := by omega
    have hk7 : ((k : Int) + 1).toNat = k + 1 := by omega
    have hk8 : (0 : Int) ≤ (s.size : Int) := by omega
    have hk9 : ¬ ((s.size : Int) < (k : Int) + 1) := by omega
    have hk10 : ¬ ((k : Int) + 1 < 0) := by omega
    have nf : ∀ X, Lib.indexByte (s.extract (k + 1) X).data.toList ((((rs[k]'(by omega)).toNat : Int)).toNat.toUInt8) = -1 := fun X => by
      refine nf_go _ _ (fun x hx => ?_) (by simp; omega)
      have hm : x ∈ s.data.toList := by
        rw [ByteArray.data_extract, Array.toList_extract] at hx
        exact List.mem_of_mem_drop (List.mem_of_mem_take hx)
      obtain ⟨i, hi2, rfl⟩ := List.getElem_of_mem hm
      exact ha i hi2
    go_region
    go_wp2
    go_region_with (go_at_call 197; refine (Tryz.strings_IndexByte _ _ _).mono ?_; rintro e w'' ⟨rfl, hw⟩; rw [hw, nf])
    go_wp2
    rw [Exit.noGoto_ret]
    go_wp2
    try rw [Exit.noGoto_ret]
    go_wp2
    try rw [Exit.noGoto_ret]
    go_wp2
    go_ret
    exact ⟨rfl, by repeat (first | exact Up.refl _ | apply Up.drew)⟩
  · have hc : ¬ ((k : Int) < (s.size : Int)) := by omega
    simp only [hk2]
    go_wp2
    go_ret
    exact ⟨rfl, Up.refl _⟩
set_option maxHeartbeats 2000000 in
set_option maxRecDepth 1000000 in
theorem indexFunc_up (g : Nat) (eg : ∀ args w, (callFunc g args).run Tryz.prog w = .ok (.enter g args) w) (p : Nat → Bool) (s : ByteArray) (w : World) (hp : ∀ (W : World) (x : Nat), x ≤ 1114111 → Calls Tryz.prog g (#[.int .i32 (x : Int)] ++ #[]) W fun e w' => e = .returned (.bool (p x)) ∧ Up W w') :
    Calls Tryz.prog 179 #[.string s, .func (.func g) #[] #[], .bool true] w fun e w' => e = .returned (.int .i64 (Lib.idxFunc p true s)) ∧ Up w w' := by
  go_enter Tryz.func179, Tryz.ntmps179
  go_wp2
  go_loopg [] s.size (fun gf wx => ∃ pos : Nat, wx.heap[w.heap.size]? = some (.stringIter s pos) ∧ Up w wx ∧ Lib.idxFuncFrom p true s gf pos = Lib.idxFunc p true s ∧ s.size ≤ pos + gf)
  case atStart => exact ⟨0, World.iter_heap w s 0, ⟨(Below.refl _ w).alloc (Nat.le_refl _) _, Nat.le_refl _⟩, rfl, by omega⟩
  case round =>
    obtain ⟨pos, hit, hup, hleft, hfu⟩ := hrel
    by_cases hps : pos < s.size
    · obtain ⟨g', rfl⟩ : ∃ g', gk = g' + 1 := ⟨gk - 1, by omega⟩
      have hnx : ∀ ty, (Instr.next (.pointer (some ⟨w.heap.size, 0, none⟩)) true ty).run Tryz.prog wr = _ := fun ty => Lib.run_next_any_at wr w.heap.size s pos ty hit hps
      have hwd := Lib.width_pos s pos
      have hle := Lib.rune_le s pos
      obtain ⟨R, hR⟩ : ∃ R, (Utf8.decode s pos).1 = R := ⟨_, rfl⟩
      obtain ⟨K, hK⟩ : ∃ K, (Utf8.decode s pos).2 = K := ⟨_, rfl⟩
      simp only [Lib.idxFuncFrom, hps, if_true, hR, hK] at hleft
      rw [hR, hK] at hnx
      rw [hK] at hwd
      rw [hR] at hle
      have hit2 := Lib.iterAt_heap wr w.heap.size s pos (pos + K) hit
      have hup2 : Up w (wr.iterAt w.heap.size s (pos + K)) := ⟨Lib.below_iterAt hup.1 (k := w.heap.size) (Nat.le_refl _) s (pos + K), hup.2⟩
      obtain ⟨W, hWd⟩ : ∃ W, wr.iterAt w.heap.size s (pos + K) = W := ⟨_, rfl⟩
      rw [hWd] at hnx hit2 hup2
      have hltW : w.heap.size < W.heap.size := (Array.getElem?_eq_some_iff.1 hit2).1
      have cS := hp W R hle
      clear hp
      cases hsp : p R <;> rw [hsp] at cS <;> simp only [hsp, if_true, Bool.false_eq_true, if_false] at hleft
      · go_wp2_with (go_at_fn g; refine cS.mono ?_; rintro e W' ⟨rfl, hbc⟩)
        go_roundg g'
        case measure => omega
        case rel => exact ⟨pos + K, (hbc.1.block _ hltW).trans hit2, hup2.trans hbc, hleft, by omega⟩
      · go_wp2_with (go_at_fn g; refine cS.mono ?_; rintro e W' ⟨rfl, hbc⟩)
        go_ret
        exact ⟨by rw [← hleft] <;> rfl, hup2.trans hbc⟩
    · have hnx : ∀ ty, (Instr.next (.pointer (some ⟨w.heap.size, 0, none⟩)) true ty).run Tryz.prog wr = _ := fun ty => Lib.run_next_end_at wr w.heap.size s pos ty hit hps
      rw [Lib.idxFuncFrom_end p true s gk pos hps] at hleft
      go_wp2
      go_ret
      exact ⟨by rw [← hleft] <;> rfl, hup⟩
end YtejbmdnhchoilaaGreatR
end Go.Proofs
