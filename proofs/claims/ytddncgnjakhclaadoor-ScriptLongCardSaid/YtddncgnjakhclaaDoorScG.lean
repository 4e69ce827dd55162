/- ScriptLong, walked. No conditions. -/
import Derived.Test.YtddncgnjakhclaaDoorScF
set_option linter.unusedVariables false
set_option linter.unusedSimpArgs false
set_option maxRecDepth 100000
open Go Go.Am Go.Proofs
namespace Go.Am.Scr
open Go.Am.Pt
theorem long_ok (b : ByteArray) (c : UInt8) : AC PR 4 [.str b, .int .u8 c.toNat] [] (.bool true) [] := by
  have hc := c.toNat_lt
  apply A4
  conv => whnf
  refine call_closed (awake_ok) ?_
  conv => whnf
  generalize hq1 : decide (5000 < (b.size : Int)) = q1
  cases q1 <;> conv => whnf
  case true =>
    refine call_closed (awake_ok) ?_
    conv => whnf
    exact at_end []
  generalize hq2 : decide ((b.size : Int) = 0) = q2
  cases q2 <;> conv => whnf
  case true =>
    refine call_closed (awake_ok) ?_
    conv => whnf
    exact at_end []
  have hb : b.size ≤ 5000 := by have := of_decide_eq_false hq1; omega
  have hb0 : 0 < b.size := by have := of_decide_eq_false hq2; omega
  refine loop_dn (fun k e H => ∃ s : ByteArray, k = 4096 - s.size ∧ s.size < 4096 + 5000 ∧ e = [(0, .str b), (1, .int .u8 c.toNat), (5, .str s)] ∧ H = []) ?_ ?_
  · rintro k e H ⟨s, rfl, hs, rfl, rfl⟩
    conv => whnf
    generalize hq : decide ((s.size : Int) < 4096) = q
    cases q <;> conv => whnf
    case true =>
      have := of_decide_eq_true hq
      have hsz2 : (s ++ b).size = s.size + b.size := ByteArray.size_append ..
      refine cat_ok (c := s ++ b) (by omega) rfl ?_
      conv => whnf
      exact at_head [] [] [(0, .str b), (1, .int .u8 c.toNat), (5, .str (s ++ b))] ⟨_, by omega, s ++ b, rfl, by omega, rfl, rfl⟩
    have hs2 : 4096 ≤ s.size := by have := of_decide_eq_false hq; omega
    have ht : (s.extract 0 4096).size = 4096 := by rw [ByteArray.size_extract]; omega
    refine k_eq (v := .str (s.extract 0 4096)) (by simp [aSliceStr, aBounds, AV.natOf]; omega) ?_
    conv => whnf
    refine k_eq (v := .str (s.extract 0 4096)) (by simp [aSliceStr, aBounds, AV.natOf]; omega) ?_
    generalize s.extract 0 4096 = t at ht
    conv => whnf
    refine ⟨by simp, ?_⟩
    conv => whnf
    have htz : t.data.toList.length = t.size := rfl
    refine p_some (r := .slc 0 0 t.data.toList.length none) (H' := [some (.rows 5 1 (t.data.toList.map bv))]) (by simp [aS2b, roomBound, aFresh, byteRows]; omega) ?_
    conv => whnf
    repeat (first | (refine ⟨by simp, ?_⟩; conv => whnf))
    refine call_fz [some 0] [none] (args := [.lst 1 (t.data.toList.map bv) none]) ?_
    refine call_closed (decode_ok t.data.toList (by omega)) ?_
    conv => whnf
    repeat (first | (refine ⟨by simp, ?_⟩; conv => whnf))
    refine k_eq (b2s_lit (ns := [c]) rfl) ?_
    have hcz : (⟨[c].toArray⟩ : ByteArray).size = 1 := rfl
    have hcd : (⟨[c].toArray⟩ : ByteArray).data.toList = [c] := rfl
    generalize (⟨[c].toArray⟩ : ByteArray) = cc at hcz hcd
    conv => whnf
    have hz2 : (t ++ cc).size = t.size + cc.size := ByteArray.size_append ..
    have hz3 : ((t ++ cc) ++ b).size = (t ++ cc).size + b.size := ByteArray.size_append ..
    refine cat_ok (c := t ++ cc) (by omega) rfl ?_
    conv => whnf
    refine cat_ok (c := (t ++ cc) ++ b) (by omega) rfl ?_
    have hd : ((t ++ cc) ++ b).data.toList.take 4096 = t.data.toList.take 4096 := by
      simp only [ByteArray.data_append, Array.toList_append, List.append_assoc]
      rw [List.take_append_of_le_length (by omega)]
    generalize (t ++ cc) ++ b = u at hz3 hd
    have huz : u.data.toList.length = u.size := rfl
    conv => whnf
    repeat (first | (refine ⟨by simp, ?_⟩; conv => whnf))
    refine p_some (r := .slc 2 0 u.data.toList.length none) (H' := [none, some (.rows 5 1 [.int .u8 c.toNat]), some (.rows 5 1 (u.data.toList.map bv))]) (by simp [aS2b, roomBound, aFresh, byteRows]; omega) ?_
    conv => whnf
    repeat (first | (refine ⟨by simp, ?_⟩; conv => whnf))
    refine call_fz [some 0, some 1, some 2] [none, some (.rows 5 1 [.int .u8 c.toNat]), none] (args := [.lst 1 (u.data.toList.map bv) none]) ?_
    have d := decode_ok u.data.toList (by omega)
    rw [hd] at d
    refine call_closed (d) ?_
    conv => whnf
    generalize hD : decF ⟨t.data.toList.take 4096, false⟩ = l
    have hq1 : ∀ s ∈ l, s.o.node.labels.length ≤ 2 ∧ s.o.task.wants.length ≤ 2 := by
      rw [← hD]
      exact dec_all _ (fun k r _ _ => stF_len k r) _ _
    have hl : l.length ≤ 4096 := by
      rw [← hD]
      refine Nat.le_trans (dec_len _ _) ?_
      simp only [List.length_take]; omega
    repeat (first | (refine ⟨by simp, ?_⟩; conv => whnf))
    refine cond_nb (fun h => ?_) (fun h => ?_)
    · simp at h
    conv => whnf
    have hm : (l.map spR).length = l.length := List.length_map ..
    refine loop_to l.length (fun k e H => e = [(6, .lst 25 (l.map spR) none), (7, .lst 25 (l.map spR) none), (49, i64 (l.map spR).length), (50, i64 k)] ∧ H = []) ?_ ?_
    · rintro k e H hk ⟨rfl, rfl⟩
      conv => whnf
      generalize hq : decide ((k : Int) < ((l.map spR).length : Int)) = q
      cases q
      case false =>
        conv => whnf
        exact at_end []
      have hk2 : k < l.length := by have := of_decide_eq_true hq; omega
      have hga := List.getElem?_eq_getElem hk2
      generalize l[k] = x at hga
      have ⟨ha, hb'⟩ := hq1 x (List.mem_of_getElem? hga)
      have c1 := same_ok x (by omega) (by omega)
      conv => whnf
      repeat (first
    | (refine And.intro rfl ?_; conv => whnf)
    | (refine k_idx ?_ _ rfl (by omega) (by omega); conv => whnf)
    | (refine e_idx ?_ _ rfl (by omega) (by omega); conv => whnf)
    | (refine k_row (get_map (by assumption)) ?_; conv => whnf)
    | (refine k_cell (get_map (by assumption)) ?_; conv => whnf)
    | (refine e_row (get_map (by assumption)) rfl ?_; conv => whnf)
    | (refine k_el (get_map (by assumption)) (by omega) ?_; conv => whnf)
    | (refine k_some (get_map (by assumption)) ?_; conv => whnf)
    | (refine f_set _ rfl ?_; conv => whnf)
    | (refine w_i64 (by omega) ?_; conv => whnf))
      refine call_closed c1 ?_
      conv => whnf
      refine w_as ((k + 1 : Nat) : Int) (by omega) (by omega) ?_
      conv => whnf
      exact at_head [] [] _ ⟨by omega, rfl, rfl⟩
    · conv => whnf
      exact at_head [] [] _ ⟨rfl, rfl⟩
  · conv => whnf
    exact at_head [] [] _ ⟨_, b, rfl, by omega, rfl, rfl⟩
end Go.Am.Scr
