/- Labels and amounts, walked. No conditions. -/
import Derived.Test.YtddncgnjakhclaaDoorScL
set_option linter.unusedVariables false
set_option linter.unusedSimpArgs false
set_option maxRecDepth 100000
open Go Go.Am Go.Proofs
namespace Go.Am.Scr
def gpu : Lb := (⟨#[103, 112, 117]⟩, ⟨#[97]⟩)
def zone : Lb := (⟨#[122, 111, 110, 101]⟩, ⟨#[97]⟩)
def lab1 (n : Nat) : List Lb := if n % 2 = 1 then [gpu] else []
def lab2 (n : Nat) : List Lb := if n / 2 % 2 = 1 then [zone] else []
def labF (n : Nat) : List Lb := lab1 n ++ lab2 n
def labK (k n : Nat) : List Lb :=
  match k with
  | 0 => []
  | 1 => lab1 n
  | _ => labF n
abbrev LE (n k : Nat) (l : List Lb) : Ev := [(0, .int .i64 n), (3, .slc 0 0 l.length none), (6, .lst 1 [.str ⟨#[103, 112, 117]⟩, .str ⟨#[122, 111, 110, 101]⟩] none), (7, .int .i64 2), (8, .int .i64 k)]
abbrev LH (l : List Lb) : AHeap := [some (.rows 87 2 (l.map lb))]
theorem labels_ok (n : Nat) (hn : n < 256) : AC PR 42 [.int .i64 n] [] (lbs (labF n)) [] := by
  apply A42
  conv => whnf
  refine loop_to 2 (fun k e H => e = LE n k (labK k n) ∧ H = LH (labK k n)) ?_ ?_
  · rintro k e H hk ⟨rfl, rfl⟩
    obtain rfl | rfl | rfl : k = 0 ∨ k = 1 ∨ k = 2 := by omega
    · have h1 := and1 n hn
      conv => whnf
      have e0 : (n : Int).fdiv (2 ^ min (((0 : Nat) : Int)).toNat IntKind.i64.bits) = n := by simp
      rw [e0]
      generalize IntKind.i64.wrap ((BitVec.ofInt IntKind.i64.bits (n : Int) &&& BitVec.ofInt IntKind.i64.bits 1).toNat : Int) = m at h1
      subst h1
      refine cond_b (fun h => ?_) (fun h => ?_)
      · have e1 : labK 1 n = [gpu] := if_pos (by have := of_decide_eq_true h; omega)
        conv => whnf
        refine app_map (f := lb) (l := labK 0 n) (new := [gpu]) rfl rfl (Nat.le_refl _) (by simp [roomBound, labK]) (fun _ => forceS_any ?_) (fun h => absurd h (Nat.lt_irrefl _))
        conv => whnf
        refine w_as ((1 : Nat) : Int) (by omega) (by omega) ?_
        conv => whnf
        have e2 : (labK 0 n).length + [gpu].length = (labK 1 n).length := by rw [e1]; rfl
        have e3 : labK 0 n ++ [gpu] = labK 1 n := e1.symm
        rw [e2, e3]
        exact at_head [some 2] (LH (labK 1 n)) (LE n 1 (labK 1 n)) ⟨by omega, rfl, rfl⟩
      · have e1 : labK 1 n = [] := if_neg (by have := of_decide_eq_false h; omega)
        conv => whnf
        refine w_as ((1 : Nat) : Int) (by omega) (by omega) ?_
        conv => whnf
        rw [show labK 0 n = labK 1 n from e1.symm]
        exact at_head [some 0] (LH (labK 1 n)) (LE n 1 (labK 1 n)) ⟨by omega, rfl, rfl⟩
    · have h1 := and1 (n / 2) (by omega)
      conv => whnf
      have e0 : (n : Int).fdiv (2 ^ min (((1 : Nat) : Int)).toNat IntKind.i64.bits) = ((n / 2 : Nat) : Int) := by
        rw [show min (((1 : Nat) : Int)).toNat IntKind.i64.bits = 1 from rfl]
        rw [Int.fdiv_eq_ediv_of_nonneg _ (by omega)]; simp
      rw [e0]
      generalize IntKind.i64.wrap ((BitVec.ofInt IntKind.i64.bits ((n / 2 : Nat) : Int) &&& BitVec.ofInt IntKind.i64.bits 1).toNat : Int) = m at h1
      subst h1
      refine cond_b (fun h => ?_) (fun h => ?_)
      · have e1 : labK 2 n = labK 1 n ++ [zone] := by
          show lab1 n ++ lab2 n = lab1 n ++ [zone]
          rw [lab2, if_pos (by have := of_decide_eq_true h; omega)]
        have hl : (labK 1 n).length ≤ 1 := by show (lab1 n).length ≤ 1; unfold lab1; split <;> simp
        conv => whnf
        refine app_map (f := lb) (l := labK 1 n) (new := [zone]) rfl rfl (Nat.le_refl _) (by simp [roomBound]; omega) (fun _ => forceS_any ?_) (fun h => absurd h (Nat.lt_irrefl _))
        conv => whnf
        refine w_as ((2 : Nat) : Int) (by omega) (by omega) ?_
        conv => whnf
        have e2 : (labK 1 n).length + [zone].length = (labK 2 n).length := by rw [e1]; simp
        rw [e2, ← e1]
        refine at_head [some 2] (LH (labK 2 n)) (LE n 2 (labK 2 n)) ⟨by omega, rfl, rfl⟩
      · have e1 : labK 2 n = labK 1 n := by
          show lab1 n ++ lab2 n = lab1 n
          rw [lab2, if_neg (by have := of_decide_eq_false h; omega)]; simp
        conv => whnf
        refine w_as ((2 : Nat) : Int) (by omega) (by omega) ?_
        conv => whnf
        rw [← e1]
        exact at_head [some 0] (LH (labK 2 n)) (LE n 2 (labK 2 n)) ⟨by omega, rfl, rfl⟩
    · conv => whnf
      exact at_end []
  · conv => whnf
    exact at_head [none] (LH (labK 0 n)) (LE n 0 (labK 0 n)) ⟨rfl, rfl⟩
end Go.Am.Scr
