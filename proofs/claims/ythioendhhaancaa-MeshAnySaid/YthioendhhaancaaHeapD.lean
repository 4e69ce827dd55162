/- A heap of things as a list: what its functions compute. No Go program is named here; no conditions. -/
import Derived.Test.YthioendhhaancaaAm26
set_option linter.unusedVariables false
set_option linter.unusedSimpArgs false
namespace Go.Am.Heap
structure It (α : Type) where
  x : α
  seq : Int
section
variable {α : Type} (lt : α → α → Bool)
def bef (a b : It α) : Bool := if lt a.x b.x = true then true else if lt b.x a.x = true then false else decide (a.seq < b.seq)
def befI (l : List (It α)) (i k : Nat) : Bool :=
  match l[i]?, l[k]? with
  | some a, some b => bef lt a b
  | _, _ => false
def swapL (l : List (It α)) (i k : Nat) : List (It α) :=
  match l[i]?, l[k]? with
  | some a, some b => (l.set i b).set k a
  | _, _ => l
def upF : Nat → List (It α) → Nat → List (It α)
  | 0, l, _ => l
  | n + 1, l, i => if 0 < i ∧ befI lt l i ((i - 1) / 2) = true then upF n (swapL l i ((i - 1) / 2)) ((i - 1) / 2) else l
def leastF (n : Nat) (l : List (It α)) (i : Nat) : Nat :=
  let a := if 2 * i + 1 < n ∧ befI lt l (2 * i + 1) i = true then 2 * i + 1 else i
  if 2 * i + 2 < n ∧ befI lt l (2 * i + 2) a = true then 2 * i + 2 else a
def downF (n : Nat) : Nat → List (It α) → Nat → List (It α)
  | 0, l, _ => l
  | f + 1, l, i => if leastF lt n l i = i then l else downF n f (swapL l i (leastF lt n l i)) (leastF lt n l i)
@[simp] theorem swapL_len (l : List (It α)) (i k : Nat) : (swapL l i k).length = l.length := by
  unfold swapL; split <;> simp
@[simp] theorem upF_len : ∀ (n : Nat) (l : List (It α)) (i : Nat), (upF lt n l i).length = l.length
  | 0, _, _ => rfl
  | n + 1, l, i => by simp only [upF]; split <;> simp [upF_len n]
@[simp] theorem downF_len (n : Nat) : ∀ (f : Nat) (l : List (It α)) (i : Nat), (downF lt n f l i).length = l.length
  | 0, _, _ => rfl
  | f + 1, l, i => by simp only [downF]; split <;> simp [downF_len n f]
theorem befI_of {l : List (It α)} {i k : Nat} {a b : It α} (h : l[i]? = some a) (h2 : l[k]? = some b) : befI lt l i k = bef lt a b := by simp only [befI, h, h2]
theorem swapL_of {l : List (It α)} {i k : Nat} {a b : It α} (h : l[i]? = some a) (h2 : l[k]? = some b) : swapL l i k = (l.set i b).set k a := by simp only [swapL, h, h2]
/-- What is left behind where the thing at a place is taken out. -/
def delAt (z : It α) (n : Nat) (its : List (It α)) (i : Nat) : List (It α) := its.take i ++ ((its.drop (i + 1)).take (n - (i + 1)) ++ [z] ++ its.drop n)
theorem delAt_len {z : It α} {n : Nat} {its : List (It α)} {i : Nat} (hi : i < n) (hn : n ≤ its.length) : (delAt z n its i).length = its.length := by simp [delAt]; omega
def popL (z : It α) (n : Nat) (l : List (It α)) : List (It α) := downF lt (n - 1) (n - 1) (delAt z n (swapL l 0 (n - 1)) (n - 1)) 0
theorem popL_len {z : It α} {n : Nat} {l : List (It α)} (h0 : 0 < n) (hn : n ≤ l.length) : (popL lt z n l).length = l.length := by
  rw [popL, downF_len, delAt_len (by omega) (by simpa using hn), swapL_len]
/-- What comes out, one thing after the other. -/
def sortF (z : It α) : Nat → List (It α) → List α
  | 0, _ => []
  | n + 1, l => match l[0]? with
    | some a => a.x :: sortF z n (popL lt z (n + 1) l)
    | none => []
end
end Go.Am.Heap
