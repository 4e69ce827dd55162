/- A statement whose order Go leaves open, walked once, in the order of the text: each of its operations comes to one value in every world that meets a condition S, and S holds behind it. No Go program is named here; no conditions. -/
import Derived.WalkKit
import Derived.Orders
namespace Go.Lw
open Go

/-- What an operation's run comes to, said of its value. -/
def uponV (P : Program) (next : Value → World → Prop) : Result Next → Prop
  | .ok (.value v) w' => next v w'
  | .ok .skip w' => next undef w'
  | .ok (.enter f args) w' => Calls P f args w' fun e w'' => match e with
    | .returned v => next v w''
    | _ => False
  | .ok (.row row args) w' => Rows P row args w' next
  | _ => False
section
variable {P : Program} {ops : Array Oper} {S : World → Prop} {md : Region.Mode} {K : Act → Prop}
theorem uponV_value (next : Value → World → Prop) (v : Value) (w : World) : uponV P next (.ok (.value v) w) = next v w := rfl
theorem uponV_skip (next : Value → World → Prop) (w : World) : uponV P next (.ok .skip w) = next undef w := rfl
theorem uponV_enter (next : Value → World → Prop) (f : FuncId) (args : Array Value) (w : World) : uponV P next (.ok (.enter f args) w) = Calls P f args w fun e w'' => match e with
    | .returned v => next v w''
    | _ => False := rfl

def YieldS (P : Program) (ops : Array Oper) (S : World → Prop) (o : Oper) (v : Value) (a : Act) : Prop :=
  (Region.wanted o (yielded ops a.tmps) = true ∧ ∀ w, S w → uponV P (fun v' w' => v' = v ∧ S w') ((execOp a.eval o).run P w)) ∨
  (Region.wanted o (yielded ops a.tmps) = false ∧ v = undef)

theorem YieldS.of_same {o : Oper} {v : Value} {a a' : Act} (hy : YieldS P ops S o v a) (he : execOp a'.eval o = execOp a.eval o)
    (hw : Region.wanted o (yielded ops a'.tmps) = Region.wanted o (yielded ops a.tmps)) : YieldS P ops S o v a' := by
  unfold YieldS at *
  rw [he, hw]
  exact hy

def DetS (P : Program) (md : Region.Mode) (ops : Array Oper) (S : World → Prop) (K : Act → Prop) : Nat → Array Bool → Act → Prop
  | 0, listed, a => Region.ready md ops listed = [] ∧ K a
  | fuel + 1, listed, a => (Region.ready md ops listed = [] → K a) ∧
    ∀ i ∈ Region.ready md ops listed, ∃ o v, ops[i]? = some o ∧ YieldS P ops S o v a ∧ DetS P md ops S K fuel (listed.setIfInBounds i true) (a.put o.dst v)

theorem wpAny_of_det {Q : Exit → Act → World → Prop} (hK : ∀ a, K a → ∀ w, S w → Q .normal a w) : ∀ (fuel : Nat) (listed : Array Bool) (a : Act), DetS P md ops S K fuel listed a → ∀ w, S w → wpAny P md ops Q fuel listed a w
  | 0, _, _, h, w, hS => ⟨h.1, hK _ h.2 w hS⟩
  | fuel + 1, listed, a, h, w, hS => ⟨fun h0 => hK _ (h.1 h0) w hS, fun i hi => by
      obtain ⟨o, v, ho, hy, hd⟩ := h.2 i hi
      unfold wpOp
      simp only [ho]
      rcases hy with ⟨hw, hy⟩ | ⟨hw, rfl⟩
      · rw [if_pos hw]
        refine .inl ?_
        have h1 := hy w hS
        unfold Oper.wp
        generalize (execOp a.eval o).run P w = r at h1
        cases r with
        | ok n w' =>
          cases n with
          | value v' => obtain ⟨rfl, hS'⟩ := h1; exact wpAny_of_det hK fuel _ _ hd _ hS'
          | skip => obtain ⟨rfl, hS'⟩ := h1; exact wpAny_of_det hK fuel _ _ hd _ hS'
          | enter f args =>
            refine Calls.mono h1 fun e w'' he => ?_
            cases e with
            | returned u => obtain ⟨rfl, hS'⟩ := he; exact wpAny_of_det hK fuel _ _ hd _ hS'
            | panicked c => exact he.elim
            | outgrown => exact he.elim
          | row row args => exact Rows.mono h1 fun u w'' he => by obtain ⟨rfl, hS'⟩ := he; exact wpAny_of_det hK fuel _ _ hd _ hS'
          | _ => exact h1.elim
        | halt x w' => exact h1.elim
      · rw [if_neg (by simp [hw])]
        exact wpAny_of_det hK fuel _ _ hd _ hS⟩

theorem det_first {i : Nat} {oi : Oper} {v : Value} (hi : ops[i]? = some oi) (hsel : ∀ (j : Nat) (o : Oper) cs b, ops[j]? = some o → o.op ≠ .select cs b) :
    ∀ (fuel : Nat) (listed : Array Bool) (a : Act),
      (∀ j oj, ops[j]? = some oj → j ≠ i → listed.getD j true = false → (∀ e ∈ oj.after, Region.binds md e = true → e.on ≠ i) → oi.apart ops oj = true) →
      i ∈ Region.ready md ops listed → YieldS P ops S oi v a →
      DetS P md ops S K fuel (listed.setIfInBounds i true) (a.put oi.dst v) → DetS P md ops S K (fuel + 1) listed a := by
  intro fuel
  induction fuel with
  | zero =>
    intro listed a _ hr hy H
    refine ⟨fun h => (by rw [h] at hr; cases hr), fun j hj => ?_⟩
    by_cases hji : j = i
    · subst hji; exact ⟨oi, v, hi, hy, H⟩
    · have := ready_mono hj hji
      rw [H.1] at this
      cases this
  | succ fuel ih =>
    intro listed a hfree hr hy H
    refine ⟨fun h => (by rw [h] at hr; cases hr), fun j hj => ?_⟩
    by_cases hji : j = i
    · subst hji; exact ⟨oi, v, hi, hy, H⟩
    · obtain ⟨oj, u, hoj, hyj, Hj⟩ := H.2 j (ready_mono hj hji)
      obtain ⟨hjun, oj', hoj', hall⟩ := mem_ready.1 hj
      obtain rfl : oj' = oj := by rw [hoj] at hoj'; exact (Option.some.inj hoj').symm
      have hnot : ∀ e ∈ oj'.after, Region.binds md e = true → e.on ≠ i := fun e he hb heq => by
        have h1 := hall e he hb
        have h0 := (mem_ready.1 hr).1
        rw [heq] at h1
        rcases Nat.lt_or_ge i listed.size with h' | h'
        · simp [h'] at h0 h1; rw [h0] at h1; cases h1
        · simp [Array.getElem?_eq_none h'] at h1
      have hap := hfree j oj' hoj hji hjun hnot
      obtain ⟨h1, h2, h3⟩ := Oper.apart_spec hap
      have hsi := fun cs b => hsel i oi cs b hi
      have hsj := fun cs b => hsel j oj' cs b hoj
      have hyj' : YieldS P ops S oj' u a := hyj.of_same (execOp_put oj' hsj a oi.dst v h1).symm (wanted_put oj' a oi.dst v h1).symm
      have hfree' : ∀ k ok, ops[k]? = some ok → k ≠ i → (listed.setIfInBounds j true).getD k true = false →
          (∀ e ∈ ok.after, Region.binds md e = true → e.on ≠ i) → oi.apart ops ok = true := fun k ok hk hki hun hno => by
        refine hfree k ok hk hki ?_ hno
        by_cases hjk : j = k
        · subst hjk; exact hjun
        · rw [getD_set_ne true hjk] at hun; exact hun
      refine ⟨oj', u, hoj, hyj', ih (listed.setIfInBounds j true) (a.put oj'.dst u) hfree' (ready_mono hr (Ne.symm hji))
        (hy.of_same (execOp_put oi hsi a oj'.dst u h3) (wanted_put oi a oj'.dst u h3)) ?_⟩
      rw [Array.setIfInBounds_comm _ _ hji, ← Act.put_comm a v u h2]
      exact Hj

/-- The operations in the order of the text. -/
def runS (P : Program) (ops : Array Oper) (S : World → Prop) (K : Act → Prop) : List Oper → Act → Prop
  | [], a => K a
  | o :: rest, a => ∃ v, YieldS P ops S o v a ∧ runS P ops S K rest (a.put o.dst v)

def listedTo (ops : Array Oper) : Nat → Array Bool
  | 0 => Array.replicate ops.size false
  | k + 1 => (listedTo ops k).setIfInBounds k true

def textOk (md : Region.Mode) (ops : Array Oper) : Bool :=
  Region.noSelect ops && ((List.range ops.size).all fun k => Region.free md ops (listedTo ops k) k && (Region.ready md ops (listedTo ops k)).contains k) && (Region.ready md ops (listedTo ops ops.size)).isEmpty

theorem det_of_run (hc : textOk md ops = true) : ∀ (m k : Nat) (a : Act), k + m = ops.size → runS P ops S K (ops.toList.drop k) a → DetS P md ops S K m (listedTo ops k) a := by
  unfold textOk at hc
  simp only [Bool.and_eq_true, List.all_eq_true, List.mem_range, List.isEmpty_iff] at hc
  obtain ⟨⟨hs, hk⟩, he⟩ := hc
  intro m
  induction m with
  | zero =>
    intro k a hkm h
    rw [List.drop_of_length_le (by simp; omega)] at h
    obtain rfl : k = ops.size := by omega
    exact ⟨he, h⟩
  | succ m ih =>
    intro k a hkm h
    have hlt : k < ops.size := by omega
    rw [List.drop_eq_getElem_cons (by simpa using hlt)] at h
    obtain ⟨v, hy, h⟩ := h
    obtain ⟨h1, h2⟩ := hk k hlt
    have ho : ops[k]? = some ops[k] := Array.getElem?_eq_getElem hlt
    exact det_first ho (Region.noSelect_spec hs) m (listedTo ops k) a (Region.free_spec ho h1) (by simpa using h2) hy (ih (k + 1) _ (by omega) h)

theorem wp_region_S {Q : Exit → Act → World → Prop} {id : Nat} {l : List Oper} {a : Act} {w : World} (S : World → Prop) (hm : P.follows .mixedOrders = true) (hc : textOk .any l.toArray = true)
    (hS : S w.drew) (h : runS P l.toArray S (fun a' => ∀ w', S w' → Q .normal a' w') l a) : (Code.region id l.toArray true).wp P Q a w :=
  wp_region_any hm (wpAny_of_det (fun _ hK => hK) _ _ _ (det_of_run (K := fun a' => ∀ w', S w' → Q .normal a' w') hc l.toArray.size 0 a (by omega) (by simpa using h)) w.drew hS)

theorem wp_region_B {Q : Exit → Act → World → Prop} {id : Nat} {l : List Oper} {a : Act} {w : World} (hm : P.follows .mixedOrders = true) (hc : textOk .any l.toArray = true)
    (h : runS P l.toArray (RowKit.Below w.heap.size w) (fun a' => ∀ w', RowKit.Below w.heap.size w w' → Q .normal a' w') l a) : (Code.region id l.toArray true).wp P Q a w :=
  wp_region_S _ hm hc (RowKit.Below.refl _ _).drew h
theorem cells_B {W w1 : World} {n : Nat} (hb : RowKit.Below n W w1) : (∀ b o, b < n → w1.cell? ⟨b, o, none⟩ = W.cell? ⟨b, o, none⟩) ∧ (∀ b o, b < n → w1.frozen? ⟨b, o, none⟩ = W.frozen? ⟨b, o, none⟩) :=
  ⟨fun b o h => hb.cell (p := ⟨b, o, none⟩) h, fun b o h => hb.frozen (p := ⟨b, o, none⟩) h⟩
theorem bel_call {W w1 w2 : World} (h : RowKit.Below W.heap.size W w1) (h2 : RowKit.Below w1.heap.size w1 w2) : RowKit.Below W.heap.size W w2 := h.trans (h2.mono h.size)

theorem runS_nil {a : Act} (h : K a) : runS P ops S K [] a := h
theorem runS_cons {o : Oper} {rest : List Oper} {a : Act} {v : Value} (hw : Region.wanted o (yielded ops a.tmps) = true)
    (hy : ∀ w, S w → ∀ K' : Value → World → Prop, (∀ w', S w' → K' v w') → uponV P K' ((execOp a.eval o).run P w)) (h : runS P ops S K rest (a.put o.dst v)) : runS P ops S K (o :: rest) a := ⟨v, .inl ⟨hw, fun w hS => hy w hS _ fun _ hS' => ⟨rfl, hS'⟩⟩, h⟩
theorem runS_skip {o : Oper} {rest : List Oper} {a : Act} (hw : Region.wanted o (yielded ops a.tmps) = false)
    (h : runS P ops S K rest (a.put o.dst undef)) : runS P ops S K (o :: rest) a := ⟨undef, .inr ⟨hw, rfl⟩, h⟩
end
end Go.Lw
