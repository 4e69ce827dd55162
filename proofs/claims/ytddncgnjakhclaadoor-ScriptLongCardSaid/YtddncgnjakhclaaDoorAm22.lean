/- Rules for what is evaluated: what holds of more, loops by a measure. No Go program is named here; no conditions. -/
import Derived.Test.YtddncgnjakhclaaDoorAm21
set_option linter.unusedVariables false
set_option linter.unusedSimpArgs false
namespace Go.Am
open Go
section
variable {P : Program} {n0 : Nat}

theorem rcsC_mono {e : Ev} {H : AHeap} {k k' : Prop} (hk : k → k') : ∀ {l : List (AOp × Nat)}, rcsC e H k l → rcsC e H k' l
  | [], hh => hk hh
  | (op, d) :: l, hh => by
    obtain ⟨a, b⟩ := (rcOneC_eq ..).1 hh
    exact (rcOneC_eq ..).2 ⟨a, rcsC_mono hk b⟩
theorem belLC_mono {e : Ev} {H : AHeap} {k k' : Prop} (hk : k → k') : ∀ {l : List AX}, belLC e H k l → belLC e H k' l
  | [], hh => hk hh
  | x :: l, hh => by
    simp only [belLC, evC_eq] at hh ⊢
    exact ⟨hh.1, belLC_mono hk hh.2⟩
theorem stepC_mono {o : AOper} {e : Ev} {H : AHeap} {k k' : Ev → AHeap → Prop} (hk : ∀ e H, k e H → k' e H) (hh : stepC P o k e H) : stepC P o k' e H := by
  unfold stepC at *
  have inner : (arunC P o.op e H fun v H' => lenK o.bel H H' (rcsC e H' (putOC e o.dst v fun e' => k e' H') o.rc)) → arunC P o.op e H fun v H' => lenK o.bel H H' (rcsC e H' (putOC e o.dst v fun e' => k' e' H') o.rc) := fun hh => by
    rw [arunC_eq] at hh ⊢
    refine arun_mono hh fun v H' hv => ?_
    have go : rcsC e H' (putOC e o.dst v fun e' => k e' H') o.rc → rcsC e H' (putOC e o.dst v fun e' => k' e' H') o.rc := rcsC_mono fun hp => by
      rw [putOC_eq] at hp ⊢
      exact hk _ _ hp
    cases hb : o.bel
    · rw [hb] at hv; exact go hv
    · rw [hb] at hv; exact ⟨hv.1, go hv.2⟩
  cases hb : o.bel
  · rw [hb] at hh inner; exact inner hh
  · rw [hb] at hh inner; exact belLC_mono inner hh
theorem runC_mono : ∀ {os : List AOper} {e : Ev} {H : AHeap} {k k' : Ev → AHeap → Prop}, (∀ e H, k e H → k' e H) → runC P os k e H → runC P os k' e H
  | [], _, _, _, _, hk, hh => hk _ _ hh
  | _ :: _, _, _, _, _, hk, hh => stepC_mono (fun _ _ h => runC_mono hk h) hh
theorem skipC_mono : ∀ {os : List AOper} {e : Ev} {k k' : Ev → Prop}, (∀ e, k e → k' e) → skipC os e k → skipC os e k'
  | [], _, _, _, hk, hh => hk _ hh
  | o :: os, _, _, _, hk, hh => by
    simp only [skipC, putOC_eq] at hh ⊢
    exact skipC_mono hk hh
theorem awpGC_mono : ∀ {l : List GOp} {e : Ev} {H : AHeap} {k k' : Ev → AHeap → Prop}, (∀ e H, k e H → k' e H) → awpGC P l k e H → awpGC P l k' e H
  | [], _, _, _, _, hk, hh => hk _ _ hh
  | .op o :: l, e, H, k, k', hk, hh => by
    have hA : stepC P o (awpGC P l k) e H → stepC P o (awpGC P l k') e H := stepC_mono fun _ _ h => awpGC_mono hk h
    have hB : (putOC e o.dst (.tuple []) fun e' => awpGC P l k e' H) → (putOC e o.dst (.tuple []) fun e' => awpGC P l k' e' H) := fun hh => by
      rw [putOC_eq] at hh ⊢
      exact awpGC_mono hk hh
    simp only [awpGC, guardC'] at hh ⊢
    cases hg : o.guard with
    | none => rw [hg] at hh; exact hA hh
    | some g =>
      obtain ⟨t, want⟩ := g
      rw [hg] at hh
      simp only [getC_eq] at hh ⊢
      exact guard_mono hh hA hB
  | .grp t want os :: l, e, H, k, k', hk, hh => by
    simp only [awpGC, getC_eq] at hh ⊢
    exact guard_mono hh (runC_mono fun _ _ h => awpGC_mono hk h) (skipC_mono fun _ h => awpGC_mono hk h)

theorem thn_mono {next next' : Ev → AHeap → Prop} {Q Q' : AExit → Ev → AHeap → Prop} (hn : ∀ e H, next e H → next' e H) (hq : ∀ x e H, Q x e H → Q' x e H) : ∀ x e H, AExit.thn next Q x e H → AExit.thn next' Q' x e H := fun x e H h => by
  cases x with
  | normal => exact hn _ _ h
  | exit i => exact hq _ _ _ h
  | ret => exact hq _ _ _ h
theorem aloop_mono {step : (AExit → Ev → AHeap → Prop) → Ev → AHeap → Prop} (hs : ∀ Q Q' e H, (∀ x e H, Q x e H → Q' x e H) → step Q e H → step Q' e H) {Q Q' : AExit → Ev → AHeap → Prop} (hq : ∀ x e H, Q x e H → Q' x e H) :
    ∀ (n : Nat) (e : Ev) (H : AHeap), aloop step Q n e H → aloop step Q' n e H
  | 0, _, _, h => h
  | n + 1, e, H, h => hs _ _ _ _ (thn_mono (aloop_mono hs hq n) hq) h
theorem awpC_mono : ∀ (c : ACode) {e : Ev} {H : AHeap} {Q Q' : AExit → Ev → AHeap → Prop}, (∀ x e H, Q x e H → Q' x e H) → awpC P n0 c Q e H → awpC P n0 c Q' e H := by
  intro c
  induction c with
  | skip => intro e H Q Q' hq h; exact hq _ _ _ h
  | ops d l => intro e H Q Q' hq h; exact awpGC_mono (fun e H => hq .normal e H) h
  | seq a b iha ihb => intro e H Q Q' hq h; exact iha (thn_mono (fun e H h => ihb hq h) hq) h
  | cond c a b iha ihb =>
    intro e H Q Q' hq h
    simp only [awpC, condC, evC_eq, CondP] at h ⊢
    split at h
    · rename_i b _
      cases b
      · exact ihb hq h
      · exact iha hq h
    · exact h.elim
  | block id b ih =>
    intro e H Q Q' hq h
    refine ih (fun x e H h => ?_) h
    cases x with
    | normal => exact hq _ _ _ h
    | ret => exact hq _ _ _ h
    | exit i =>
      simp only [AExit.inBlock] at h ⊢
      split
      · rename_i hi; rw [if_pos hi] at h; exact hq _ _ _ h
      · rename_i hi; rw [if_neg hi] at h; exact hq _ _ _ h
  | loop b ih =>
    intro e H Q Q' hq h
    obtain ⟨⟨n, h⟩⟩ := h
    exact ⟨⟨n, aloop_mono (step := awpC P n0 b) (fun Q Q' e H hq h => ih hq h) hq n e H h⟩⟩
  | exit id => intro e H Q Q' hq h; exact hq _ _ _ h
  | ret => intro e H Q Q' hq h; exact hq _ _ _ h
  | clear l =>
    intro e H Q Q' hq h
    simp only [awpC, keepC_eq] at h ⊢
    exact hq _ _ _ h
  | gc l =>
    intro e H Q Q' hq h
    simp only [awpC, keepC_eq] at h ⊢
    obtain ⟨e2, H2, g, h⟩ := h
    exact ⟨e2, H2, g, hq _ _ _ h⟩
  | bad => intro e H Q Q' hq h; exact h

theorem aloop_more {body : ACode} {Q : AExit → Ev → AHeap → Prop} : ∀ (n : Nat) (e : Ev) (H : AHeap), aloop (awpC P n0 body) Q n e H → aloop (awpC P n0 body) Q (n + 1) e H
  | 0, _, _, h => h.elim
  | n + 1, e, H, h => awpC_mono body (thn_mono (aloop_more n) fun _ _ _ h => h) h
theorem aloop_le {body : ACode} {Q : AExit → Ev → AHeap → Prop} {n m : Nat} (h : n ≤ m) {e : Ev} {H : AHeap} (ha : aloop (awpC P n0 body) Q n e H) : aloop (awpC P n0 body) Q m e H := by
  induction h with
  | refl => exact ha
  | step _ ih => exact aloop_more _ _ _ ih
/-- A loop by a measure that falls; ahead of each round memory is put in order. -/
theorem LoopP_rule {h : List Nat} {b : ACode} {Q : AExit → Ev → AHeap → Prop} (I : Nat → Ev → AHeap → Prop)
    (step : ∀ n e H, I n e H → awpC P n0 b (AExit.thn (fun e' H' => keepC e' h fun e1 => keepC e1 h fun e2 => GcP n0 H' e2 fun e3 H3 => ∃ m, m < n ∧ I m e3 H3) Q) e H) {e : Ev} {H : AHeap} (hi : keepC e h fun e1 => GcP n0 H e1 fun e2 H2 => ∃ n, I n e2 H2) :
    Stop (LoopP P (awpC P n0 (.seq (.gc h) (.seq b (.clear h)))) Q e H) := by
  rw [keepC_eq] at hi
  obtain ⟨e2, H2, hg, n, hi⟩ := hi
  refine ⟨⟨n + 1, ?_⟩⟩
  induction n using Nat.strongRecOn generalizing e H e2 H2 with
  | ind n ih =>
    show keepC e h fun e1 => GcP n0 H e1 fun e2 H2 => awpC P n0 b (AExit.thn (awpC P n0 (.clear h) (AExit.thn (aloop (awpC P n0 (.seq (.gc h) (.seq b (.clear h)))) Q n) Q)) (AExit.thn (aloop (awpC P n0 (.seq (.gc h) (.seq b (.clear h)))) Q n) Q)) e2 H2
    rw [keepC_eq]
    refine ⟨e2, H2, hg, ?_⟩
    refine awpC_mono b ?_ (step n e2 H2 hi)
    intro x e' H' hx
    cases x with
    | ret => exact hx
    | exit i => exact hx
    | normal =>
      simp only [AExit.thn, keepC_eq] at hx
      obtain ⟨e3, H3, hg3, m, hm, hi3⟩ := hx
      show keepC e' h fun e1 => aloop (awpC P n0 (.seq (.gc h) (.seq b (.clear h)))) Q n e1 H'
      rw [keepC_eq]
      exact aloop_le hm (ih m hm e3 H3 hg3 hi3)
end
end Go.Am
