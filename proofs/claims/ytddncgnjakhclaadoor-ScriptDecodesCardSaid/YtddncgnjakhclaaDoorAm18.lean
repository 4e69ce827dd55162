/- The run of the machine's operations in the order that is taken, laid open moment by moment. No Go program is named here; no conditions. -/
import Derived.Test.YtddncgnjakhclaaDoorAm17
set_option linter.unusedVariables false
set_option linter.unusedSimpArgs false
namespace Go.Am
open Go
section
variable {P : Program}

def gOn (g : Option (Nat × Bool)) (st : List AV) : Option Bool :=
  match g with
  | none => some true
  | some (t, want) => match st.getD t .undef with
    | .bool b => some (b == want)
    | .tuple [] => some false
    | _ => none
theorem gOn_of {g : Option (Nat × Bool)} {st : List AV} {A B : Prop} (h : aGuard g st A B) : ∃ b, gOn g st = some b ∧ (b = true → A) ∧ (b = false → B) := by
  unfold aGuard at h
  split at h
  · exact ⟨true, rfl, fun _ => h, fun h => (by cases h)⟩
  · rename_i t want
    unfold GuardK at h
    unfold gOn
    simp only
    split at h
    · rename_i b hb
      rw [hb]
      cases b <;> cases want <;> simp only at h <;> first | exact ⟨true, rfl, fun _ => h, fun h => (by cases h)⟩ | exact ⟨false, rfl, fun h => (by cases h), fun _ => h⟩
    · rename_i hb
      rw [hb]
      exact ⟨false, rfl, fun h => (by cases h), fun _ => h⟩
    · exact h.elim
theorem aGuard_of {g : Option (Nat × Bool)} {st : List AV} {b : Bool} (h : gOn g st = some b) : aGuard g st (b = true) (b = false) := by
  unfold gOn at h
  unfold aGuard
  split at h
  · cases h; rfl
  · rename_i t want
    simp only
    unfold GuardK
    split at h
    · rename_i c hc
      rw [hc]
      cases h
      cases c <;> cases want <;> rfl
    · rename_i hc
      rw [hc]
      cases h; rfl
    · cases h

/-- One moment of the run. -/
structure Mom (P : Program) (o : AOper) (st : List AV) (H : AHeap) (v : AV) (b : Bool) (st' : List AV) (H' : AHeap) : Prop where
  put : st' = put st o.dst v
  on : gOn o.guard st = some b
  off : b = false → v = .tuple [] ∧ H' = H
  run : b = true → arun P o.op (AX.ev st) H fun v' H'' => v' = v ∧ H'' = H'
  bel : b = true → o.bel = true → (∀ x ∈ o.op.args, Bel H.length (x.ev st)) ∧ H.length ≤ H'.length
  rc : b = true → ∀ e ∈ o.rc, rcOne e.1 (AX.ev st) (st.getD e.2 .undef) H'

theorem belK_all {b : Bool} {op : AOp} {ρ : AX → AV} {H : AHeap} {k : Prop} (h : belK b op ρ H k) : b = true → ∀ x ∈ op.args, Bel H.length (ρ x) := by
  intro e; subst e; exact (belL_k h).1

/-- The run, moment by moment. -/
theorem trace {K : List AV → AHeap → Prop} : ∀ {al : List AOper} {st : List AV} {H : AHeap}, (∀ o ∈ al, aTag o.op ≠ 1) → awpOps P al K st H →
    ∃ (sts : Nat → List AV) (hs : Nat → AHeap) (vs : Nat → AV) (run : Nat → Bool), sts 0 = st ∧ hs 0 = H ∧ K (sts al.length) (hs al.length) ∧
      ∀ p o, al[p]? = some o → Mom P o (sts p) (hs p) (vs p) (run p) (sts (p + 1)) (hs (p + 1))
  | [], st, H, _, h => ⟨fun _ => st, fun _ => H, fun _ => .undef, fun _ => false, rfl, rfl, h, fun p o h => by simp at h⟩
  | o :: al, st, H, hnd, h => by
    simp only [awpOps] at h
    obtain ⟨b, hb, h1, h2⟩ := gOn_of h
    have ext : ∀ (v : AV) (H' : AHeap), awpOps P al K (put st o.dst v) H' → Mom P o st H v b (put st o.dst v) H' →
        ∃ (sts : Nat → List AV) (hs : Nat → AHeap) (vs : Nat → AV) (run : Nat → Bool), sts 0 = st ∧ hs 0 = H ∧ K (sts (o :: al).length) (hs (o :: al).length) ∧
          ∀ p q, (o :: al)[p]? = some q → Mom P q (sts p) (hs p) (vs p) (run p) (sts (p + 1)) (hs (p + 1)) := by
      intro v H' hr hm
      obtain ⟨sts, hs, vs, run, e1, e2, e3, e4⟩ := trace (fun o ho => hnd o (List.mem_cons_of_mem _ ho)) hr
      refine ⟨fun p => Nat.casesOn p st sts, fun p => Nat.casesOn p H hs, fun p => Nat.casesOn p v vs, fun p => Nat.casesOn p b run, rfl, rfl, e3, fun p q hq => ?_⟩
      cases p with
      | zero =>
        simp at hq; subst hq
        show Mom P o st H v b (sts 0) (hs 0)
        rw [e1, e2]; exact hm
      | succ p => exact e4 p q (by simpa using hq)
    cases b with
    | false =>
      exact ext (.tuple []) H (h2 rfl) ⟨rfl, hb, fun _ => ⟨rfl, rfl⟩, fun h => (by cases h), fun h => (by cases h), fun h => (by cases h)⟩
    | true =>
      have h1 := h1 rfl
      unfold aStep at h1
      have hbel := belK_all h1
      obtain ⟨v, H', hk, ha⟩ := arun_ex (hnd o (by simp)) (belK_k h1)
      have hr := lenK_k hk
      refine ext v H' (rcsK_k hr) ⟨rfl, hb, fun h => by (cases h), fun _ => ha, fun _ hb => ⟨hbel hb, ?_⟩, fun _ => (rcsK_all hr).1⟩
      rw [hb] at hk
      exact hk.1

/-- What a temporary holds when of the operations in their order only some are done. -/
noncomputable def cur (dst : Nat → Option Nat) (vs : Nat → AV) (ln : Nat) (base : AV) (L : Nat → Prop) (t : Nat) : Nat → AV
  | 0 => base
  | m + 1 => open Classical in if L m ∧ dst m = some t ∧ t < ln then vs m else cur dst vs ln base L t m

variable {dst : Nat → Option Nat} {vs : Nat → AV} {ln : Nat} {base : AV} {L L' : Nat → Prop} {t : Nat}
theorem cur_congr : ∀ {m : Nat}, (∀ p, p < m → dst p = some t → (L p ↔ L' p)) → cur dst vs ln base L t m = cur dst vs ln base L' t m
  | 0, _ => rfl
  | m + 1, h => by
    simp only [cur]
    rw [cur_congr (m := m) fun p hp => h p (by omega)]
    by_cases hd : dst m = some t
    · have := h m (by omega) hd
      by_cases hl : L m ∧ dst m = some t ∧ t < ln
      · rw [if_pos hl, if_pos ⟨this.1 hl.1, hl.2⟩]
      · rw [if_neg hl, if_neg fun h => hl ⟨this.2 h.1, h.2⟩]
    · rw [if_neg (fun h => hd h.2.1), if_neg (fun h => hd h.2.1)]
theorem cur_none {m : Nat} : ∀ (d : Nat), (∀ p, m ≤ p → p < m + d → L p → dst p ≠ some t) → cur dst vs ln base L t (m + d) = cur dst vs ln base L t m
  | 0, _ => rfl
  | d + 1, h => by
    rw [← Nat.add_assoc]
    simp only [cur]
    rw [if_neg (fun hc => h (m + d) (by omega) (by omega) hc.1 hc.2.1)]
    exact cur_none d fun p h1 h2 => h p h1 (by omega)
theorem cur_skip {m n : Nat} (hmn : m ≤ n) (h : ∀ p, m ≤ p → p < n → L p → dst p ≠ some t) : cur dst vs ln base L t n = cur dst vs ln base L t m := by
  have := cur_none (dst := dst) (vs := vs) (ln := ln) (base := base) (L := L) (t := t) (m := m) (n - m) fun p h1 h2 => h p h1 (by omega)
  rwa [show m + (n - m) = n by omega] at this

theorem put_length (st : List AV) (d : Option Nat) (v : AV) : (put st d v).length = st.length := by cases d <;> simp [put]
theorem getD_put_eq (st : List AV) (d : Option Nat) (v : AV) (t : Nat) : (put st d v).getD t .undef = if d = some t ∧ t < st.length then v else st.getD t .undef := by
  cases d with
  | none => simp [put]
  | some d =>
    simp only [put, getD_set, Option.some.injEq]
    by_cases h : d = t
    · subst h; rfl
    · rw [if_neg (fun hc => h hc.1), if_neg (fun hc => h hc.1)]

theorem cur_sts {sts : Nat → List AV} {n : Nat} (hp : ∀ p, p < n → sts (p + 1) = put (sts p) (dst p) (vs p)) (t : Nat) : ∀ {q : Nat}, q ≤ n → (sts q).length = (sts 0).length ∧ (sts q).getD t .undef = cur dst vs (sts 0).length ((sts 0).getD t .undef) (fun _ => True) t q
  | 0, _ => ⟨rfl, rfl⟩
  | q + 1, hq => by
    obtain ⟨i1, i2⟩ := cur_sts hp t (q := q) (by omega)
    rw [hp q (by omega)]
    refine ⟨by rw [put_length, i1], ?_⟩
    rw [getD_put_eq, i1, i2]
    simp only [cur, true_and]

/-- An operation whose foregoers are done finds its operands. -/
theorem cur_ready {sts : Nat → List AV} {n : Nat} (hp : ∀ p, p < n → sts (p + 1) = put (sts p) (dst p) (vs p)) {q : Nat} (hq : q ≤ n) (h : ∀ p, p < n → dst p = some t → (L p ↔ p < q)) :
    cur dst vs (sts 0).length ((sts 0).getD t .undef) L t n = (sts q).getD t .undef := by
  rw [cur_congr (L' := fun p => p < q) h, cur_skip hq (fun p h1 h2 h3 => by omega), cur_congr (L' := fun _ => True) (fun p h _ => ⟨fun _ => trivial, fun _ => h⟩)]
  exact (cur_sts hp t hq).2.symm

theorem cur_add {n q : Nat} (hq : q < n) (h : ∀ p, q < p → p < n → dst p = some t → dst q = some t → ¬ L p) : open Classical in cur dst vs ln base (fun p => L p ∨ p = q) t n = if dst q = some t ∧ t < ln then vs q else cur dst vs ln base L t n := by
  by_cases hd : dst q = some t
  · by_cases ht : t < ln
    · rw [if_pos ⟨hd, ht⟩, cur_skip (m := q + 1) (by omega) (fun p h1 h2 h3 h4 => by
        rcases h3 with h3 | h3
        · exact h p (by omega) h2 h4 hd h3
        · omega)]
      simp only [cur]
      rw [if_pos ⟨.inr rfl, hd, ht⟩]
    · rw [if_neg (fun h => ht h.2)]
      have z : ∀ L m, cur dst vs ln base L t m = base := fun L m => by
        induction m with
        | zero => rfl
        | succ m ih => simp only [cur]; rw [if_neg (fun h => ht h.2.2), ih]
      rw [z, z]
  · rw [if_neg (fun h => hd h.1)]
    refine cur_congr fun p _ hp => ⟨fun h => h.resolve_right fun e => hd (e ▸ hp), .inl⟩
end
end Go.Am
