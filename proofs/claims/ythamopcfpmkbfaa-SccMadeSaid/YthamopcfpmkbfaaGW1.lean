/- All that is come to from a node, in plain words. No condition. -/
import Derived.Test.YthamopcfpmkbfaaGT4
namespace Go.Proofs.Ythamopcfpmkbfaa
def pushF : List Nat → List Bool × List Nat → List Bool × List Nat
  | [], p => p
  | y :: ys, p => pushF ys (if p.1.getD y false = true then p else (p.1.set y true, p.2 ++ [y]))
theorem pushF_snoc (y : Nat) : ∀ (ys : List Nat) (p : List Bool × List Nat), pushF (ys ++ [y]) p = if (pushF ys p).1.getD y false = true then pushF ys p else ((pushF ys p).1.set y true, (pushF ys p).2 ++ [y])
  | [], p => by simp [pushF]
  | z :: ys, p => by simp only [List.cons_append, pushF]; exact pushF_snoc y ys _
theorem pushF_len : ∀ (ys : List Nat) (p : List Bool × List Nat), (pushF ys p).1.length = p.1.length
  | [], p => rfl
  | y :: ys, p => by rw [pushF, pushF_len ys]; split <;> simp
theorem pushF_had : ∀ (ys : List Nat) (p : List Bool × List Nat) (z : Nat), (∀ y ∈ ys, y < p.1.length) → ((pushF ys p).1.getD z false = true ↔ p.1.getD z false = true ∨ z ∈ ys)
  | [], p, z, _ => by simp [pushF]
  | y :: ys, p, z, h => by
    have hy := h y (by simp)
    rw [pushF, pushF_had ys _ z (fun u hu => by have := h u (by simp [hu]); split <;> simpa)]
    split
    · rename_i hp
      constructor
      · rintro (h1 | h1)
        · exact .inl h1
        · exact .inr (by simp [h1])
      · rintro (h1 | h1)
        · exact .inl h1
        · rcases List.mem_cons.1 h1 with rfl | h1
          · exact .inl hp
          · exact .inr h1
    · simp only [getD_set]
      by_cases e : y = z
      · subst e; simp [hy]
      · rw [if_neg (fun k => e k.1)]
        simp [Ne.symm e]
theorem pushF_mem : ∀ (ys : List Nat) (p : List Bool × List Nat) (z : Nat), z ∈ (pushF ys p).2 → z ∈ p.2 ∨ z ∈ ys
  | [], p, z, h => .inl h
  | y :: ys, p, z, h => by
    rw [pushF] at h
    rcases pushF_mem ys _ z h with h | h
    · split at h
      · exact .inl h
      · rcases List.mem_append.1 h with h | h
        · exact .inl h
        · exact .inr (by simp at h; simp [h])
    · exact .inr (by simp [h])
theorem pushF_keep : ∀ (ys : List Nat) (p : List Bool × List Nat) (z : Nat), z ∈ p.2 → z ∈ (pushF ys p).2
  | [], p, z, h => h
  | y :: ys, p, z, h => by
    rw [pushF]
    refine pushF_keep ys _ z ?_
    split
    · exact h
    · simp [h]
theorem pushF_new : ∀ (ys : List Nat) (p : List Bool × List Nat) (z : Nat), (∀ y ∈ ys, y < p.1.length) → (pushF ys p).1.getD z false = true → p.1.getD z false = true ∨ z ∈ (pushF ys p).2
  | [], p, z, _, h => .inl h
  | y :: ys, p, z, hl, h => by
    have hy := hl y (by simp)
    rw [pushF] at h ⊢
    have hl' : ∀ u ∈ ys, u < (if p.1.getD y false = true then p else (p.1.set y true, p.2 ++ [y])).1.length := fun u hu => by have := hl u (by simp [hu]); split <;> simpa
    rcases pushF_new ys _ z hl' h with h1 | h1
    · split at h1
      · exact .inl h1
      · simp only [getD_set] at h1
        by_cases e : y = z
        · subst e
          refine .inr (pushF_keep ys _ y ?_)
          rename_i hp
          rw [if_neg hp]
          simp
        · rw [if_neg (fun k => e k.1)] at h1
          exact .inl h1
    · exact .inr h1
def falses (n : Nat) (had : List Bool) : Nat := ((List.range n).map fun y => if had.getD y false = true then 0 else 1).sum
theorem falses_le : ∀ (n : Nat) (had : List Bool), falses n had ≤ n
  | 0, had => Nat.le_refl _
  | n + 1, had => by
    have := falses_le n had
    unfold falses at *
    simp only [List.range_succ, List.map_append, List.sum_append, List.map_cons, List.map_nil, List.sum_cons, List.sum_nil]
    split <;> omega
theorem pushF_meas (n : Nat) : ∀ (ys : List Nat) (p : List Bool × List Nat), p.1.length = n → (∀ y ∈ ys, y < n) → 2 * falses n (pushF ys p).1 + (pushF ys p).2.length ≤ 2 * falses n p.1 + p.2.length
  | [], p, _, _ => Nat.le_refl _
  | y :: ys, p, hl, h => by
    rw [pushF]
    refine Nat.le_trans (pushF_meas n ys _ (by split <;> simp [hl]) fun u hu => h u (by simp [hu])) ?_
    split
    · exact Nat.le_refl _
    · rename_i hp
      have hy := h y (by simp)
      have := sum_one n (fun z => if (p.1.set y true).getD z false = true then 0 else 1) (fun z => if p.1.getD z false = true then 0 else 1) y hy (fun z hz => by rw [getD_set_ne _ _ (Ne.symm hz)])
      simp only [getD_set_same true false (show y < p.1.length by rw [hl]; exact hy), if_true, if_neg hp] at this
      simp only [falses, List.length_append, List.length_cons, List.length_nil]
      omega
/-- The last one on the list is taken, and what it leads to is put on it. -/
inductive Work (n : Nat) (rows : Nat → List Nat) : Nat → List Bool × List Nat → List Bool → Prop
  | done {had} (hl : had.length = n) : Work n rows 0 (had, []) had
  | step {k had l x t} (hl : had.length = n) (hx : x < n) (hb : l.length ≤ 2 * n) (hr : ∀ y ∈ rows x, y < n) (r : Work n rows k (pushF (rows x) (had, l)) t) : Work n rows (k + 1) (had, l ++ [x]) t
theorem work_end {n : Nat} {rows : Nat → List Nat} {a : Nat} (hr : ∀ x y, y ∈ rows x → y < n) (out : List (List Nat)) (ho : ∀ x y, x < n → (y ∈ rows x ↔ Edg out x y)) : ∀ (M : Nat) (had : List Bool) (l : List Nat), had.length = n → 2 * falses n had + l.length ≤ M → M ≤ 2 * n → (∀ y ∈ l, y < n ∧ had.getD y false = true) → (∀ y, had.getD y false = true → y < n ∧ Rch out a y) →
    (∀ y, had.getD y false = true → y ∈ l ∨ ∀ z ∈ rows y, had.getD z false = true) → had.getD a false = true → ∃ k t, Work n rows k (had, l) t ∧ t.length = n ∧ ∀ y, t.getD y false = true ↔ (y < n ∧ Rch out a y) := by
  intro M
  induction M with
  | zero =>
    intro had l hl hM _ h1 h2 h3 h4
    have : l = [] := List.length_eq_zero_iff.1 (by omega)
    subst this
    refine ⟨0, had, .done hl, hl, fun y => ⟨h2 y, ?_⟩⟩
    rintro ⟨-, hr'⟩
    induction hr' with
    | refl => exact h4
    | tail _ e ih =>
      rcases h3 _ ih with h5 | h5
      · cases h5
      · exact h5 _ ((ho _ _ (h2 _ ih).1).2 e)
  | succ M ih =>
    intro had l hl hM hMn h1 h2 h3 h4
    rcases List.eq_nil_or_concat l with rfl | ⟨l', x, hlx⟩
    · refine ⟨0, had, .done hl, hl, fun y => ⟨h2 y, ?_⟩⟩
      rintro ⟨-, hr'⟩
      induction hr' with
      | refl => exact h4
      | tail _ e ih =>
        rcases h3 _ ih with h5 | h5
        · cases h5
        · exact h5 _ ((ho _ _ (h2 _ ih).1).2 e)
    · rw [List.concat_eq_append] at hlx
      subst hlx
      obtain ⟨hxn, hxh⟩ := h1 x (by simp)
      have hrx : ∀ y ∈ rows x, y < n := fun y hy => hr x y hy
      have hrx' : ∀ y ∈ rows x, y < (had, l').1.length := fun y hy => by rw [hl]; exact hrx y hy
      have hm := pushF_meas n (rows x) (had, l') hl hrx
      simp only [List.length_append, List.length_cons, List.length_nil] at hM
      simp only [] at hm
      have hh := pushF_had (rows x) (had, l')
      obtain ⟨k, t, hw, ht, hs⟩ := ih (pushF (rows x) (had, l')).1 (pushF (rows x) (had, l')).2 (by rw [pushF_len]; exact hl) (by omega) (by omega) (fun y hy => by
          rcases pushF_mem _ _ y hy with h5 | h5
          · have h5' : y ∈ l' := h5
            have := h1 y (by simp [h5'])
            exact ⟨this.1, (hh y hrx').2 (.inl this.2)⟩
          · exact ⟨hrx y h5, (hh y hrx').2 (.inr h5)⟩) (fun y hy => by
          rcases (hh y hrx').1 hy with h5 | h5
          · exact h2 y h5
          · exact ⟨hrx y h5, .tail (h2 x hxh).2 ((ho x y hxn).1 h5)⟩) (fun y hy => by
          by_cases e : y = x
          · subst e
            exact .inr fun z hz => (hh z hrx').2 (.inr hz)
          · rcases pushF_new _ _ y hrx' hy with h5 | h5
            · rcases h3 y h5 with h6 | h6
              · refine .inl (pushF_keep _ _ y ?_)
                simp at h6
                exact h6.resolve_right e
              · exact .inr fun z hz => (hh z hrx').2 (.inl (h6 z hz))
            · exact .inl h5) ((hh a hrx').2 (.inl h4))
      exact ⟨k + 1, t, .step hl hxn (by omega) hrx hw, ht, hs⟩
theorem work_from {n : Nat} {rows : Nat → List Nat} (hr : ∀ x y, y ∈ rows x → y < n) (out : List (List Nat)) (ho : ∀ x y, x < n → (y ∈ rows x ↔ Edg out x y)) {a : Nat} (ha : a < n) :
    ∃ k t, Work n rows k ((List.replicate n false).set a true, [a]) t ∧ t.length = n ∧ ∀ y, t.getD y false = true ↔ (y < n ∧ Rch out a y) := by
  have hset : ∀ y, ((List.replicate n false).set a true).getD y false = true ↔ y = a := fun y => by
    rw [getD_set]
    by_cases e : a = y
    · subst e; simp [ha]
    · rw [if_neg (fun k => e k.1)]
      simp only [List.getD_eq_getElem?_getD, List.getElem?_replicate]
      constructor
      · intro h; split at h <;> simp at h
      · intro h; exact absurd h.symm e
  have hf : 2 * falses n ((List.replicate n false).set a true) + 1 ≤ 2 * n := by
    have h1 := sum_one n (fun z => if ((List.replicate n false).set a true).getD z false = true then 0 else 1) (fun _ => 1) a ha (fun z hz => by rw [if_neg (fun k => hz ((hset z).1 k))])
    simp only [(hset a).2 rfl, if_true] at h1
    have h2 : ∀ m : Nat, ((List.range m).map fun _ => 1).sum = m := fun m => by
      induction m with
      | zero => rfl
      | succ m ih => rw [List.range_succ, List.map_append, List.sum_append, ih]; rfl
    rw [h2] at h1
    unfold falses
    omega
  exact work_end hr out ho (2 * n) _ [a] (by simp) hf (Nat.le_refl _) (fun y hy => by simp at hy; subst hy; exact ⟨ha, (hset y).2 rfl⟩) (fun y hy => by rw [hset] at hy; subst hy; exact ⟨ha, .refl _⟩) (fun y hy => by rw [hset] at hy; subst hy; exact .inl (by simp)) ((hset a).2 rfl)
end Go.Proofs.Ythamopcfpmkbfaa
