/- A long row of nodes, open and closed to a ring. In plain words. No condition. -/
import Derived.Test.YthamopcfpmkbfaaLG1
set_option linter.unusedVariables false
namespace Go.Proofs.Ythamopcfpmkbfaa
def rowF (k i : Nat) : List Int := if i + 1 < k then [((i + 1 : Nat) : Int)] else []
/-- The first j rows of the row's graph. -/
def chF (k j : Nat) : List (List Int) := (List.range j).map (rowF k) ++ List.replicate (k - j) []
def chainF (k : Nat) : List (List Int) := (List.range k).map (rowF k)
theorem chainF_len (k : Nat) : (chainF k).length = k := by simp [chainF]
theorem chF_len {k j : Nat} (h : j ≤ k) : (chF k j).length = k := by simp [chF]; omega
theorem chF_zero (k : Nat) : chF k 0 = List.replicate k [] := by simp [chF]
theorem chF_step {k j : Nat} (h : j + 1 < k) : (chF k j).set j [((j + 1 : Nat) : Int)] = chF k (j + 1) := by
  unfold chF
  rw [List.range_succ, List.map_append, show k - j = (k - (j + 1)) + 1 by omega, List.replicate_succ, List.set_append_right _ _ (by simp)]
  simp [rowF, h]
theorem chF_end {k : Nat} (h : 0 < k) : chF k (k - 1) = chainF k := by
  unfold chF chainF
  obtain ⟨m, rfl⟩ : ∃ m, k = m + 1 := ⟨k - 1, by omega⟩
  rw [List.range_succ, List.map_append]
  simp [rowF]
theorem chain_edge (k x y : Nat) : EdgG (chainF k) x y ↔ x + 1 < k ∧ y = x + 1 := by
  unfold EdgG
  rw [chainF_len]
  constructor
  · rintro ⟨h1, h2, h3⟩
    have e : (chainF k).getD x [] = rowF k x := by simp [chainF, List.getD_eq_getElem?_getD, h1]
    rw [e] at h3
    unfold rowF at h3
    split at h3
    · simp at h3; exact ⟨by omega, by omega⟩
    · simp at h3
  · rintro ⟨h1, rfl⟩
    have e : (chainF k).getD x [] = rowF k x := by simp [chainF, List.getD_eq_getElem?_getD, show x < k by omega]
    refine ⟨by omega, by omega, ?_⟩
    rw [e]; unfold rowF; rw [if_pos h1]; simp
theorem grp_chain (k : Nat) : Grp (chainF k) (singles k) := by
  have := grp_singles (g := chainF k) (.inr fun x y h => by rw [chain_edge] at h; omega)
  rw [chainF_len] at this
  exact this
theorem chain_up {out : List (List Nat)} {k : Nat} (h : ∀ x, x + 1 < k → Edg out x (x + 1)) : ∀ (d x : Nat), x + d < k → Rch out x (x + d)
  | 0, x, _ => .refl x
  | d + 1, x, hk => .tail (chain_up h d x (by omega)) (by have := h (x + d) (by omega); exact this)
def ringF (k b : Nat) : List (List Int) := (chainF k).set (k - 1) [(b : Int)]
theorem ringF_len (k b : Nat) : (ringF k b).length = k := by simp [ringF, chainF_len]
theorem ring_edge {k b : Nat} (hb : b < k) (x y : Nat) : EdgG (ringF k b) x y ↔ (x + 1 < k ∧ y = x + 1) ∨ (x + 1 = k ∧ y = b) := by
  have hc := chain_edge k x y
  unfold EdgG at hc ⊢
  rw [ringF_len]
  rw [chainF_len] at hc
  unfold ringF
  rw [getD_set]
  by_cases e : k - 1 = x
  · rw [if_pos ⟨e, by rw [chainF_len]; omega⟩]
    constructor
    · rintro ⟨h1, h2, h3⟩; simp at h3; exact .inr ⟨by omega, by omega⟩
    · rintro (⟨h1, h2⟩ | ⟨h1, rfl⟩)
      · omega
      · exact ⟨by omega, hb, by simp⟩
  · rw [if_neg (fun k' => e k'.1), hc]
    constructor
    · exact .inl
    · rintro (h1 | h1)
      · exact h1
      · omega
theorem ring_rch {k b : Nat} (hb : b < k) {y : Nat} (hy : y < k) (z : Nat) : Rch (nats (edgesF (ringF k b))) y z ↔ z < k ∧ (y ≤ z ∨ b ≤ z) := by
  have he : ∀ x y, Edg (nats (edgesF (ringF k b))) x y ↔ (x + 1 < k ∧ y = x + 1) ∨ (x + 1 = k ∧ y = b) := fun x y => by rw [nats_edge, ring_edge hb]
  constructor
  · intro r
    induction r with
    | refl => exact ⟨hy, .inl (Nat.le_refl _)⟩
    | tail _ e ih =>
      rcases (he _ _).1 e with ⟨h1, h2⟩ | ⟨h1, h2⟩
      · exact ⟨by omega, by omega⟩
      · exact ⟨by omega, .inr (by omega)⟩
  · rintro ⟨hz, h1⟩
    have up : ∀ (x z : Nat), x ≤ z → z < k → Rch (nats (edgesF (ringF k b))) x z := fun x z hxz hzk => by
      have := chain_up (out := nats (edgesF (ringF k b))) (k := k) (fun x hx => (he _ _).2 (.inl ⟨hx, rfl⟩)) (z - x) x (by omega)
      rwa [show x + (z - x) = z by omega] at this
    rcases h1 with h1 | h1
    · exact up y z h1 hz
    · exact (Rch.tail (up y (k - 1) (by omega) (by omega)) ((he _ _).2 (.inr ⟨by omega, rfl⟩))).trans (up b z h1 hz)
def ringG (k b : Nat) : List (List Nat) := singles b ++ [List.range' b (k - b)]
theorem ringG_len (k b : Nat) : (ringG k b).length = b + 1 := by simp [ringG, singles_len]
theorem ringG_take (k b : Nat) : (ringG k b).take b = singles b := by
  unfold ringG
  rw [List.take_append_of_le_length (by simp [singles_len])]
  rw [List.take_of_length_le (by simp [singles_len])]
theorem singles_take {k b : Nat} (h : b ≤ k) : (singles k).take b = singles b := by
  unfold singles
  rw [← List.map_take, List.take_range, Nat.min_eq_left h]
theorem ringG_last (k b : Nat) : (ringG k b)[b]'(by rw [ringG_len]; omega) = List.range' b (k - b) := by
  simp [ringG, singles_len]
theorem ringG_flat {k b : Nat} (hb : b < k) : (ringG k b).flatten = List.range k := by
  unfold ringG
  rw [List.flatten_append, singles_flat, List.range_eq_range', List.range_eq_range']
  simp only [List.flatten_cons, List.flatten_nil, List.append_nil]
  have := List.range'_append (s := 0) (m := b) (n := k - b) (step := 1)
  simp at this
  rw [this]
  congr 1; omega
theorem grp_ring {k b : Nat} (hb : b < k) : Grp (ringF k b) (ringG k b) := by
  have hl := ringF_len k b
  refine ⟨⟨fun l hl' => ?_, fun l hl' => ?_, ?_, fun y => ?_, fun l hl' y hy z => ?_⟩, ?_⟩
  · rcases List.mem_append.1 hl' with h1 | h1
    · obtain ⟨i, _, rfl⟩ := List.mem_map.1 h1; simp
    · simp only [List.mem_singleton] at h1; subst h1; simp; omega
  · rcases List.mem_append.1 hl' with h1 | h1
    · obtain ⟨i, _, rfl⟩ := List.mem_map.1 h1; simp
    · simp only [List.mem_singleton] at h1; subst h1; exact List.pairwise_lt_range'
  · rw [ringG_flat hb]; exact List.nodup_range
  · rw [ringG_flat hb, hl]; exact List.mem_range
  · rcases List.mem_append.1 hl' with h1 | h1
    · obtain ⟨i, hi, rfl⟩ := List.mem_map.1 h1
      have hib : i < b := List.mem_range.1 hi
      simp only [List.mem_singleton] at hy ⊢
      subst hy
      rw [ring_rch hb (show y < k by omega)]
      constructor
      · rintro rfl; exact ⟨⟨by omega, .inl (Nat.le_refl _)⟩, .refl _⟩
      · rintro ⟨⟨hz, h2⟩, r⟩
        have h3 := ((ring_rch hb hz y).1 r).2
        omega
    · simp only [List.mem_singleton] at h1
      subst h1
      rw [List.mem_range'_1] at hy ⊢
      rw [ring_rch hb (show y < k by omega)]
      constructor
      · rintro ⟨h2, h3⟩
        exact ⟨⟨by omega, .inr h2⟩, (ring_rch hb (show z < k by omega) y).2 ⟨by omega, .inr hy.1⟩⟩
      · rintro ⟨⟨hz, h2⟩, -⟩
        omega
  · refine List.pairwise_append.2 ⟨?_, by simp, fun a ha c hc => ?_⟩
    · refine List.pairwise_iff_getElem.2 fun i j hi hj hij => ?_
      rw [singles_get hi, singles_get hj]; simp; omega
    · obtain ⟨i, hi, rfl⟩ := List.mem_map.1 ha
      have hib : i < b := List.mem_range.1 hi
      simp only [List.mem_singleton] at hc
      subst hc
      obtain ⟨d, hd⟩ : ∃ d, k - b = d + 1 := ⟨k - b - 1, by omega⟩
      rw [hd, List.range'_succ]
      simp; omega
end Go.Proofs.Ythamopcfpmkbfaa
