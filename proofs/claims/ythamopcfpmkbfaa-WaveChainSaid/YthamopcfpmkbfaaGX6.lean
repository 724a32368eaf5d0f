/- Graphs that lead one way only: each node is a group of its own. In plain words. No condition. -/
import Derived.Test.YthamopcfpmkbfaaGB
import Derived.Test.YthamopcfpmkbfaaPX
namespace Go.Proofs.Ythamopcfpmkbfaa
def singles (n : Nat) : List (List Nat) := (List.range n).map fun i => [i]
theorem singles_len (n : Nat) : (singles n).length = n := by simp [singles]
theorem singles_get {n i : Nat} (h : i < (singles n).length) : (singles n)[i] = [i] := by simp [singles]
theorem singles_flat (n : Nat) : (singles n).flatten = List.range n := by
  unfold singles
  induction n with
  | zero => rfl
  | succ n ih => rw [List.range_succ, List.map_append, List.flatten_append, ih]; simp
theorem one_way {g : List (List Int)} (h : (∀ x y, EdgG g x y → y ≤ x) ∨ (∀ x y, EdgG g x y → x ≤ y)) (y z : Nat) (h1 : Rch (nats (edgesF g)) y z) (h2 : Rch (nats (edgesF g)) z y) : y = z := by
  rcases h with h | h
  · have key : ∀ {y z}, Rch (nats (edgesF g)) y z → z ≤ y := fun r => by
      induction r with
      | refl => exact Nat.le_refl _
      | tail _ e ih => exact Nat.le_trans (h _ _ ((nats_edge g _ _).1 e)) ih
    exact Nat.le_antisymm (key h2) (key h1)
  · have key : ∀ {y z}, Rch (nats (edgesF g)) y z → y ≤ z := fun r => by
      induction r with
      | refl => exact Nat.le_refl _
      | tail _ e ih => exact Nat.le_trans ih (h _ _ ((nats_edge g _ _).1 e))
    exact Nat.le_antisymm (key h1) (key h2)
theorem grp_singles {g : List (List Int)} (h : (∀ x y, EdgG g x y → y ≤ x) ∨ (∀ x y, EdgG g x y → x ≤ y)) : Grp g (singles g.length) := by
  refine ⟨⟨fun l hl => ?_, fun l hl => ?_, ?_, fun y => ?_, fun l hl y hy z => ?_⟩, ?_⟩
  · obtain ⟨i, _, rfl⟩ := List.mem_map.1 hl; simp
  · obtain ⟨i, _, rfl⟩ := List.mem_map.1 hl; simp
  · rw [singles_flat]; exact List.nodup_range
  · rw [singles_flat]; exact List.mem_range
  · obtain ⟨i, _, rfl⟩ := List.mem_map.1 hl
    simp only [List.mem_singleton] at hy ⊢
    subst hy
    constructor
    · rintro rfl; exact ⟨.refl _, .refl _⟩
    · rintro ⟨h1, h2⟩; exact (one_way h _ _ h1 h2).symm
  · refine List.pairwise_iff_getElem.2 fun i j hi hj hij => ?_
    rw [singles_get hi, singles_get hj]
    simp; omega
theorem ofF_singles {n x : Nat} (h : x < n) : ofF (singles n) x = x := by
  have hx : x < (singles n).length := by rw [singles_len]; exact h
  exact ofF_eq (by rw [singles_flat]; exact List.nodup_range) hx (by rw [singles_get]; simp)
theorem bel_singles (g : List (List Int)) (i j : Nat) : Bel g (singles g.length) i j ↔ i ≠ j ∧ EdgG g i j := by
  constructor
  · rintro ⟨h1, x, y, h2, h3, h4⟩
    rw [ofF_singles h2.1] at h3
    rw [ofF_singles h2.2.1] at h4
    subst h3 h4
    exact ⟨h1, h2⟩
  · rintro ⟨h1, h2⟩
    exact ⟨h1, i, j, h2, ofF_singles h2.1, ofF_singles h2.2.1⟩
theorem lvG_singles {g : List (List Int)} {Lv : Nat → Nat} (h : ∀ i, (∀ j, i ≠ j → EdgG g i j → Lv j + 1 ≤ Lv i) ∧ (Lv i = 0 ∨ ∃ j, i ≠ j ∧ EdgG g i j ∧ Lv i = Lv j + 1)) : LvG g (singles g.length) Lv := fun i => by
  refine ⟨fun j hj => ?_, ?_⟩
  · obtain ⟨h1, h2⟩ := (bel_singles g i j).1 hj
    exact (h i).1 j h1 h2
  · rcases (h i).2 with h1 | ⟨j, h1, h2, h3⟩
    · exact .inl h1
    · exact .inr ⟨j, (bel_singles g i j).2 ⟨h1, h2⟩, h3⟩
end Go.Proofs.Ythamopcfpmkbfaa
