/- What SccMade counts, in plain words. No condition. -/
import Derived.Test.YthamopcfpmkbfaaPT
namespace Go.Proofs.Ythamopcfpmkbfaa
def cntF (k : Nat) (xs : List Nat) : List Nat := (List.range k).map fun y => xs.count y
theorem cntF_len (k : Nat) (xs : List Nat) : (cntF k xs).length = k := by simp [cntF]
theorem cntF_get (k : Nat) (xs : List Nat) (y : Nat) (h : y < k) : (cntF k xs)[y]'(by rw [cntF_len]; exact h) = xs.count y := by simp [cntF]
theorem cntF_nil (k : Nat) : cntF k [] = List.replicate k 0 := by
  apply List.ext_getElem
  · simp [cntF]
  · intro i h1 h2; simp [cntF]
theorem cntF_snoc (k : Nat) (xs : List Nat) (x : Nat) : (cntF k xs).set x (xs.count x + 1) = cntF k (xs ++ [x]) := by
  apply List.ext_getElem
  · simp [cntF]
  · intro i h1 h2
    have hi : i < k := by simpa [cntF] using h2
    rw [List.getElem_set, cntF_get k _ i hi, cntF_get k _ i hi, List.count_append]
    by_cases e : x = i
    · subst e; simp
    · rw [if_neg e]
      have : List.count i [x] = 0 := List.count_eq_zero.2 (by simp; exact fun k => e k.symm)
      omega
theorem cntF_one {k : Nat} {xs : List Nat} (hd : xs.Nodup) (hm : ∀ y, y ∈ xs ↔ y < k) (y : Nat) (h : y < k) : (cntF k xs)[y]'(by rw [cntF_len]; exact h) = 1 := by
  rw [cntF_get k xs y h]
  have h1 := List.nodup_iff_count.1 hd y
  have h2 := List.count_pos_iff.2 ((hm y).2 h)
  omega
theorem heads_lt {n : Nat} {R : Nat → Nat → Prop} {gs : List (List Nat)} (h : Parts n R gs) (hr : gs.Pairwise fun a b => a.headD 0 ≤ b.headD 0) {i : Nat} (hi : i + 1 < gs.length) : (gs[i]'(by omega)).headD 0 < gs[i + 1].headD 0 := by
  have h1 := List.pairwise_iff_getElem.1 hr i (i + 1) (by omega) hi (by omega)
  have h2 := h.heads
  have h3 : (gs.map (·.headD 0))[i]'(by simp; omega) ≠ (gs.map (·.headD 0))[i + 1]'(by simpa using hi) := fun e => by
    have := (List.getElem_inj h2).1 e
    omega
  simp at h3
  simp at h1 ⊢
  omega
end Go.Proofs.Ythamopcfpmkbfaa
