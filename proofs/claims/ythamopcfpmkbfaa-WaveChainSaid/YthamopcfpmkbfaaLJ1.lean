/- A row of nodes, each of which refers to the one ahead, and nodes apart. In plain words. No condition. -/
import Derived.Test.YthamopcfpmkbfaaGX6
import Derived.Test.YthamopcfpmkbfaaLD
set_option linter.unusedVariables false
namespace Go.Proofs.Ythamopcfpmkbfaa
def wrowF (k i : Nat) : List Int := if 0 < i ∧ i < k then [(i : Int) - 1, (i : Int)] else []
def wchF (N k j : Nat) : List (List Int) := (List.range j).map (wrowF k) ++ List.replicate (N - j) []
def wlv (k i : Nat) : Nat := if i < k then i else 0
theorem wchF_len {N k j : Nat} (h : j ≤ N) : (wchF N k j).length = N := by simp [wchF]; omega
theorem wchF_zero (N k : Nat) : wchF N k 0 = List.replicate N [] := by simp [wchF]
theorem wch_step {N k j : Nat} (h : j < N) : (wchF N k j).set j (wrowF k j) = wchF N k (j + 1) := by
  unfold wchF
  rw [List.range_succ, List.map_append, show N - j = (N - (j + 1)) + 1 by omega, List.replicate_succ, List.set_append_right _ _ (by simp)]
  simp
theorem wch_step0 {N k j : Nat} (h : j < N) (hk : ¬ (0 < j ∧ j < k)) : wchF N k j = wchF N k (j + 1) := by
  rw [← wch_step h]
  have e : wrowF k j = [] := by unfold wrowF; rw [if_neg hk]
  rw [e]
  apply List.ext_getElem?
  intro i
  rw [List.getElem?_set]
  by_cases hi : j = i
  · subst hi
    rw [if_pos rfl, if_pos (by rw [wchF_len (by omega)]; exact h)]
    unfold wchF
    rw [List.getElem?_append_right (by simp)]
    simp [show 0 < N - j by omega]
  · rw [if_neg hi]
theorem wch_all (N k : Nat) : wchF N k N = (List.range N).map (wrowF k) := by simp [wchF]
def wchG (N k : Nat) : List (List Int) := (List.range N).map (wrowF k)
theorem wchG_len (N k : Nat) : (wchG N k).length = N := by simp [wchG]
theorem wch_edge {N k : Nat} (hk : k ≤ N) (x y : Nat) : EdgG (wchG N k) x y ↔ 0 < x ∧ x < k ∧ (y + 1 = x ∨ y = x) := by
  unfold EdgG
  rw [wchG_len]
  constructor
  · rintro ⟨h1, h2, h3⟩
    have e : (wchG N k).getD x [] = wrowF k x := by simp [wchG, List.getD_eq_getElem?_getD, h1]
    rw [e] at h3
    unfold wrowF at h3
    split at h3
    · rename_i h4
      simp at h3
      exact ⟨h4.1, h4.2, by omega⟩
    · simp at h3
  · rintro ⟨h1, h2, h3⟩
    have e : (wchG N k).getD x [] = wrowF k x := by simp [wchG, List.getD_eq_getElem?_getD, show x < N by omega]
    refine ⟨by omega, by omega, ?_⟩
    rw [e]; unfold wrowF; rw [if_pos ⟨h1, h2⟩]
    simp; omega
theorem grp_wch {N k : Nat} (hk : k ≤ N) : Grp (wchG N k) (singles N) := by
  have := grp_singles (g := wchG N k) (.inl fun x y h => by rw [wch_edge hk] at h; omega)
  rw [wchG_len] at this
  exact this
theorem lv_wch {N k : Nat} (hk : k ≤ N) : LvG (wchG N k) (singles N) (wlv k) := by
  have := lvG_singles (g := wchG N k) (Lv := wlv k) fun i => by
    refine ⟨fun j hne h => ?_, ?_⟩
    · rw [wch_edge hk] at h
      unfold wlv
      rw [if_pos h.2.1, if_pos (by omega)]
      omega
    · by_cases hi : 0 < i ∧ i < k
      · refine .inr ⟨i - 1, by omega, (wch_edge hk _ _).2 ⟨hi.1, hi.2, by omega⟩, ?_⟩
        unfold wlv
        rw [if_pos hi.2, if_pos (by omega)]
        omega
      · left
        unfold wlv
        split <;> omega
  rw [wchG_len] at this
  exact this
theorem wlv_get {N k i : Nat} (h : i < N) : ((List.range N).map (wlv k)).getD i 0 = wlv k i := by rw [getD_get 0 (by simpa using h)]; simp
theorem waves_wch {k m : Nat} (hk : 0 < k) : (wavesF ((List.range (k + m)).map (wlv k)) (k + m)).length = k ∧ ((wavesF ((List.range (k + m)).map (wlv k)) (k + m)).getD 0 []).length = 1 + m := by
  have hW := wavesF_inv ((List.range (k + m)).map (wlv k)) (k + m)
  refine ⟨?_, ?_⟩
  · have h1 := hW.len (k - 1) (by omega)
    have e1 : wlv k (k - 1) = k - 1 := by unfold wlv; rw [if_pos (by omega)]
    rw [wlv_get (by omega), e1] at h1
    obtain ⟨n, hn⟩ : ∃ n, n + 1 = (wavesF ((List.range (k + m)).map (wlv k)) (k + m)).length := ⟨_, Nat.sub_add_cancel (by omega)⟩
    obtain ⟨y, hy, h2⟩ := hW.top n hn
    rw [wlv_get hy] at h2
    have e2 : wlv k y ≤ k - 1 := by unfold wlv; split <;> omega
    omega
  · have hl : 0 < (wavesF ((List.range (k + m)).map (wlv k)) (k + m)).length := by
      have := hW.len 0 (by omega); omega
    have hnd := hW.nd _ (List.getElem_mem hl)
    rw [← getD_get [] hl] at hnd
    have hp : ((wavesF ((List.range (k + m)).map (wlv k)) (k + m)).getD 0 []).Perm (0 :: List.range' k m) := by
      refine (List.perm_ext_iff_of_nodup hnd (List.nodup_cons.2 ⟨fun h => ?_, List.nodup_range'⟩)).2 fun y => ?_
      · rw [List.mem_range'_1] at h; omega
      · rw [hW.mem, List.mem_cons, List.mem_range'_1]
        constructor
        · rintro ⟨h1, h2⟩
          rw [wlv_get h1] at h2
          unfold wlv at h2
          split at h2 <;> omega
        · rintro (rfl | ⟨h1, h2⟩)
          · exact ⟨by omega, by rw [wlv_get (by omega)]; unfold wlv; split <;> rfl⟩
          · exact ⟨by omega, by rw [wlv_get (by omega)]; unfold wlv; rw [if_neg (by omega)]⟩
    rw [hp.length_eq]
    simp; omega
end Go.Proofs.Ythamopcfpmkbfaa
