/- Each graph's groups have levels. In plain words. No condition. -/
import Derived.Test.YthamopcfpmkbfaaGB
import Derived.Test.YthamopcfpmkbfaaPX
namespace Go.Proofs.Ythamopcfpmkbfaa
open Classical in
theorem lvG_exists {g : List (List Int)} {gs : List (List Nat)} (h : Grp g gs) : ∃ Lv, LvG g gs Lv := by
  obtain ⟨out, hout⟩ : ∃ out : List (List Nat), out = (List.range gs.length).map fun i => (List.range gs.length).filter fun j => decide (Bel g gs i j) := ⟨_, rfl⟩
  have hb : Belows g gs out := by
    subst hout
    refine ⟨by simp, fun r hr => ?_, fun i j => ?_⟩
    · obtain ⟨i, _, rfl⟩ := List.mem_map.1 hr
      exact List.Pairwise.filter _ List.nodup_range
    · by_cases hi : i < gs.length
      · simp only [List.getD_eq_getElem?_getD, List.getElem?_map, List.getElem?_range hi, Option.map_some, Option.getD_some, List.mem_filter, List.mem_range, decide_eq_true_eq]
        constructor
        · exact fun k => k.2
        · exact fun k => ⟨(bel_lt h.1 k).2, k⟩
      · rw [List.getD_eq_getElem?_getD, List.getElem?_eq_none (by simpa using hi)]
        constructor
        · intro k; simp at k
        · intro k; exact absurd (bel_lt h.1 k).1 hi
  obtain ⟨rk, h1, h2⟩ := bel_ranked h.1
  obtain ⟨L, hL⟩ := lv_exists (out := out) (rk := rk) fun i j hj => h1 i j ((hb.mem i j).1 hj)
  exact ⟨L, (lvG_isLv hb).2 hL⟩
end Go.Proofs.Ythamopcfpmkbfaa
