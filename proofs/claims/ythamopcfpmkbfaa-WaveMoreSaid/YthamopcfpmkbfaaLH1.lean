/- An edge more: groups become fewer, or levels no less. In plain words. No condition. -/
import Derived.Test.YthamopcfpmkbfaaLG1
import Derived.Test.YthamopcfpmkbfaaLD
set_option linter.unusedVariables false
namespace Go.Proofs.Ythamopcfpmkbfaa
theorem full_list {n : Nat} {l : List Nat} (hn : l.Nodup) (hl : l.length = n) (hlt : ∀ y ∈ l, y < n) (i : Nat) (hi : i < n) : i ∈ l := by
  rcases Classical.em (i ∈ l) with h | h
  · exact h
  · have := nodup_le n (i :: l) (List.nodup_cons.2 ⟨h, hn⟩) (fun y hy => by
      rcases List.mem_cons.1 hy with rfl | hy
      · exact hi
      · exact hlt y hy)
    simp at this; omega
section
variable {g h : List (List Int)} {gs hs : List (List Nat)}
theorem edge_sub (hl : h.length = g.length) (he : ∀ x y, EdgG g x y → EdgG h x y) {x y : Nat} (r : Rch (nats (edgesF g)) x y) : Rch (nats (edgesF h)) x y :=
  rch_sub (fun x y e => .edge ((nats_edge _ _ _).2 (he x y ((nats_edge _ _ _).1 e)))) r
theorem parts_idx (hgs : Grp g gs) (hhs : Grp h hs) (hl : h.length = g.length) (he : ∀ x y, EdgG g x y → EdgG h x y) :
    (hs.map fun l => ofF gs (l.headD 0)).Nodup ∧ (∀ y ∈ hs.map fun l => ofF gs (l.headD 0), y < gs.length) := by
  have hlt : ∀ j (hj : j < hs.length), hs[j].headD 0 ∈ hs[j] ∧ hs[j].headD 0 < g.length := fun j hj => by
    have h1 := head_mem (hhs.1.ne _ (List.getElem_mem hj))
    exact ⟨h1, by rw [← hl]; exact hhs.row hj h1⟩
  refine ⟨?_, fun y hy => ?_⟩
  · refine List.pairwise_iff_getElem.2 fun i j hi hj hij e => ?_
    simp only [List.length_map] at hi hj
    simp only [List.getElem_map] at e
    obtain ⟨a1, a2⟩ := hlt i hi
    obtain ⟨b1, b2⟩ := hlt j hj
    obtain ⟨r1, r2⟩ := (ofF_same hgs.1 a2 b2).1 e
    have := (hhs.1.one _ (List.getElem_mem hi) _ a1 _).2 ⟨edge_sub hl he r1, edge_sub hl he r2⟩
    have := apart_idx hhs.1.nd hi hj this b1
    omega
  · obtain ⟨l, hl', rfl⟩ := List.mem_map.1 hy
    obtain ⟨j, hj, rfl⟩ := List.getElem_of_mem hl'
    exact ofF_lt hgs.1 (hlt j hj).2
theorem groups_fewer (hgs : Grp g gs) (hhs : Grp h hs) (hl : h.length = g.length) (he : ∀ x y, EdgG g x y → EdgG h x y) : hs.length ≤ gs.length := by
  obtain ⟨h1, h2⟩ := parts_idx hgs hhs hl he
  have := nodup_le _ _ h1 h2
  simpa using this
theorem groups_same (hgs : Grp g gs) (hhs : Grp h hs) (hl : h.length = g.length) (he : ∀ x y, EdgG g x y → EdgG h x y) (heq : hs.length = gs.length) : hs = gs := by
  obtain ⟨h1, h2⟩ := parts_idx hgs hhs hl he
  have hin : ∀ x, x < g.length → ofF gs x = ofF gs ((hs.getD (ofF hs x) []).headD 0) := fun x hx => by
    obtain ⟨l, hl', e⟩ := List.mem_map.1 (full_list h1 (by simpa using heq) h2 _ (ofF_lt hgs.1 hx))
    obtain ⟨j, hj, rfl⟩ := List.getElem_of_mem hl'
    have hm := head_mem (hhs.1.ne _ (List.getElem_mem hj))
    have hmn : hs[j].headD 0 < g.length := by rw [← hl]; exact hhs.row hj hm
    obtain ⟨r1, r2⟩ := (ofF_same hgs.1 hmn hx).1 e
    have := (hhs.1.one _ (List.getElem_mem hj) _ hm _).2 ⟨edge_sub hl he r1, edge_sub hl he r2⟩
    have hj2 := ofF_eq hhs.1.nd hj this
    rw [hj2, getD_get [] hj, e]
  have hR : ∀ x y, x < g.length → y < g.length → Rch (nats (edgesF h)) x y → Rch (nats (edgesF h)) y x → Rch (nats (edgesF g)) x y ∧ Rch (nats (edgesF g)) y x := fun x y hx hy r1 r2 => by
    have e := (ofF_same hhs.1 (by rw [hl]; exact hx) (by rw [hl]; exact hy)).2 ⟨r1, r2⟩
    exact (ofF_same hgs.1 hx hy).1 (by rw [hin x hx, hin y hy, e])
  have hQ := hhs.1
  rw [hl] at hQ
  have hone : ∀ l ∈ hs, ∀ y ∈ l, ∀ z, z ∈ l ↔ Rch (nats (edgesF g)) y z ∧ Rch (nats (edgesF g)) z y := fun l hl' y hy z => by
    have hyn : y < g.length := (hQ.all y).1 (List.mem_flatten.2 ⟨l, hl', hy⟩)
    constructor
    · intro hz
      have hzn : z < g.length := (hQ.all z).1 (List.mem_flatten.2 ⟨l, hl', hz⟩)
      obtain ⟨r1, r2⟩ := (hQ.one l hl' y hy z).1 hz
      exact hR y z hyn hzn r1 r2
    · rintro ⟨r1, r2⟩
      exact (hQ.one l hl' y hy z).2 ⟨edge_sub hl he r1, edge_sub hl he r2⟩
  have hP : Parts g.length (Rch (nats (edgesF g))) hs := ⟨hQ.ne, hQ.up, hQ.nd, hQ.all, hone⟩
  exact hP.unique hgs.1 (fun _ _ _ _ => Iff.rfl) hhs.2 hgs.2
theorem levels_more (hgs : Grp g gs) (hhs : Grp h gs) (hl : h.length = g.length) (he : ∀ x y, EdgG g x y → EdgG h x y) {Lg Lh : Nat → Nat} (hLg : LvG g gs Lg) (hLh : LvG h gs Lh) (i : Nat) : Lg i ≤ Lh i := by
  obtain ⟨rk, h1, -⟩ := bel_ranked hgs.1
  have : ∀ k i, rk i ≤ k → Lg i ≤ Lh i := by
    intro k
    induction k with
    | zero =>
      intro i hi
      rcases (hLg i).2 with h3 | ⟨j, hj, h3⟩
      · omega
      · have := h1 i j hj; omega
    | succ k ih =>
      intro i hi
      rcases (hLg i).2 with h3 | ⟨j, hj, h3⟩
      · omega
      · have h4 := ih j (by have := h1 i j hj; omega)
        have h5 := (hLh i).1 j ⟨hj.1, by obtain ⟨-, x, y, hxy, e1, e2⟩ := hj; exact ⟨x, y, he x y hxy, e1, e2⟩⟩
        omega
  exact this _ i (Nat.le_refl _)
end
/-- A row made longer. -/
theorem longer (g : List (List Int)) {x : Nat} (hx : x < g.length) (r : List Int) : (g.set x (g.getD x [] ++ r)).length = g.length ∧ (∀ a b, EdgG g a b → EdgG (g.set x (g.getD x [] ++ r)) a b) ∧ ∀ a b, EdgG (g.set x (g.getD x [] ++ r)) a b → EdgG g a b ∨ (a = x ∧ (b : Int) ∈ r ∧ b < g.length) := by
  refine ⟨by simp, ?_, ?_⟩
  · rintro a b ⟨h1, h2, h3⟩
    refine ⟨by simpa using h1, by simpa using h2, ?_⟩
    rw [getD_set]
    split
    · rename_i e; rw [e.1]; exact List.mem_append.2 (.inl h3)
    · exact h3
  · rintro a b ⟨h1, h2, h3⟩
    rw [List.length_set] at h1 h2
    rw [getD_set] at h3
    split at h3
    · rename_i e
      rcases List.mem_append.1 h3 with h4 | h4
      · exact .inl ⟨h1, h2, by rw [← e.1]; exact h4⟩
      · exact .inr ⟨e.1.symm, h4, h2⟩
    · exact .inl ⟨h1, h2, h3⟩
theorem lvG_same {g h : List (List Int)} {gs : List (List Nat)} {Lv : Nat → Nat} (he : ∀ x y, EdgG g x y ↔ EdgG h x y) (hL : LvG g gs Lv) : LvG h gs Lv := by
  have hb : ∀ i j, Bel g gs i j ↔ Bel h gs i j := fun i j => by unfold Bel; simp only [he]
  intro i
  refine ⟨fun j hj => (hL i).1 j ((hb i j).2 hj), ?_⟩
  rcases (hL i).2 with h1 | ⟨j, h1, h2⟩
  · exact .inl h1
  · exact .inr ⟨j, (hb i j).1 h1, h2⟩
end Go.Proofs.Ythamopcfpmkbfaa
