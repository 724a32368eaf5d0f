/- Edges twice, to themselves, to nowhere, turned round: the groups stay. In plain words. No condition. -/
import Derived.Test.YthamopcfpmkbfaaGX6
namespace Go.Proofs.Ythamopcfpmkbfaa
theorem rch_sub {out out' : List (List Nat)} (h : ∀ x y, Edg out x y → Rch out' x y) {x y : Nat} (r : Rch out x y) : Rch out' x y := by
  induction r with
  | refl => exact .refl _
  | tail _ e ih => exact ih.trans (h _ _ e)
theorem rch_flip {out out' : List (List Nat)} (h : ∀ x y, Edg out x y → Edg out' y x) {x y : Nat} (r : Rch out x y) : Rch out' y x := by
  induction r with
  | refl => exact .refl _
  | tail _ e ih => exact (Rch.edge (h _ _ e)).trans ih
theorem grp_more {g h : List (List Int)} {gs : List (List Nat)} (hgs : Grp g gs) (hl : h.length = g.length) (he : ∀ x y, EdgG g x y → EdgG h x y) (he' : ∀ x y, EdgG h x y → EdgG g x y ∨ x = y) : Grp h gs := by
  have h1 : ∀ x y, Rch (nats (edgesF g)) x y ↔ Rch (nats (edgesF h)) x y := fun x y => by
    constructor
    · exact rch_sub fun x y e => .edge ((nats_edge _ _ _).2 (he x y ((nats_edge _ _ _).1 e)))
    · refine rch_sub fun x y e => ?_
      rcases he' x y ((nats_edge _ _ _).1 e) with k | k
      · exact .edge ((nats_edge _ _ _).2 k)
      · subst k; exact .refl _
  refine ⟨?_, hgs.2⟩
  rw [hl]
  exact { hgs.1 with one := fun l hl y hy z => by rw [hgs.1.one l hl y hy z, h1, h1] }
theorem grp_back {g h : List (List Int)} {gs : List (List Nat)} (hgs : Grp g gs) (hl : h.length = g.length) (he : ∀ x y, EdgG g x y ↔ EdgG h y x) : Grp h gs := by
  have h1 : ∀ x y, Rch (nats (edgesF g)) x y ↔ Rch (nats (edgesF h)) y x := fun x y => by
    constructor
    · exact rch_flip fun x y e => (nats_edge _ _ _).2 ((he x y).1 ((nats_edge _ _ _).1 e))
    · exact rch_flip fun x y e => (nats_edge _ _ _).2 ((he y x).2 ((nats_edge _ _ _).1 e))
  refine ⟨?_, hgs.2⟩
  rw [hl]
  exact { hgs.1 with one := fun l hl y hy z => by rw [hgs.1.one l hl y hy z, h1, h1, and_comm] }
/-- Rows twice, of the first i nodes. -/
def twF (g : List (List Int)) (i : Nat) : List (List Int) := (g.take i).map (fun r => r ++ r) ++ List.replicate (g.length - i) []
theorem twF_len (g : List (List Int)) {i : Nat} (hi : i ≤ g.length) : (twF g i).length = g.length := by simp [twF]; omega
theorem twF_zero (g : List (List Int)) : twF g 0 = List.replicate g.length [] := by simp [twF]
theorem twF_all (g : List (List Int)) : twF g g.length = g.map fun r => r ++ r := by simp [twF]
theorem twF_step (g : List (List Int)) {i : Nat} (hi : i < g.length) : (twF g i).set i (g[i] ++ g[i]) = twF g (i + 1) := by
  unfold twF
  rw [List.take_succ_eq_append_getElem hi, List.map_append, show g.length - i = (g.length - (i + 1)) + 1 by omega, List.replicate_succ]
  rw [List.set_append_right _ _ (by simp; omega)]
  have : i - ((g.take i).map fun r => r ++ r).length = 0 := by simp; omega
  rw [this]
  simp
/-- What has been turned round so far. -/
structure BkInv (g : List (List Int)) (a t M : Nat) (bk : List (List Nat)) : Prop where
  len : bk.length = g.length
  mem : ∀ x y, x ∈ bk.getD y [] ↔ Upto g a t x y
  sm : ∀ r ∈ bk, r.length ≤ M
theorem BkInv.begin (g : List (List Int)) : BkInv g 0 0 0 (List.replicate g.length []) := by
  refine ⟨by simp, fun x y => ?_, fun r hr => by rw [List.mem_replicate] at hr; rw [hr.2]; simp⟩
  simp only [List.getD_eq_getElem?_getD, List.getElem?_replicate, Upto]
  constructor
  · intro h; split at h <;> simp at h
  · rintro ⟨-, -, h1 | h1⟩
    · omega
    · simp at h1
theorem BkInv.add {g : List (List Int)} {a t M : Nat} {bk : List (List Nat)} (h : BkInv g a t M bk) (ha : a < g.length) (ht : t < (g.getD a []).length) {b : Nat} (hb : (g.getD a [])[t] = (b : Int)) (hbn : b < g.length) : BkInv g a (t + 1) (M + 1) (bk.set b (bk.getD b [] ++ [a])) := by
  have hbl : b < bk.length := by rw [h.len]; exact hbn
  refine ⟨by simp [h.len], fun x y => ?_, fun r hr => ?_⟩
  · rw [upto_take g ha ht hb hbn, getD_set]
    by_cases e : b = y
    · subst e
      rw [if_pos ⟨rfl, hbl⟩, List.mem_append, h.mem]
      simp only [List.mem_singleton]
      constructor
      · rintro (k | k)
        · exact .inl k
        · exact .inr ⟨k, trivial⟩
      · rintro (k | k)
        · exact .inl k
        · exact .inr k.1
    · rw [if_neg (fun k => e k.1), h.mem]
      constructor
      · exact .inl
      · rintro (k | k)
        · exact k
        · exact absurd k.2.symm e
  · rcases List.mem_or_eq_of_mem_set hr with h1 | h1
    · have := h.sm r h1; omega
    · subst h1
      have : bk.getD b [] = bk[b] := by simp [List.getD_eq_getElem?_getD, hbl]
      rw [this, List.length_append]
      have := h.sm _ (List.getElem_mem hbl)
      simp; omega
theorem BkInv.row {g : List (List Int)} {a M M' : Nat} {bk : List (List Nat)} (h : BkInv g a (g.getD a []).length M bk) (hM : M ≤ M') : BkInv g (a + 1) 0 M' bk :=
  ⟨h.len, fun x y => by rw [h.mem, upto_end], fun r hr => Nat.le_trans (h.sm r hr) hM⟩
theorem BkInv.edge {g : List (List Int)} {M : Nat} {bk : List (List Nat)} (h : BkInv g g.length 0 M bk) (x y : Nat) : EdgG g x y ↔ EdgG (intss bk) y x := by
  unfold EdgG
  rw [intss_getD, ints_mem, h.mem]
  have e : (intss bk).length = g.length := by simp [intss, h.len]
  rw [e]
  unfold Upto
  simp only [List.take_zero, List.not_mem_nil, and_false, or_false]
  constructor
  · rintro ⟨h1, h2, h3⟩; exact ⟨h2, h1, h1, h2, h1, h3⟩
  · rintro ⟨h1, h2, -, -, -, h3⟩; exact ⟨h2, h1, h3⟩
end Go.Proofs.Ythamopcfpmkbfaa
