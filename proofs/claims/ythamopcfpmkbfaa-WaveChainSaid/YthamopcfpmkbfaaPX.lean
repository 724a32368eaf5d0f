/- Groups that lead to groups, their levels and waves, in plain words. No condition. -/
import Derived.Test.YthamopcfpmkbfaaPT
set_option linter.unusedVariables false
set_option linter.unusedSimpArgs false
namespace Go.Proofs.Ythamopcfpmkbfaa
/-! ### the largest of some -/
def supL (L : Nat → Nat) (row : List Nat) : Nat := row.foldl (fun a y => max a (L y + 1)) 0
theorem supL_nil (L : Nat → Nat) : supL L [] = 0 := rfl
theorem supL_snoc (L : Nat → Nat) (row : List Nat) (y : Nat) : supL L (row ++ [y]) = max (supL L row) (L y + 1) := by simp [supL]
theorem supL_congr {L L' : Nat → Nat} {row : List Nat} (h : ∀ y ∈ row, L y = L' y) : supL L row = supL L' row := by
  unfold supL
  have : ∀ (a : Nat), row.foldl (fun a y => max a (L y + 1)) a = row.foldl (fun a y => max a (L' y + 1)) a := by
    induction row with
    | nil => intro a; rfl
    | cons z r ih =>
      intro a
      simp only [List.foldl_cons]
      rw [h z (by simp)]
      exact ih (fun y hy => h y (by simp [hy])) _
  exact this 0
theorem supL_spec (L : Nat → Nat) (row : List Nat) : (∀ y ∈ row, L y + 1 ≤ supL L row) ∧ (supL L row = 0 ∨ ∃ y ∈ row, supL L row = L y + 1) := by
  have key : ∀ (n : Nat) (row : List Nat), row.length = n → (∀ y ∈ row, L y + 1 ≤ supL L row) ∧ (supL L row = 0 ∨ ∃ y ∈ row, supL L row = L y + 1) := by
    intro n
    induction n with
    | zero => intro row h; have := List.length_eq_zero_iff.1 h; subst this; exact ⟨by simp, .inl rfl⟩
    | succ n ih =>
      intro row h
      rcases List.eq_nil_or_concat row with rfl | ⟨r, z, hr⟩
      · simp at h
      · rw [List.concat_eq_append] at hr
        subst hr
        obtain ⟨h1, h2⟩ := ih r (by simpa using h)
        rw [supL_snoc]
        refine ⟨fun y hy => ?_, ?_⟩
        · rcases List.mem_append.1 hy with hy | hy
          · have := h1 y hy; omega
          · simp at hy; subst hy; omega
        · rcases Nat.le_total (supL L r) (L z + 1) with h3 | h3
          · exact .inr ⟨z, by simp, by omega⟩
          · rcases h2 with h2 | ⟨y, hy, h2⟩
            · omega
            · exact .inr ⟨y, by simp [hy], by omega⟩
  exact key _ row rfl
theorem supL_eq {L : Nat → Nat} {row : List Nat} {m : Nat} (h1 : ∀ y ∈ row, L y + 1 ≤ m) (h2 : m = 0 ∨ ∃ y ∈ row, m = L y + 1) : supL L row = m := by
  obtain ⟨k1, k2⟩ := supL_spec L row
  rcases h2 with h2 | ⟨y, hy, h2⟩
  · rcases k2 with k2 | ⟨z, hz, k2⟩
    · omega
    · have := h1 z hz; omega
  · have := k1 y hy
    rcases k2 with k2 | ⟨z, hz, k2⟩
    · omega
    · have := h1 z hz; omega
/-! ### levels of what leads nowhere in a circle -/
def lvF (out : List (List Nat)) : Nat → Nat → Nat
  | 0, _ => 0
  | k + 1, i => supL (lvF out k) (out.getD i [])
def Ranked (out : List (List Nat)) (rk : Nat → Nat) : Prop := ∀ i, ∀ j ∈ out.getD i [], rk j < rk i
theorem lvF_stable {out : List (List Nat)} {rk : Nat → Nat} (h : Ranked out rk) : ∀ (k k' i : Nat), rk i < k → rk i < k' → lvF out k i = lvF out k' i
  | 0, _, _, h1, _ => by omega
  | _, 0, _, _, h2 => by omega
  | k + 1, k' + 1, i, h1, h2 => by
    simp only [lvF]
    exact supL_congr fun y hy => lvF_stable h k k' y (by have := h i y hy; omega) (by have := h i y hy; omega)
/-- The levels. -/
def IsLv (out : List (List Nat)) (L : Nat → Nat) : Prop := ∀ i, L i = supL L (out.getD i [])
theorem lv_exists {out : List (List Nat)} {rk : Nat → Nat} (h : Ranked out rk) : ∃ L, IsLv out L := by
  refine ⟨fun i => lvF out (rk i + 1) i, fun i => ?_⟩
  simp only [lvF]
  exact supL_congr fun y hy => lvF_stable h _ _ y (h i y hy) (Nat.lt_succ_self _)
theorem lv_le {out : List (List Nat)} {rk L : Nat → Nat} (h : Ranked out rk) (hL : IsLv out L) : ∀ (k i : Nat), rk i ≤ k → L i ≤ rk i := by
  intro k
  induction k with
  | zero =>
    intro i hi
    rcases (supL_spec L (out.getD i [])).2 with h1 | ⟨y, hy, h1⟩
    · rw [hL i, h1]; omega
    · have := h i y hy; omega
  | succ k ih =>
    intro i hi
    rcases (supL_spec L (out.getD i [])).2 with h1 | ⟨y, hy, h1⟩
    · rw [hL i, h1]; omega
    · have h2 := h i y hy
      have := ih y (by omega)
      rw [hL i, h1]; omega
theorem lv_unique {out out' : List (List Nat)} {rk L L' : Nat → Nat} (h : Ranked out rk) (hm : ∀ i j, j ∈ out.getD i [] ↔ j ∈ out'.getD i []) (hL : IsLv out L) (hL' : IsLv out' L') : ∀ (k i : Nat), rk i ≤ k → L i = L' i := by
  intro k
  induction k with
  | zero =>
    intro i hi
    have e : out.getD i [] = [] := List.eq_nil_iff_forall_not_mem.2 fun y hy => by have := h i y hy; omega
    have e' : out'.getD i [] = [] := List.eq_nil_iff_forall_not_mem.2 fun y hy => by have := h i y ((hm i y).2 hy); omega
    rw [hL i, hL' i, e, e', supL_nil, supL_nil]
  | succ k ih =>
    intro i hi
    rw [hL i, hL' i]
    obtain ⟨k1, k2⟩ := supL_spec L' (out'.getD i [])
    refine supL_eq (fun y hy => ?_) ?_
    · rw [ih y (by have := h i y hy; omega)]
      exact k1 y ((hm i y).1 hy)
    · rcases k2 with k2 | ⟨y, hy, k2⟩
      · exact .inl k2
      · have hy' := (hm i y).2 hy
        exact .inr ⟨y, hy', by rw [ih y (by have := h i y hy'; omega)]; exact k2⟩
/-! ### groups that lead to groups -/
def ofF (gs : List (List Nat)) (x : Nat) : Nat := gs.findIdx fun l => decide (x ∈ l)
section
variable {n : Nat} {R : Nat → Nat → Prop} {gs : List (List Nat)}
theorem ofF_lt (h : Parts n R gs) {x : Nat} (hx : x < n) : ofF gs x < gs.length := by
  obtain ⟨l, hl, hxl⟩ := List.mem_flatten.1 ((h.all x).2 hx)
  exact List.findIdx_lt_length.2 ⟨l, hl, by simpa using hxl⟩
theorem ofF_mem {x : Nat} (hx : ofF gs x < gs.length) : x ∈ gs[ofF gs x] := by
  have h := List.findIdx_getElem (p := fun l => decide (x ∈ l)) (w := hx)
  exact of_decide_eq_true h
theorem apart_idx (h : gs.flatten.Nodup) {i j : Nat} (hi : i < gs.length) (hj : j < gs.length) {x : Nat} (h1 : x ∈ gs[i]) (h2 : x ∈ gs[j]) : i = j := by
  have ha := List.pairwise_iff_getElem.1 (flatten_apart h)
  rcases Nat.lt_trichotomy i j with h3 | h3 | h3
  · exact absurd h2 (ha i j hi hj h3 x h1)
  · exact h3
  · exact absurd h1 (ha j i hj hi h3 x h2)
theorem ofF_eq (h : gs.flatten.Nodup) {i : Nat} (hi : i < gs.length) {x : Nat} (hx : x ∈ gs[i]) : ofF gs x = i := by
  have hlt : ofF gs x < gs.length := List.findIdx_lt_length.2 ⟨gs[i], List.getElem_mem hi, by simpa using hx⟩
  exact apart_idx h hlt hi (ofF_mem hlt) hx
theorem ofF_same (h : Parts n R gs) {x y : Nat} (hx : x < n) (hy : y < n) : ofF gs x = ofF gs y ↔ R x y ∧ R y x := by
  have h1 := ofF_lt h hx
  have h2 := ofF_lt h hy
  have m1 := ofF_mem h1
  have m2 := ofF_mem h2
  constructor
  · intro e
    have : y ∈ gs[ofF gs x] := by
      have : gs[ofF gs x] = gs[ofF gs y] := by congr 1
      rw [this]; exact m2
    exact (h.one _ (List.getElem_mem h1) x m1 y).1 this
  · intro e
    exact (ofF_eq h.nd h1 ((h.one _ (List.getElem_mem h1) x m1 y).2 e)).symm
end
/-- A group leads to another one. -/
def Bel (g : List (List Int)) (gs : List (List Nat)) (i j : Nat) : Prop := i ≠ j ∧ ∃ x y, EdgG g x y ∧ ofF gs x = i ∧ ofF gs y = j
structure Belows (g : List (List Int)) (gs : List (List Nat)) (out : List (List Nat)) : Prop where
  len : out.length = gs.length
  nd : ∀ r ∈ out, r.Nodup
  mem : ∀ i j, j ∈ out.getD i [] ↔ Bel g gs i j
theorem count_lt {p q : Nat → Bool} : ∀ (m : Nat) (k0 : Nat), (∀ k, p k = true → q k = true) → k0 < m → q k0 = true → p k0 = false → (List.range m).countP p < (List.range m).countP q
  | 0, k0, _, h, _, _ => by omega
  | m + 1, k0, h1, h2, h3, h4 => by
    have hle : ∀ m, (List.range m).countP p ≤ (List.range m).countP q := fun m => List.countP_mono_left fun x _ => h1 x
    rw [List.range_succ, List.countP_append, List.countP_append]
    by_cases e : k0 = m
    · subst e
      have := hle k0
      simp [h3, h4]; omega
    · have := count_lt m k0 h1 (by omega) h3 h4
      have h5 : List.countP p [m] ≤ List.countP q [m] := List.countP_mono_left fun x _ => h1 x
      omega
open Classical in
theorem bel_ranked {g : List (List Int)} {gs : List (List Nat)} (h : Parts g.length (Rch (nats (edgesF g))) gs) : ∃ rk : Nat → Nat, (∀ i j, Bel g gs i j → rk j < rk i) ∧ ∀ i, rk i ≤ gs.length := by
  obtain ⟨RG, hRG⟩ : ∃ RG : Nat → Nat → Prop, RG = fun i j => ∃ x y, x < g.length ∧ y < g.length ∧ ofF gs x = i ∧ ofF gs y = j ∧ Rch (nats (edgesF g)) x y := ⟨_, rfl⟩
  refine ⟨fun i => (List.range gs.length).countP fun j => decide (RG i j), fun i j hb => ?_, fun i => by
    have := List.countP_le_length (p := fun j => decide (RG i j)) (l := List.range gs.length)
    simpa using this⟩
  obtain ⟨hne, a, b, hab, rfl, rfl⟩ := hb
  have hr : Rch (nats (edgesF g)) a b := .edge ((nats_edge g a b).2 hab)
  refine count_lt gs.length (ofF gs a) (fun k hk => ?_) (ofF_lt h hab.1) ?_ ?_
  · rw [hRG] at hk ⊢
    simp only [decide_eq_true_eq] at hk ⊢
    obtain ⟨x, y, hx, hy, e1, e2, r⟩ := hk
    have := ((ofF_same h hab.2.1 hx).1 e1.symm).1
    exact ⟨a, y, hab.1, hy, rfl, e2, (hr.trans this).trans r⟩
  · rw [hRG]
    simp only [decide_eq_true_eq]
    exact ⟨a, a, hab.1, hab.1, rfl, rfl, .refl a⟩
  · rw [hRG]
    simp only [decide_eq_false_iff_not]
    rintro ⟨x, y, hx, hy, e1, e2, r⟩
    have h1 := ((ofF_same h hab.2.1 hx).1 e1.symm).1
    have h2 := ((ofF_same h hab.1 hy).1 e2.symm).2
    exact hne ((ofF_same h hab.1 hab.2.1).2 ⟨hr, (h1.trans r).trans h2⟩)
/-- The levels of a graph's groups. -/
def LvG (g : List (List Int)) (gs : List (List Nat)) (L : Nat → Nat) : Prop := ∀ i, (∀ j, Bel g gs i j → L j + 1 ≤ L i) ∧ (L i = 0 ∨ ∃ j, Bel g gs i j ∧ L i = L j + 1)
theorem lvG_isLv {g : List (List Int)} {gs out : List (List Nat)} {L : Nat → Nat} (hb : Belows g gs out) : LvG g gs L ↔ IsLv out L := by
  constructor
  · intro h i
    refine (supL_eq (fun y hy => (h i).1 y ((hb.mem i y).1 hy)) ?_).symm
    rcases (h i).2 with h1 | ⟨j, h1, h2⟩
    · exact .inl h1
    · exact .inr ⟨j, (hb.mem i j).2 h1, h2⟩
  · intro h i
    obtain ⟨k1, k2⟩ := supL_spec L (out.getD i [])
    rw [← h i] at k1 k2
    refine ⟨fun j hj => k1 j ((hb.mem i j).2 hj), ?_⟩
    rcases k2 with k2 | ⟨y, hy, k2⟩
    · exact .inl k2
    · exact .inr ⟨y, (hb.mem i y).1 hy, k2⟩
theorem bel_lt {g : List (List Int)} {gs : List (List Nat)} (h : Parts g.length (Rch (nats (edgesF g))) gs) {i j : Nat} (hb : Bel g gs i j) : i < gs.length ∧ j < gs.length := by
  obtain ⟨-, x, y, hxy, rfl, rfl⟩ := hb
  exact ⟨ofF_lt h hxy.1, ofF_lt h hxy.2.1⟩
theorem lvG_le {g : List (List Int)} {gs : List (List Nat)} {L : Nat → Nat} (h : Parts g.length (Rch (nats (edgesF g))) gs) (hL : LvG g gs L) (i : Nat) : L i ≤ gs.length := by
  obtain ⟨rk, h1, h2⟩ := bel_ranked h
  have : ∀ k i, rk i ≤ k → L i ≤ rk i := by
    intro k
    induction k with
    | zero =>
      intro i hi
      rcases (hL i).2 with h3 | ⟨j, hj, h3⟩
      · omega
      · have := h1 i j hj; omega
    | succ k ih =>
      intro i hi
      rcases (hL i).2 with h3 | ⟨j, hj, h3⟩
      · omega
      · have h4 := h1 i j hj
        have := ih j (by omega)
        omega
  exact Nat.le_trans (this _ i (Nat.le_refl _)) (h2 i)
theorem lvG_unique {g : List (List Int)} {gs : List (List Nat)} {L L' : Nat → Nat} (h : Parts g.length (Rch (nats (edgesF g))) gs) (hL : LvG g gs L) (hL' : LvG g gs L') (i : Nat) : L i = L' i := by
  obtain ⟨rk, h1, h2⟩ := bel_ranked h
  have : ∀ k i, rk i ≤ k → L i = L' i := by
    intro k
    induction k with
    | zero =>
      intro i hi
      rcases (hL i).2 with h3 | ⟨j, hj, h3⟩
      · rcases (hL' i).2 with h4 | ⟨j, hj, h4⟩
        · omega
        · have := h1 i j hj; omega
      · have := h1 i j hj; omega
    | succ k ih =>
      intro i hi
      apply Nat.le_antisymm
      · rcases (hL i).2 with h3 | ⟨j, hj, h3⟩
        · omega
        · have := (hL' i).1 j hj
          have := ih j (by have := h1 i j hj; omega)
          omega
      · rcases (hL' i).2 with h3 | ⟨j, hj, h3⟩
        · omega
        · have := (hL i).1 j hj
          have := ih j (by have := h1 i j hj; omega)
          omega
  exact this _ i (Nat.le_refl _)
/-! ### how edges come in, one after the other -/
/-- The edges of the first a rows, and of the first t of row a. -/
def Upto (g : List (List Int)) (a t x y : Nat) : Prop := x < g.length ∧ y < g.length ∧ ((x < a ∧ (y : Int) ∈ g.getD x []) ∨ (x = a ∧ (y : Int) ∈ (g.getD a []).take t))
structure BInv (P : Nat → Nat → Prop) (gs out : List (List Nat)) : Prop where
  len : out.length = gs.length
  nd : ∀ r ∈ out, r.Nodup
  lt : ∀ r ∈ out, ∀ y ∈ r, y < gs.length
  mem : ∀ i j, j ∈ out.getD i [] ↔ i ≠ j ∧ ∃ x y, P x y ∧ ofF gs x = i ∧ ofF gs y = j
theorem BInv.congr {P Q : Nat → Nat → Prop} {gs out : List (List Nat)} (h : BInv P gs out) (e : ∀ x y, P x y ↔ Q x y) : BInv Q gs out :=
  ⟨h.len, h.nd, h.lt, fun i j => by rw [h.mem]; simp only [e]⟩
theorem upto_end (g : List (List Int)) (a x y : Nat) : Upto g a (g.getD a []).length x y ↔ Upto g (a + 1) 0 x y := by
  unfold Upto
  rw [List.take_length]
  simp only [List.take_zero, List.not_mem_nil, and_false, or_false]
  constructor
  · rintro ⟨h1, h2, h3 | ⟨rfl, h3⟩⟩
    · exact ⟨h1, h2, by omega, h3.2⟩
    · exact ⟨h1, h2, by omega, h3⟩
  · rintro ⟨h1, h2, h3, h4⟩
    refine ⟨h1, h2, ?_⟩
    by_cases e : x = a
    · subst e; exact .inr ⟨rfl, h4⟩
    · exact .inl ⟨by omega, h4⟩
theorem upto_skip (g : List (List Int)) {a t : Nat} (ht : t < (g.getD a []).length) (hb : ¬ (0 ≤ (g.getD a [])[t] ∧ (g.getD a [])[t] < (g.length : Int))) (x y : Nat) : Upto g a t x y ↔ Upto g a (t + 1) x y := by
  unfold Upto
  rw [List.take_succ_eq_append_getElem ht]
  simp only [List.mem_append, List.mem_singleton]
  constructor
  · rintro ⟨h1, h2, h3 | ⟨h3, h4⟩⟩
    · exact ⟨h1, h2, .inl h3⟩
    · exact ⟨h1, h2, .inr ⟨h3, .inl h4⟩⟩
  · rintro ⟨h1, h2, h3 | ⟨h3, h4 | h4⟩⟩
    · exact ⟨h1, h2, .inl h3⟩
    · exact ⟨h1, h2, .inr ⟨h3, h4⟩⟩
    · exact absurd ⟨by omega, by omega⟩ hb
theorem upto_take (g : List (List Int)) {a t b : Nat} (ha : a < g.length) (ht : t < (g.getD a []).length) (hb : (g.getD a [])[t] = (b : Int)) (hbn : b < g.length) (x y : Nat) : Upto g a (t + 1) x y ↔ Upto g a t x y ∨ (x = a ∧ y = b) := by
  unfold Upto
  rw [List.take_succ_eq_append_getElem ht, hb]
  simp only [List.mem_append, List.mem_singleton]
  constructor
  · rintro ⟨h1, h2, h3 | ⟨h3, h4 | h4⟩⟩
    · exact .inl ⟨h1, h2, .inl h3⟩
    · exact .inl ⟨h1, h2, .inr ⟨h3, h4⟩⟩
    · exact .inr ⟨h3, by omega⟩
  · rintro (⟨h1, h2, h3 | ⟨h3, h4⟩⟩ | ⟨rfl, rfl⟩)
    · exact ⟨h1, h2, .inl h3⟩
    · exact ⟨h1, h2, .inr ⟨h3, .inl h4⟩⟩
    · exact ⟨ha, hbn, .inr ⟨rfl, .inr rfl⟩⟩
theorem BInv.same {P : Nat → Nat → Prop} {gs out : List (List Nat)} (h : BInv P gs out) {a b : Nat} (hs : ofF gs a = ofF gs b ∨ ofF gs b ∈ out.getD (ofF gs a) []) : BInv (fun x y => P x y ∨ (x = a ∧ y = b)) gs out := by
  refine ⟨h.len, h.nd, h.lt, fun i j => ?_⟩
  rw [h.mem]
  constructor
  · rintro ⟨h1, x, y, h2, h3, h4⟩
    exact ⟨h1, x, y, .inl h2, h3, h4⟩
  · rintro ⟨h1, x, y, h2 | ⟨rfl, rfl⟩, h3, h4⟩
    · exact ⟨h1, x, y, h2, h3, h4⟩
    · rcases hs with hs | hs
      · exact absurd (h3.symm.trans (hs.trans h4)) h1
      · rw [← h3, ← h4]; exact (h.mem _ _).1 hs
theorem BInv.add {P : Nat → Nat → Prop} {gs out : List (List Nat)} (h : BInv P gs out) {a b : Nat} (ha : ofF gs a < gs.length) (hb : ofF gs b < gs.length) (hne : ofF gs a ≠ ofF gs b) (hs : ofF gs b ∉ out.getD (ofF gs a) []) :
    BInv (fun x y => P x y ∨ (x = a ∧ y = b)) gs (out.set (ofF gs a) (out.getD (ofF gs a) [] ++ [ofF gs b])) := by
  have hrow : ofF gs a < out.length := by rw [h.len]; exact ha
  have hg : out.getD (ofF gs a) [] = out[ofF gs a] := by simp [List.getD_eq_getElem?_getD, hrow]
  refine ⟨by simp [h.len], fun r hr => ?_, fun r hr y hy => ?_, fun i j => ?_⟩
  · rcases List.mem_or_eq_of_mem_set hr with h1 | h1
    · exact h.nd r h1
    · subst h1
      rw [List.nodup_append]
      exact ⟨by rw [hg]; exact h.nd _ (List.getElem_mem hrow), by simp, fun u hu v hv e => by simp at hv; subst hv; subst e; exact hs hu⟩
  · rcases List.mem_or_eq_of_mem_set hr with h1 | h1
    · exact h.lt r h1 y hy
    · subst h1
      rcases List.mem_append.1 hy with h2 | h2
      · rw [hg] at h2; exact h.lt _ (List.getElem_mem hrow) y h2
      · simp at h2; subst h2; exact hb
  · rw [getD_set]
    by_cases e : ofF gs a = i
    · subst e
      rw [if_pos ⟨rfl, hrow⟩]
      simp only [List.mem_append, List.mem_singleton]
      rw [h.mem]
      constructor
      · rintro (⟨h1, x, y, h2, h3, h4⟩ | rfl)
        · exact ⟨h1, x, y, .inl h2, h3, h4⟩
        · exact ⟨hne, a, b, .inr ⟨rfl, rfl⟩, rfl, rfl⟩
      · rintro ⟨h1, x, y, h2 | ⟨rfl, rfl⟩, h3, h4⟩
        · exact .inl ⟨h1, x, y, h2, h3, h4⟩
        · exact .inr h4.symm
    · rw [if_neg (fun k => e k.1), h.mem]
      constructor
      · rintro ⟨h1, x, y, h2, h3, h4⟩
        exact ⟨h1, x, y, .inl h2, h3, h4⟩
      · rintro ⟨h1, x, y, h2 | ⟨rfl, rfl⟩, h3, h4⟩
        · exact ⟨h1, x, y, h2, h3, h4⟩
        · exact absurd h3 e
theorem BInv.whole {g : List (List Int)} {gs out : List (List Nat)} (h : BInv (Upto g g.length 0) gs out) : Belows g gs out := by
  refine ⟨h.len, h.nd, fun i j => ?_⟩
  rw [h.mem]
  unfold Bel Upto EdgG
  simp only [List.take_zero, List.not_mem_nil, and_false, or_false]
  constructor
  · rintro ⟨h1, x, y, ⟨h2, h3, h4, h5⟩, h6, h7⟩
    exact ⟨h1, x, y, ⟨h2, h3, h5⟩, h6, h7⟩
  · rintro ⟨h1, x, y, ⟨h2, h3, h5⟩, h6, h7⟩
    exact ⟨h1, x, y, ⟨h2, h3, h2, h5⟩, h6, h7⟩
theorem BInv.none (g : List (List Int)) (gs : List (List Nat)) : BInv (Upto g 0 0) gs (List.replicate gs.length []) := by
  refine ⟨by simp, fun r hr => by rw [List.mem_replicate] at hr; rw [hr.2]; simp, fun r hr y hy => by rw [List.mem_replicate] at hr; rw [hr.2] at hy; simp at hy, fun i j => ?_⟩
  simp only [List.getD_eq_getElem?_getD, List.getElem?_replicate, Upto]
  constructor
  · intro h; split at h <;> simp at h
  · rintro ⟨-, x, y, ⟨-, -, h1 | h1⟩, -⟩
    · omega
    · simp at h1
end Go.Proofs.Ythamopcfpmkbfaa
namespace Go.Proofs.Ythamopcfpmkbfaa
def unkF (kn : List Bool) (row : List Nat) : List Nat := row.filter fun y => !kn.getD y false
theorem unkF_snoc (kn : List Bool) (row : List Nat) (y : Nat) : unkF kn (row ++ [y]) = if kn.getD y false = true then unkF kn row else unkF kn row ++ [y] := by
  unfold unkF
  rw [List.filter_append]
  simp only [List.filter_cons, List.filter_nil]
  cases h : kn.getD y false
  · rfl
  · simp
theorem unkF_mem (kn : List Bool) (row : List Nat) (y : Nat) : y ∈ unkF kn row ↔ y ∈ row ∧ kn.getD y false = false := by
  unfold unkF
  simp
theorem unkF_len (kn : List Bool) (row : List Nat) : (unkF kn row).length ≤ row.length := List.length_filter_le _ _
abbrev LSt := List Nat × List Bool × List Nat
def lvAt (lv : List Nat) (y : Nat) : Nat := lv.getD y 0
theorem lvAt_set (lv : List Nat) (x v y : Nat) : lvAt (lv.set x v) y = if x = y ∧ x < lv.length then v else lvAt lv y := getD_set _ _ _ _ _
inductive LRun (out : List (List Nat)) (B : Nat) : Nat → LSt → LSt → Prop
  | refl (s) : LRun out B 0 s s
  | pop {k lv kn l x t} (hx : x < out.length) (h1 : lv.length = out.length) (h2 : kn.length = out.length) (hl : l.length ≤ B) (hu : unkF kn (out.getD x []) = []) (hs : supL (lvAt lv) (out.getD x []) ≤ out.length)
      (r : LRun out B k (lv.set x (supL (lvAt lv) (out.getD x [])), kn.set x true, l) t) : LRun out B (k + 1) (lv, kn, l ++ [x]) t
  | push {k lv kn l x t} (hx : x < out.length) (h1 : lv.length = out.length) (h2 : kn.length = out.length) (hl : (l ++ [x] ++ unkF kn (out.getD x [])).length ≤ B) (hu : unkF kn (out.getD x []) ≠ []) (hs : ∀ y, lvAt lv y ≤ out.length)
      (r : LRun out B k (lv, kn, l ++ [x] ++ unkF kn (out.getD x [])) t) : LRun out B (k + 1) (lv, kn, l ++ [x]) t
theorem LRun.trans {out : List (List Nat)} {B k k' : Nat} {s t u : LSt} (h : LRun out B k s t) (h' : LRun out B k' t u) : LRun out B (k + k') s u := by
  induction h with
  | refl => rw [Nat.zero_add]; exact h'
  | pop hx h1 h2 hl hu hs _ ih => rw [show ∀ a : Nat, a + 1 + k' = a + k' + 1 by omega]; exact .pop hx h1 h2 hl hu hs (ih h')
  | push hx h1 h2 hl hu hs _ ih => rw [show ∀ a : Nat, a + 1 + k' = a + k' + 1 by omega]; exact .push hx h1 h2 hl hu hs (ih h')
/-- What comes next. -/
theorem LRun.head {out : List (List Nat)} {B k : Nat} {lv lv' : List Nat} {kn kn' : List Bool} {st : List Nat} (h : LRun out B k (lv, kn, st) (lv', kn', [])) (hne : st ≠ []) :
    ∃ k' l x, k = k' + 1 ∧ st = l ++ [x] ∧ x < out.length ∧ lv.length = out.length ∧ kn.length = out.length ∧ l.length + 1 + (unkF kn (out.getD x [])).length ≤ B + 1 ∧
      ((unkF kn (out.getD x []) = [] ∧ supL (lvAt lv) (out.getD x []) ≤ out.length ∧ LRun out B k' (lv.set x (supL (lvAt lv) (out.getD x [])), kn.set x true, l) (lv', kn', [])) ∨
        (unkF kn (out.getD x []) ≠ [] ∧ LRun out B k' (lv, kn, l ++ [x] ++ unkF kn (out.getD x [])) (lv', kn', []))) := by
  cases h with
  | refl => exact absurd rfl hne
  | pop hx h1 h2 hl hu hs r => exact ⟨_, _, _, rfl, rfl, hx, h1, h2, by rw [hu]; simp; omega, .inl ⟨hu, hs, r⟩⟩
  | push hx h1 h2 hl hu hs r => exact ⟨_, _, _, rfl, rfl, hx, h1, h2, by simp only [List.length_append, List.length_cons, List.length_nil] at hl; omega, .inr ⟨hu, r⟩⟩
theorem LRun.over {out : List (List Nat)} {B k : Nat} {lv lv' : List Nat} {kn kn' : List Bool} (h : LRun out B k (lv, kn, []) (lv', kn', [])) : lv = lv' ∧ kn = kn' := by
  generalize hs : (lv, kn, ([] : List Nat)) = s at h
  generalize ht : (lv', kn', ([] : List Nat)) = t at h
  cases h with
  | refl => subst ht; cases hs; exact ⟨rfl, rfl⟩
  | pop => simp at hs
  | push => simp at hs
structure LInv (out : List (List Nat)) (L : Nat → Nat) (lv : List Nat) (kn : List Bool) : Prop where
  l1 : lv.length = out.length
  l2 : kn.length = out.length
  lv0 : ∀ x, lvAt lv x ≤ out.length
  ok : ∀ x, kn.getD x false = true → lvAt lv x = L x ∧ ∀ y ∈ out.getD x [], kn.getD y false = true
theorem LInv.pop {out : List (List Nat)} {L : Nat → Nat} {lv : List Nat} {kn : List Bool} (h : LInv out L lv kn) (hL : IsLv out L) (hb : ∀ x, L x ≤ out.length) {x : Nat} (hx : x < out.length) (hu : unkF kn (out.getD x []) = []) :
    supL (lvAt lv) (out.getD x []) = L x ∧ LInv out L (lv.set x (supL (lvAt lv) (out.getD x []))) (kn.set x true) := by
  have hk : ∀ y ∈ out.getD x [], kn.getD y false = true := fun y hy => by
    cases e : kn.getD y false with
    | true => rfl
    | false =>
      have := (unkF_mem kn (out.getD x []) y).2 ⟨hy, e⟩
      rw [hu] at this; cases this
  have hs : supL (lvAt lv) (out.getD x []) = L x := by
    rw [hL x]
    exact supL_congr fun y hy => (h.ok y (hk y hy)).1
  refine ⟨hs, by simp [h.l1], by simp [h.l2], fun y => ?_, fun y hy => ?_⟩
  · rw [lvAt_set, hs]
    split
    · exact hb x
    · exact h.lv0 y
  · rw [lvAt_set]
    rw [getD_set] at hy
    have keep : ∀ z, kn.getD z false = true → (kn.set x true).getD z false = true := fun z hz => by
      rw [getD_set]; split
      · rfl
      · exact hz
    by_cases e : x = y
    · subst e
      rw [if_pos ⟨rfl, by rw [h.l1]; exact hx⟩]
      exact ⟨hs, fun z hz => keep z (hk z hz)⟩
    · rw [if_neg (fun k => e k.1)] at hy
      rw [if_neg (fun k => e k.1)]
      exact ⟨(h.ok y hy).1, fun z hz => keep z ((h.ok y hy).2 z hz)⟩
section
variable {out : List (List Nat)} {rk L : Nat → Nat} {B : Nat}
def Reaches (out : List (List Nat)) (L : Nat → Nat) (B : Nat) (lv : List Nat) (kn : List Bool) (l goal : List Nat) (S : List Nat) : Prop :=
  ∃ k lv' kn', LRun out B k (lv, kn, l) (lv', kn', S) ∧ LInv out L lv' kn' ∧ (∀ z, kn.getD z false = true → kn'.getD z false = true) ∧ ∀ z ∈ goal, kn'.getD z false = true
/-- All of some nodes, from the last one on. -/
theorem reaches_all {s : Nat} (one : ∀ x S lv kn, x < out.length → rk x < s → LInv out L lv kn → S.length + 1 + rk x * out.length ≤ B → Reaches out L B lv kn (S ++ [x]) [x] S) :
    ∀ (n : Nat) (C S : List Nat) (lv : List Nat) (kn : List Bool), C.length = n → (∀ y ∈ C, y < out.length ∧ rk y < s ∧ S.length + C.length + rk y * out.length ≤ B) → LInv out L lv kn → Reaches out L B lv kn (S ++ C) C S
  | 0, C, S, lv, kn, hn, _, hI => by
    have := List.length_eq_zero_iff.1 hn
    subst this
    exact ⟨0, lv, kn, by rw [List.append_nil]; exact .refl _, hI, fun z hz => hz, by simp⟩
  | n + 1, C, S, lv, kn, hn, hC, hI => by
    rcases List.eq_nil_or_concat C with rfl | ⟨C', c, hc⟩
    · simp at hn
    · rw [List.concat_eq_append] at hc
      subst hc
      obtain ⟨hc1, hc2, hc3⟩ := hC c (by simp)
      simp only [List.length_append, List.length_cons, List.length_nil] at hc3 hn
      obtain ⟨k, lv', kn', hr, hI', hk, hg⟩ := one c (S ++ C') lv kn hc1 hc2 hI (by simp only [List.length_append]; omega)
      obtain ⟨k2, lv2, kn2, hr2, hI2, hk2, hg2⟩ := reaches_all one n C' S lv' kn' (by omega) (fun y hy => by
        obtain ⟨h1, h2, h3⟩ := hC y (by simp [hy])
        simp only [List.length_append, List.length_cons, List.length_nil] at h3
        exact ⟨h1, h2, by omega⟩) hI'
      refine ⟨k + k2, lv2, kn2, ?_, hI2, fun z hz => hk2 z (hk z hz), fun z hz => ?_⟩
      · rw [← List.append_assoc]; exact hr.trans hr2
      · rcases List.mem_append.1 hz with h1 | h1
        · exact hg2 z h1
        · exact hk2 z (hg z h1)
theorem reaches_one (hrk : Ranked out rk) (hL : IsLv out L) (hb : ∀ x, L x ≤ out.length) (hrow : ∀ x, ∀ y ∈ out.getD x [], y < out.length) (hlen : ∀ x, (out.getD x []).length ≤ out.length) :
    ∀ (s : Nat) (x : Nat) (S : List Nat) (lv : List Nat) (kn : List Bool), x < out.length → rk x < s → LInv out L lv kn → S.length + 1 + rk x * out.length ≤ B → Reaches out L B lv kn (S ++ [x]) [x] S
  | 0, x, S, lv, kn, _, h, _, _ => by omega
  | s + 1, x, S, lv, kn, hx, hs, hI, hB => by
    by_cases hu : unkF kn (out.getD x []) = []
    · obtain ⟨h1, h2⟩ := hI.pop hL hb hx hu
      refine ⟨1, _, _, .pop hx hI.l1 hI.l2 (by omega) hu (by rw [h1]; exact hb x) (.refl _), h2, fun z hz => ?_, fun z hz => ?_⟩
      · rw [getD_set]; split
        · rfl
        · exact hz
      · simp at hz; subst hz
        rw [getD_set_same _ _ (by rw [hI.l2]; exact hx)]
    · have hul := unkF_len kn (out.getD x [])
      have hxl := hlen x
      have hrow' : ∀ y ∈ unkF kn (out.getD x []), y < out.length ∧ rk y < s ∧ (S ++ [x]).length + (unkF kn (out.getD x [])).length + rk y * out.length ≤ B := fun y hy => by
        have hy' := ((unkF_mem _ _ _).1 hy).1
        have h3 := hrk x y hy'
        refine ⟨hrow x y hy', by omega, ?_⟩
        have h4 : (rk y + 1) * out.length ≤ rk x * out.length := Nat.mul_le_mul_right _ h3
        rw [Nat.add_mul, Nat.one_mul] at h4
        simp only [List.length_append, List.length_cons, List.length_nil]
        omega
      obtain ⟨y0, hy0⟩ := List.exists_mem_of_ne_nil _ hu
      have hB2 := (hrow' y0 hy0).2.2
      obtain ⟨k, lv', kn', hr, hI', hk, hg⟩ := reaches_all (reaches_one hrk hL hb hrow hlen s) _ (unkF kn (out.getD x [])) (S ++ [x]) lv kn rfl hrow' hI
      have hu' : unkF kn' (out.getD x []) = [] := List.eq_nil_iff_forall_not_mem.2 fun y hy => by
        obtain ⟨h1, h2⟩ := (unkF_mem _ _ _).1 hy
        have : kn'.getD y false = true := by
          cases e : kn.getD y false with
          | true => exact hk y e
          | false => exact hg y ((unkF_mem _ _ _).2 ⟨h1, e⟩)
        rw [this] at h2; cases h2
      obtain ⟨h1, h2⟩ := hI'.pop hL hb hx hu'
      refine ⟨k + 1 + 1, _, _, .push hx hI.l1 hI.l2 (by simp only [List.length_append, List.length_cons, List.length_nil] at hB2 ⊢; omega) hu hI.lv0 (hr.trans (.pop hx hI'.l1 hI'.l2 (by omega) hu' (by rw [h1]; exact hb x) (.refl _))), h2, fun z hz => ?_, fun z hz => ?_⟩
      · have := hk z hz
        rw [getD_set]; split
        · rfl
        · exact this
      · simp at hz; subst hz
        rw [getD_set_same _ _ (by rw [hI'.l2]; exact hx)]
end
/-- What is known behind the first i nodes. -/
inductive LGo (out : List (List Nat)) (B : Nat) : Nat → List Nat × List Bool → List Nat → Prop
  | done {lv kn} (h1 : lv.length = out.length) (h2 : kn.length = out.length) : LGo out B out.length (lv, kn) lv
  | step {i k lv kn lv' kn' t} (hi : i < out.length) (h1 : lv.length = out.length) (h2 : kn.length = out.length) (hr : LRun out B k (lv, kn, [i]) (lv', kn', [])) (r : LGo out B (i + 1) (lv', kn') t) : LGo out B i (lv, kn) t
theorem LGo.head {out : List (List Nat)} {B i : Nat} {lv t : List Nat} {kn : List Bool} (h : LGo out B i (lv, kn) t) (hi : i < out.length) :
    ∃ k lv' kn', lv.length = out.length ∧ kn.length = out.length ∧ LRun out B k (lv, kn, [i]) (lv', kn', []) ∧ LGo out B (i + 1) (lv', kn') t := by
  cases h with
  | done => omega
  | step _ h1 h2 hr r => exact ⟨_, _, _, h1, h2, hr, r⟩
theorem LGo.over {out : List (List Nat)} {B i : Nat} {lv t : List Nat} {kn : List Bool} (h : LGo out B i (lv, kn) t) (hi : ¬ i < out.length) : lv = t := by
  cases h with
  | done => rfl
  | step hi' => exact absurd hi' hi
theorem lgo_exists {out : List (List Nat)} {rk L : Nat → Nat} {B : Nat} (hrk : Ranked out rk) (hL : IsLv out L) (hrl : ∀ x, rk x ≤ out.length) (hrow : ∀ x, ∀ y ∈ out.getD x [], y < out.length) (hlen : ∀ x, (out.getD x []).length ≤ out.length) (hB : 1 + out.length * out.length ≤ B) :
    ∀ (n i : Nat) (lv : List Nat) (kn : List Bool), i + n = out.length → LInv out L lv kn → (∀ x, x < i → kn.getD x false = true) → LGo out B i (lv, kn) ((List.range out.length).map L)
  | 0, i, lv, kn, hi, hI, hk => by
    have : i = out.length := by omega
    subst this
    have e : lv = (List.range out.length).map L := by
      apply List.ext_getElem
      · simp [hI.l1]
      · intro j h1 h2
        have hj : j < out.length := by rw [← hI.l1]; exact h1
        have := (hI.ok j (hk j hj)).1
        simp [lvAt, List.getD_eq_getElem?_getD, h1] at this
        simp [this]
    rw [← e]
    exact .done hI.l1 hI.l2
  | n + 1, i, lv, kn, hi, hI, hk => by
    have hb : ∀ x, L x ≤ out.length := fun x => Nat.le_trans (lv_le hrk hL _ x (Nat.le_refl _)) (hrl x)
    have hlt : i < out.length := by omega
    obtain ⟨k, lv', kn', hr, hI', hk', hg⟩ := reaches_one (B := B) hrk hL hb hrow hlen (rk i + 1) i [] lv kn hlt (Nat.lt_succ_self _) hI (by
      have h1 : rk i * out.length ≤ out.length * out.length := Nat.mul_le_mul_right _ (hrl i)
      simp only [List.length_nil]; omega)
    exact .step hlt hI.l1 hI.l2 hr (lgo_exists hrk hL hrl hrow hlen hB n (i + 1) lv' kn' (by omega) hI' fun x hx => by
      by_cases e : x = i
      · subst e; exact hg x (by simp)
      · exact hk' x (hk x (by omega)))
theorem lgo_begin {out : List (List Nat)} {rk L : Nat → Nat} {B : Nat} (hrk : Ranked out rk) (hL : IsLv out L) (hrl : ∀ x, rk x ≤ out.length) (hrow : ∀ x, ∀ y ∈ out.getD x [], y < out.length) (hlen : ∀ x, (out.getD x []).length ≤ out.length) (hB : 1 + out.length * out.length ≤ B) :
    LGo out B 0 (List.replicate out.length 0, List.replicate out.length false) ((List.range out.length).map L) := by
  refine lgo_exists hrk hL hrl hrow hlen hB out.length 0 _ _ (by omega) ⟨by simp, by simp, fun x => ?_, fun x hx => ?_⟩ (fun x hx => by omega)
  · simp only [lvAt, List.getD_eq_getElem?_getD, List.getElem?_replicate]; split <;> simp
  · simp only [List.getD_eq_getElem?_getD, List.getElem?_replicate] at hx; split at hx <;> simp at hx
/-- What the groups' levels are found to be. -/
theorem levels_course {g : List (List Int)} {gs out : List (List Nat)} (h : Parts g.length (Rch (nats (edgesF g))) gs) (hb : Belows g gs out) (hm : out.length ≤ 100000) :
    ∃ L, LvG g gs L ∧ (∀ i, L i ≤ gs.length) ∧ LGo out 10000000001 0 (List.replicate out.length 0, List.replicate out.length false) ((List.range gs.length).map L) := by
  obtain ⟨rk, h1, h2⟩ := bel_ranked h
  have hrk : Ranked out rk := fun i j hj => h1 i j ((hb.mem i j).1 hj)
  obtain ⟨L, hL⟩ := lv_exists hrk
  have hLG := (lvG_isLv hb).2 hL
  refine ⟨L, hLG, lvG_le h hLG, ?_⟩
  rw [← hb.len]
  refine lgo_begin hrk hL (fun x => by rw [hb.len]; exact h2 x) (fun x y hy => ?_) (fun x => ?_) ?_
  · rw [hb.len]; exact (bel_lt h ((hb.mem x y).1 hy)).2
  · by_cases hx : x < out.length
    · have e : out.getD x [] = out[x] := by simp [List.getD_eq_getElem?_getD, hx]
      rw [e]
      refine nodup_le _ _ (hb.nd _ (List.getElem_mem hx)) fun y hy => ?_
      rw [← e] at hy
      rw [hb.len]; exact (bel_lt h ((hb.mem x y).1 hy)).2
    · rw [List.getD_eq_getElem?_getD, List.getElem?_eq_none (by omega)]; simp
  · have : out.length * out.length ≤ 100000 * 100000 := Nat.mul_le_mul hm hm
    omega
end Go.Proofs.Ythamopcfpmkbfaa
namespace Go.Proofs.Ythamopcfpmkbfaa
structure OfTo (n : Nat) (gs : List (List Nat)) (pre arr : List Nat) : Prop where
  len : arr.length = n
  at_ : ∀ y ∈ pre, arr.getD y 0 = ofF gs y
theorem OfTo.begin (n : Nat) (gs : List (List Nat)) : OfTo n gs [] (List.replicate n 0) := ⟨by simp, by simp⟩
theorem OfTo.snoc {n : Nat} {gs : List (List Nat)} {pre arr : List Nat} (h : OfTo n gs pre arr) (hnd : gs.flatten.Nodup) {i : Nat} (hi : i < gs.length) {x : Nat} (hx : x ∈ gs[i]) (hn : x < n) : OfTo n gs (pre ++ [x]) (arr.set x i) := by
  have e := ofF_eq hnd hi hx
  refine ⟨by simp [h.len], fun y hy => ?_⟩
  rw [getD_set]
  by_cases k : x = y
  · subst k; rw [if_pos ⟨rfl, by rw [h.len]; exact hn⟩, e]
  · rw [if_neg (fun k' => k k'.1)]
    rcases List.mem_append.1 hy with h1 | h1
    · exact h.at_ y h1
    · simp at h1; exact absurd h1.symm k
def ofA (n : Nat) (gs : List (List Nat)) : List Nat := (List.range n).map (ofF gs)
theorem ofA_len (n : Nat) (gs : List (List Nat)) : (ofA n gs).length = n := by simp [ofA]
theorem ofA_get {n : Nat} {gs : List (List Nat)} {x : Nat} (h : x < n) : (ofA n gs)[x]'(by rw [ofA_len]; exact h) = ofF gs x := by simp [ofA]
theorem OfTo.whole {n : Nat} {gs : List (List Nat)} {pre arr : List Nat} (h : OfTo n gs pre arr) (hall : ∀ y, y < n → y ∈ pre) : arr = ofA n gs := by
  apply List.ext_getElem
  · rw [ofA_len, h.len]
  · intro i h1 h2
    have hi : i < n := by rw [← h.len]; exact h1
    have := h.at_ i (hall i hi)
    rw [ofA_get hi, ← this]
    simp [List.getD_eq_getElem?_getD, h1]
theorem take_flat {gs : List (List Nat)} {i : Nat} (hi : i < gs.length) : (gs.take (i + 1)).flatten = (gs.take i).flatten ++ gs[i] := by
  rw [List.take_succ_eq_append_getElem hi, List.flatten_append]; simp
end Go.Proofs.Ythamopcfpmkbfaa
namespace Go.Proofs.Ythamopcfpmkbfaa
def padF (out : List (List Nat)) (n : Nat) : List (List Nat) := out ++ List.replicate (n + 1 - out.length) []
def wvStep (out : List (List Nat)) (i n : Nat) : List (List Nat) := (padF out n).set n ((padF out n).getD n [] ++ [i])
def wavesF (lv : List Nat) : Nat → List (List Nat)
  | 0 => []
  | i + 1 => wvStep (wavesF lv i) i (lv.getD i 0)
theorem padF_len (out : List (List Nat)) (n : Nat) : (padF out n).length = max out.length (n + 1) := by simp [padF]; omega
theorem padF_lt (out : List (List Nat)) (n : Nat) : n < (padF out n).length := by rw [padF_len]; omega
theorem wvStep_len (out : List (List Nat)) (i n : Nat) : (wvStep out i n).length = max out.length (n + 1) := by rw [wvStep, List.length_set, padF_len]
theorem padF_mem {out : List (List Nat)} {n : Nat} {r : List Nat} (h : r ∈ padF out n) : r ∈ out ∨ r = [] := by
  unfold padF at h
  rcases List.mem_append.1 h with h | h
  · exact .inl h
  · rw [List.mem_replicate] at h; exact .inr h.2
theorem wavesF_row {lv : List Nat} : ∀ {i : Nat} {r : List Nat}, r ∈ wavesF lv i → r.length ≤ i
  | 0, r, h => by simp [wavesF] at h
  | i + 1, r, h => by
    unfold wavesF wvStep at h
    rcases List.mem_or_eq_of_mem_set h with h1 | h1
    · rcases padF_mem h1 with h2 | h2
      · have := wavesF_row h2; omega
      · subst h2; simp
    · subst h1
      rw [List.length_append, List.length_cons, List.length_nil]
      have h2 := padF_lt (wavesF lv i) (lv.getD i 0)
      rw [List.getD_eq_getElem?_getD, List.getElem?_eq_getElem h2, Option.getD_some]
      rcases padF_mem (List.getElem_mem h2) with h3 | h3
      · have := wavesF_row h3; omega
      · rw [h3]; simp
theorem wavesF_len {lv : List Nat} {M : Nat} (h : ∀ i, lv.getD i 0 + 1 ≤ M) : ∀ (i : Nat), (wavesF lv i).length ≤ M
  | 0 => by simp [wavesF]
  | i + 1 => by
    rw [wavesF, wvStep_len]
    have := wavesF_len h i
    have := h i
    omega
theorem padF_pad {out : List (List Nat)} {n : Nat} (h : out.length ≤ n) : padF (out ++ [[]]) n = padF out n := by
  unfold padF
  rw [List.append_assoc, List.length_append, List.length_cons, List.length_nil]
  congr 1
  rw [show n + 1 - out.length = (n + 1 - (out.length + (0 + 1))) + 1 by omega, List.replicate_succ]
  rfl
theorem padF_done {out : List (List Nat)} {n : Nat} (h : n < out.length) : padF out n = out := by
  unfold padF
  rw [show n + 1 - out.length = 0 by omega]
  simp
end Go.Proofs.Ythamopcfpmkbfaa
namespace Go.Proofs.Ythamopcfpmkbfaa
structure RInv (gs : List (List Nat)) (Lv : Nat → Nat) (r i : Nat) (P : Nat → Nat → Prop) (arr : List Nat) : Prop where
  len : arr.length = gs.length
  up : ∀ j, lvAt arr j ≤ Lv j
  lo : ∀ j, j < gs.length → min (Lv j) r ≤ lvAt arr j
  lo1 : ∀ j, j < i → min (Lv j) (r + 1) ≤ lvAt arr j
  pr : ∀ x y, P x y → ofF gs y ≠ i → min (Lv (ofF gs y)) r + 1 ≤ lvAt arr i
theorem RInv.congr {gs : List (List Nat)} {Lv : Nat → Nat} {r i : Nat} {P Q : Nat → Nat → Prop} {arr : List Nat} (h : RInv gs Lv r i P arr) (e : ∀ x y, Q x y → P x y) : RInv gs Lv r i Q arr :=
  ⟨h.len, h.up, h.lo, h.lo1, fun x y hq => h.pr x y (e x y hq)⟩
theorem RInv.begin (gs : List (List Nat)) (Lv : Nat → Nat) : RInv gs Lv 0 0 (fun _ _ => False) (List.replicate gs.length 0) :=
  ⟨by simp, fun j => by simp only [lvAt, List.getD_eq_getElem?_getD, List.getElem?_replicate]; split <;> simp, fun j hj => by simp, fun j hj => by omega, fun x y h => h.elim⟩
theorem RInv.skip {gs : List (List Nat)} {Lv : Nat → Nat} {r i : Nat} {P : Nat → Nat → Prop} {arr : List Nat} (h : RInv gs Lv r i P arr) {x0 y0 : Nat} (he : ofF gs y0 = i) : RInv gs Lv r i (fun x y => P x y ∨ (x = x0 ∧ y = y0)) arr :=
  ⟨h.len, h.up, h.lo, h.lo1, fun x y hp hne => by
    rcases hp with hp | ⟨rfl, rfl⟩
    · exact h.pr x y hp hne
    · exact absurd he hne⟩
theorem RInv.add {gs : List (List Nat)} {Lv : Nat → Nat} {r i : Nat} {P : Nat → Nat → Prop} {arr : List Nat} (h : RInv gs Lv r i P arr) (hi : i < gs.length) {x0 y0 : Nat} (hz : ofF gs y0 < gs.length) (hl : Lv (ofF gs y0) + 1 ≤ Lv i) :
    RInv gs Lv r i (fun x y => P x y ∨ (x = x0 ∧ y = y0)) (arr.set i (max (lvAt arr i) (lvAt arr (ofF gs y0) + 1))) := by
  have hai : i < arr.length := by rw [h.len]; exact hi
  have ge : ∀ j, lvAt arr j ≤ lvAt (arr.set i (max (lvAt arr i) (lvAt arr (ofF gs y0) + 1))) j := fun j => by
    rw [lvAt_set]
    split
    · rename_i e; rw [← e.1]; omega
    · omega
  have at_i : lvAt (arr.set i (max (lvAt arr i) (lvAt arr (ofF gs y0) + 1))) i = max (lvAt arr i) (lvAt arr (ofF gs y0) + 1) := by rw [lvAt_set, if_pos ⟨rfl, hai⟩]
  refine ⟨by simp [h.len], fun j => ?_, fun j hj => Nat.le_trans (h.lo j hj) (ge j), fun j hj => Nat.le_trans (h.lo1 j hj) (ge j), fun x y hp hne => ?_⟩
  · rw [lvAt_set]
    split
    · rename_i e
      rw [← e.1]
      have h1 := h.up i
      have h2 := h.up (ofF gs y0)
      omega
    · exact h.up j
  · rcases hp with hp | ⟨rfl, rfl⟩
    · exact Nat.le_trans (h.pr x y hp hne) (ge i)
    · rw [at_i]
      have := h.lo _ hz
      omega
theorem RInv.next {g : List (List Int)} {gs : List (List Nat)} {Lv : Nat → Nat} {r i : Nat} {P : Nat → Nat → Prop} {arr : List Nat} (h : RInv gs Lv r i P arr) (hL : LvG g gs Lv) (hall : ∀ x y, EdgG g x y → ofF gs x = i → P x y) : RInv gs Lv r (i + 1) (fun _ _ => False) arr := by
  refine ⟨h.len, h.up, h.lo, fun j hj => ?_, fun x y hp => hp.elim⟩
  by_cases e : j = i
  · subst e
    rcases (hL j).2 with h1 | ⟨z, hz, h1⟩
    · rw [h1]; omega
    · obtain ⟨hne, x, y, hxy, hx, hy⟩ := hz
      have := h.pr x y (hall x y hxy hx) (by rw [hy]; exact Ne.symm hne)
      rw [hy] at this
      omega
  · exact h.lo1 j (by omega)
theorem RInv.round {gs : List (List Nat)} {Lv : Nat → Nat} {r : Nat} {P : Nat → Nat → Prop} {arr : List Nat} (h : RInv gs Lv r gs.length P arr) : RInv gs Lv (r + 1) 0 (fun _ _ => False) arr :=
  ⟨h.len, h.up, h.lo1, fun j hj => by omega, fun x y hp => hp.elim⟩
theorem RInv.whole {gs : List (List Nat)} {Lv : Nat → Nat} {i : Nat} {P : Nat → Nat → Prop} {arr : List Nat} (h : RInv gs Lv gs.length i P arr) (hb : ∀ j, Lv j ≤ gs.length) : arr = (List.range gs.length).map Lv := by
  apply List.ext_getElem
  · simp [h.len]
  · intro j h1 h2
    have hj : j < gs.length := by rw [← h.len]; exact h1
    have k1 := h.up j
    have k2 := h.lo j hj
    have k3 := hb j
    have k4 : lvAt arr j = arr[j] := by simp [lvAt, List.getD_eq_getElem?_getD, h1]
    rw [k4] at k1 k2
    simp
    omega
/-- The edges of a group's first k nodes, and of node x the first t. -/
def GUp (g : List (List Int)) (row : List Nat) (k t x0 x y : Nat) : Prop := EdgG g x y ∧ (x ∈ row.take k ∨ (x = x0 ∧ (y : Int) ∈ (g.getD x0 []).take t))
theorem gup_skip (g : List (List Int)) (row : List Nat) {k t x0 : Nat} (ht : t < (g.getD x0 []).length) (hb : ¬ (0 ≤ (g.getD x0 [])[t] ∧ (g.getD x0 [])[t] < (g.length : Int))) (x y : Nat) (h : GUp g row k (t + 1) x0 x y) : GUp g row k t x0 x y := by
  obtain ⟨h1, h2 | ⟨h2, h3⟩⟩ := h
  · exact ⟨h1, .inl h2⟩
  · rw [List.take_succ_eq_append_getElem ht] at h3
    rcases List.mem_append.1 h3 with h4 | h4
    · exact ⟨h1, .inr ⟨h2, h4⟩⟩
    · simp only [List.mem_singleton] at h4
      have := h1.2.1
      exact absurd ⟨by omega, by omega⟩ hb
theorem gup_take (g : List (List Int)) (row : List Nat) {k t x0 b : Nat} (ht : t < (g.getD x0 []).length) (hb : (g.getD x0 [])[t] = (b : Int)) (x y : Nat) (h : GUp g row k (t + 1) x0 x y) : GUp g row k t x0 x y ∨ (x = x0 ∧ y = b) := by
  obtain ⟨h1, h2 | ⟨h2, h3⟩⟩ := h
  · exact .inl ⟨h1, .inl h2⟩
  · rw [List.take_succ_eq_append_getElem ht, hb] at h3
    rcases List.mem_append.1 h3 with h4 | h4
    · exact .inl ⟨h1, .inr ⟨h2, h4⟩⟩
    · simp only [List.mem_singleton] at h4
      exact .inr ⟨h2, by omega⟩
theorem gup_end (g : List (List Int)) (row : List Nat) {k x0 x1 : Nat} (hk : k < row.length) (hx : row[k] = x0) (x y : Nat) (h : GUp g row (k + 1) 0 x1 x y) : GUp g row k (g.getD x0 []).length x0 x y := by
  obtain ⟨h1, h2 | ⟨h2, h3⟩⟩ := h
  · rw [List.take_succ_eq_append_getElem hk] at h2
    rcases List.mem_append.1 h2 with h4 | h4
    · exact ⟨h1, .inl h4⟩
    · simp only [List.mem_singleton] at h4
      refine ⟨h1, .inr ⟨by rw [h4, hx], ?_⟩⟩
      rw [List.take_length, ← hx, ← h4]
      exact h1.2.2
  · simp at h3
theorem gup_move (g : List (List Int)) (row : List Nat) {k x0 x1 : Nat} (x y : Nat) (h : GUp g row k 0 x1 x y) : GUp g row k 0 x0 x y := by
  obtain ⟨h1, h2 | ⟨h2, h3⟩⟩ := h
  · exact ⟨h1, .inl h2⟩
  · simp at h3
end Go.Proofs.Ythamopcfpmkbfaa
