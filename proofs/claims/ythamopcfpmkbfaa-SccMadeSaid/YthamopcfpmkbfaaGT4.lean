/- Tarjan's groups, in plain words: the course comes to its end, and what the groups are then. No condition but that the graph is small. -/
import Derived.Test.YthamopcfpmkbfaaGT3
namespace Go.Proofs.Ythamopcfpmkbfaa
variable {n : Nat} {out : List (List Nat)} {r st : List (Nat × Nat)} {s : Fnd} {x i : Nat}
def wt (out : List (List Nat)) (s : Fnd) (y : Nat) : Nat := if s.nm y = 0 then (out.getD y []).length + 2 else 0
def fr (out : List (List Nat)) (p : Nat × Nat) : Nat := (out.getD p.1 []).length - p.2 + 1
def meas (n : Nat) (out : List (List Nat)) (st : List (Nat × Nat)) (s : Fnd) : Nat := ((List.range n).map (wt out s)).sum + (st.map (fr out)).sum
theorem sum_same : ∀ (n : Nat) (f g : Nat → Nat), (∀ z, z < n → f z = g z) → ((List.range n).map f).sum = ((List.range n).map g).sum
  | 0, f, g, h => rfl
  | n + 1, f, g, h => by
    simp only [List.range_succ, List.map_append, List.sum_append, List.map_cons, List.map_nil, List.sum_cons, List.sum_nil]
    rw [sum_same n f g fun z hz => h z (by omega), h n (by omega)]
theorem sum_one : ∀ (n : Nat) (f g : Nat → Nat) (y : Nat), y < n → (∀ z, z ≠ y → f z = g z) → ((List.range n).map f).sum + g y = ((List.range n).map g).sum + f y
  | 0, f, g, y, hy, h => by omega
  | n + 1, f, g, y, hy, h => by
    simp only [List.range_succ, List.map_append, List.sum_append, List.map_cons, List.map_nil, List.sum_cons, List.sum_nil]
    by_cases e : y = n
    · subst e
      rw [sum_same y f g fun z hz => h z (by omega)]
      omega
    · have := sum_one n f g y (by omega) h
      have := h n (Ne.symm e)
      omega
theorem leaveF_stay (h : s.lw x < s.nm x) : leaveF s x = s := by unfold leaveF; rw [if_pos h]
theorem leaveF_close (h : ¬ s.lw x < s.nm x) : leaveF s x = closeF s x := by unfold leaveF; rw [if_neg h]; rfl
theorem lowUp_self {u m : Nat} (hu : u < s.low.length) (h : s.lw u ≤ m) : lowUp s u m = s := by
  obtain ⟨out, num, low, opn, is, count, groups⟩ := s
  have h' : low.getD u 0 ≤ m := h
  have hu' : u < low.length := hu
  simp only [lowUp, Nat.min_eq_left h']
  rw [List.getD_eq_getElem?_getD, List.getElem?_eq_getElem hu', Option.getD_some, List.set_getElem_self]
theorem progress (h : Inv n out ((x, i) :: r) s) : ∃ st' s', Round n ((x, i) :: r, s) (st', s') ∧ Inv n out st' s' ∧ meas n out st' s' < meas n out ((x, i) :: r) s ∧ ∀ z, s.nm z ≠ 0 → s'.nm z ≠ 0 := by
  have ho := h.o
  subst ho
  have hs := h.safe
  have hxo : x ∈ s.opn := h.so x (by simp)
  have hx := h.on x hxo
  have hstl := h.stlen
  have htot := h.total
  simp only [List.length_cons] at hstl
  by_cases hi : i < (s.out.getD x []).length
  · have hy := h.edge_lt (edge_at hi)
    have hfr : fr s.out (x, i + 1) + 1 = fr s.out (x, i) := by simp only [fr]; omega
    by_cases h0 : s.nm ((s.out.getD x []).getD i 0) = 0
    · have ht1 := h.total1 hy h0
      have hnew := h.new hi h0
      refine ⟨_, _, .new hs hx (by omega) hi h0 (by rw [h.cnt]; omega) (by omega), hnew, ?_, fun z hz => ?_⟩
      · have nmy : (enterF s ((s.out.getD x []).getD i 0)).nm ((s.out.getD x []).getD i 0) = s.count + 1 := getD_set_same _ _ (by rw [h.nl]; exact hy)
        have hsum := sum_one n (wt s.out (enterF s ((s.out.getD x []).getD i 0))) (wt s.out s) _ hy (fun z hz => by
          have : (enterF s ((s.out.getD x []).getD i 0)).nm z = s.nm z := getD_set_ne _ _ (Ne.symm hz)
          simp only [wt, this])
        have e1 : wt s.out (enterF s ((s.out.getD x []).getD i 0)) ((s.out.getD x []).getD i 0) = 0 := by
          unfold wt; rw [if_neg (by rw [nmy]; omega)]
        have e2 : wt s.out s ((s.out.getD x []).getD i 0) = (s.out.getD ((s.out.getD x []).getD i 0) []).length + 2 := by
          unfold wt; rw [if_pos h0]
        have e3 : fr s.out ((s.out.getD x []).getD i 0, 0) = (s.out.getD ((s.out.getD x []).getD i 0) []).length + 1 := by simp [fr]
        simp only [meas, List.map_cons, List.sum_cons]
        omega
      · by_cases e : z = (s.out.getD x []).getD i 0
        · subst e; exact absurd h0 hz
        · have : (enterF s ((s.out.getD x []).getD i 0)).nm z = s.nm z := getD_set_ne _ _ (Ne.symm e)
          rw [this]; exact hz
    · cases h1 : s.is.getD ((s.out.getD x []).getD i 0) false with
      | true =>
        refine ⟨_, _, .back hs hx (by omega) hi h0 h1, h.back hi h1, ?_, fun z hz => hz⟩
        have : ((List.range n).map (wt s.out (lowUp s x (s.num.getD ((s.out.getD x []).getD i 0) 0)))).sum = ((List.range n).map (wt s.out s)).sum := rfl
        simp only [meas, List.map_cons, List.sum_cons]
        omega
      | false =>
        refine ⟨_, _, .cross hs hx (by omega) hi h0 h1, h.cross hi h0 h1, ?_, fun z hz => hz⟩
        simp only [meas, List.map_cons, List.sum_cons]
        omega
  · have hfr : 0 < fr s.out (x, i) := by simp [fr]
    have hml : x ∈ s.opn ∧ s.groups.length < s.num.length := by
      have := h.glen
      have := List.length_pos_of_mem hxo
      rw [h.nl]
      exact ⟨hxo, by omega⟩
    by_cases hlt : s.lw x < s.nm x
    · obtain ⟨u, j, r', rfl, hup⟩ := h.up hi hlt
      have huo : u ∈ s.opn := h.so u (by simp)
      have hne : u ≠ x := fun e => h.top_out (by rw [← e]; simp)
      have hlx : (lowUp s u (s.lw x)).lw x = s.lw x := getD_set_ne _ _ hne
      have hl2 : (lowUp s u (s.lw x)).lw x < (lowUp s u (s.lw x)).nm x := by rw [hlx]; exact hlt
      refine ⟨_, _, .up hs hx (h.on u huo) (by simp only [List.length_cons] at hstl; omega) hi (.inl hl2), ?_, ?_, fun z hz => ?_⟩
      · rw [leaveF_stay hl2]; exact hup
      · rw [leaveF_stay hl2]
        have : ((List.range n).map (wt s.out (lowUp s u (s.lw x)))).sum = ((List.range n).map (wt s.out s)).sum := rfl
        simp only [meas, List.map_cons, List.sum_cons]
        omega
      · rw [leaveF_stay hl2]; exact hz
    · have hcl := h.close hi hlt
      cases r with
      | nil =>
        refine ⟨_, _, .last hs hx hi (.inr hml), ?_, ?_, fun z hz => ?_⟩
        · rw [leaveF_close hlt]; exact hcl
        · rw [leaveF_close hlt]
          have : ((List.range n).map (wt s.out (closeF s x))).sum = ((List.range n).map (wt s.out s)).sum := rfl
          simp only [meas, List.map_cons, List.sum_cons, List.map_nil, List.sum_nil]
          omega
        · rw [leaveF_close hlt]; exact hz
      | cons p r' =>
        obtain ⟨u, j⟩ := p
        have huo : u ∈ s.opn := h.so u (by simp)
        have hux : s.nm u < s.nm x := (List.pairwise_cons.1 h.sd).1 u (by simp)
        have hul : s.lw u ≤ s.nm u := (h.lwOk u (by simp)).1
        have hself : lowUp s u (s.low.getD x 0) = s := lowUp_self (by rw [h.ll]; exact h.on u huo) (by
          have : s.nm x ≤ s.lw x := Nat.le_of_not_lt hlt
          show s.lw u ≤ s.lw x
          omega)
        have hR := Round.up (n := n) (x := x) (i := i) (u := u) (j := j) (st := r') hs hx (h.on u huo) (by simp only [List.length_cons] at hstl; omega) hi (by rw [hself]; exact .inr hml)
        rw [hself] at hR
        refine ⟨_, _, hR, ?_, ?_, fun z hz => ?_⟩
        · rw [leaveF_close hlt]; exact hcl
        · rw [leaveF_close hlt]
          have : ((List.range n).map (wt s.out (closeF s x))).sum = ((List.range n).map (wt s.out s)).sum := rfl
          simp only [meas, List.map_cons, List.sum_cons]
          omega
        · rw [leaveF_close hlt]; exact hz
theorem runs_end : ∀ (M : Nat) (st : List (Nat × Nat)) (s : Fnd), meas n out st s ≤ M → Inv n out st s → ∃ k t, Runs n k st s t ∧ Inv n out [] t ∧ ∀ z, s.nm z ≠ 0 → t.nm z ≠ 0
  | M, [], s, hm, h => ⟨0, s, .done, h, fun _ hz => hz⟩
  | 0, (x, i) :: r, s, hm, h => by
    have : 0 < fr out (x, i) := by simp [fr]
    simp only [meas, List.map_cons, List.sum_cons] at hm
    omega
  | M + 1, (x, i) :: r, s, hm, h => by
    obtain ⟨st', s', hR, hI, hlt, hv⟩ := progress h
    obtain ⟨k, t, hr, hI', hv'⟩ := runs_end M st' s' (by omega) hI
    exact ⟨k + 1, t, .step hR hr, hI', fun z hz => hv' z (hv z hz)⟩
theorem goes_end : ∀ (d i : Nat) (s : Fnd), i + d = n → Inv n out [] s → (∀ j, j < i → s.nm j ≠ 0) → ∃ t, Goes n i s t ∧ Inv n out [] t ∧ ∀ j, j < n → t.nm j ≠ 0
  | 0, i, s, hd, h, hv => by
    have : i = n := by omega
    subst this
    exact ⟨s, .done, h, hv⟩
  | d + 1, i, s, hd, h, hv => by
    have hi : i < n := by omega
    by_cases h0 : s.nm i = 0
    · obtain ⟨hI, hop⟩ := h.begin hi h0
      have ht := h.total1 hi h0
      obtain ⟨k, t', hr, hI', hv'⟩ := runs_end _ _ _ (Nat.le_refl _) hI
      have hni : (enterF s i).nm i = s.count + 1 := getD_set_same _ _ (by rw [h.nl]; exact hi)
      obtain ⟨t, hg, hI'', hall⟩ := goes_end d (i + 1) t' (by omega) hI' (fun j hj => by
        refine hv' j ?_
        by_cases e : j = i
        · subst e; rw [hni]; omega
        · have : (enterF s i).nm j = s.nm j := getD_set_ne _ _ (Ne.symm e)
          rw [this]; exact hv j (by omega))
      exact ⟨t, .go hi h.safe h0 (by rw [h.cnt]; omega) (by omega) hr hg, hI'', hall⟩
    · obtain ⟨t, hg, hI'', hall⟩ := goes_end d (i + 1) s (by omega) h (fun j hj => by
        by_cases e : j = i
        · subst e; exact h0
        · exact hv j (by omega))
      exact ⟨t, .skip hi h.safe h0 hg, hI'', hall⟩
theorem dd_nodup (n : Nat) : ∀ (l acc : List Int), acc.Nodup → (dd n acc l).Nodup
  | [], acc, h => h
  | b :: l, acc, h => by
    simp only [dd]
    split
    · rename_i hb
      refine dd_nodup n l _ ?_
      rw [List.nodup_append]
      exact ⟨h, by simp, fun a ha c hc e => by simp at hc; subst hc; subst e; exact hb.2.2 ha⟩
    · exact dd_nodup n l acc h
/-- x leads to y. -/
def EdgG (g : List (List Int)) (x y : Nat) : Prop := x < g.length ∧ y < g.length ∧ (y : Int) ∈ g.getD x []
theorem nats_edge (g : List (List Int)) (x y : Nat) : Edg (nats (edgesF g)) x y ↔ EdgG g x y := by
  unfold Edg EdgG nats
  by_cases hx : x < g.length
  · have e1 : (List.map (fun l => List.map Int.toNat l) (edgesF g)).getD x [] = (dd g.length [] g[x]).map Int.toNat := by
      simp [List.getD_eq_getElem?_getD, edgesF, hx]
    have e2 : g.getD x [] = g[x] := by simp [List.getD_eq_getElem?_getD, hx]
    rw [e1, e2, List.mem_map]
    constructor
    · rintro ⟨z, hz, rfl⟩
      rw [dd_mem] at hz
      simp at hz
      refine ⟨hx, by omega, ?_⟩
      rw [Int.toNat_of_nonneg hz.2.1]
      exact hz.1
    · rintro ⟨-, hy, hm⟩
      refine ⟨(y : Int), ?_, by simp⟩
      rw [dd_mem]
      exact .inr ⟨hm, by omega, by omega⟩
  · have e1 : (List.map (fun l => List.map Int.toNat l) (edgesF g)).getD x [] = [] := by
      rw [List.getD_eq_getElem?_getD, List.getElem?_eq_none (by simp [edgesF]; omega)]; rfl
    rw [e1]
    simp
    omega
theorem inv0 (g : List (List Int)) (hn : g.length ≤ 100000) : Inv g.length (nats (edgesF g)) [] (fnd0 g) := {
  o := rfl
  ol := by simp [nats, edgesF]
  rows := fun r hr => by
    obtain ⟨l, hl, rfl⟩ := List.mem_map.1 hr
    obtain ⟨l', hl', rfl⟩ := List.mem_map.1 hl
    have hb : ∀ z ∈ dd g.length [] l', 0 ≤ z ∧ z < (g.length : Int) := fun z hz => by
      rw [dd_mem] at hz
      simp at hz
      exact hz.2
    have h1 : ∀ y ∈ (dd g.length [] l').map Int.toNat, y < g.length := fun y hy => by
      obtain ⟨z, hz, rfl⟩ := List.mem_map.1 hy
      have := hb z hz
      omega
    refine ⟨nodup_le _ _ ?_ h1, h1⟩
    have hd := dd_nodup g.length l' [] List.nodup_nil
    rw [List.Nodup, List.pairwise_map]
    exact hd.imp_of_mem fun {a b} ha hb' hab e => hab (by have := hb a ha; have := hb b hb'; omega)
  small := hn
  nl := by simp [fnd0]
  ll := by simp [fnd0]
  il := by simp [fnd0]
  on := by simp [fnd0]
  fn := by simp [fnd0, Fnd.flat]
  nd := by simp [fnd0, Fnd.flat]
  vis := fun y hy => by simp [fnd0, Fnd.flat, Fnd.nm, List.getD_eq_getElem?_getD, hy]
  cnt := by simp [fnd0, Fnd.flat]
  is_ := fun y hy => by simp [fnd0, List.getD_eq_getElem?_getD, hy]
  inc := by simp [fnd0]
  le := fun y => by
    simp only [fnd0, Fnd.nm, List.getD_eq_getElem?_getD, List.getElem?_replicate]
    split <;> simp
  so := by simp
  sd := by simp
  anc := by simp [fnd0]
  dn := by simp
  cl := by simp [fnd0, Fnd.flat]
  gr := by simp [fnd0]
  pv := by simp [fnd0]
  lwOk := by simp
  lo := by simp }
/-- What the groups of a graph are. -/
structure Parts (n : Nat) (R : Nat → Nat → Prop) (gs : List (List Nat)) : Prop where
  ne : ∀ l ∈ gs, l ≠ []
  up : ∀ l ∈ gs, l.Pairwise (· < ·)
  nd : gs.flatten.Nodup
  all : ∀ y, y ∈ gs.flatten ↔ y < n
  one : ∀ l ∈ gs, ∀ y ∈ l, ∀ z, z ∈ l ↔ R y z ∧ R z y
theorem course (g : List (List Int)) (hn : g.length ≤ 100000) : ∃ t, Goes g.length 0 (fnd0 g) t ∧ Parts g.length (Rch (nats (edgesF g))) t.groups ∧ t.groups.length ≤ g.length := by
  obtain ⟨t, hg, hI, hall⟩ := goes_end g.length 0 (fnd0 g) (by omega) (inv0 g hn) (fun j hj => by omega)
  have hop : t.opn = [] := by
    cases e : t.opn with
    | nil => rfl
    | cons a l =>
      obtain ⟨p, hp, -⟩ := hI.anc a (by rw [e]; simp)
      cases hp
  refine ⟨t, hg, ⟨fun l hl => (hI.gr l hl).1, fun l hl => (hI.gr l hl).2.1, (List.nodup_append.1 hI.nd).2.1, fun y => ⟨fun hy => hI.fn y hy, fun hy => ?_⟩, fun l hl => (hI.gr l hl).2.2⟩, hI.safe.groups⟩
  have := (hI.vis y hy).1 (hall y hy)
  rw [hop] at this
  simpa using this
end Go.Proofs.Ythamopcfpmkbfaa
