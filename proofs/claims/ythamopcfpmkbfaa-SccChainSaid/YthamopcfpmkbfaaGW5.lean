/- r15.Groups. No condition but that the graph is small. -/
import Derived.Test.YthamopcfpmkbfaaGW4
set_option linter.unusedVariables false
set_option linter.unusedSimpArgs false
namespace Go.Proofs.Ythamopcfpmkbfaa
open Go.Proofs.Fw
/-- The nodes below i are parted. -/
structure PartsTo (n : Nat) (R : Nat → Nat → Prop) (i : Nat) (gs : List (List Nat)) : Prop where
  ne : ∀ l ∈ gs, l ≠ []
  up : ∀ l ∈ gs, l.Pairwise (· < ·)
  nd : gs.flatten.Nodup
  lt : ∀ y ∈ gs.flatten, y < n
  cov : ∀ j, j < i → j ∈ gs.flatten
  one : ∀ l ∈ gs, ∀ y ∈ l, ∀ z, z ∈ l ↔ R y z ∧ R z y
  hd : gs.Pairwise fun a b => a.headD 0 ≤ b.headD 0
  low : ∀ l ∈ gs, l.headD 0 < i
theorem PartsTo.skip {n i : Nat} {R : Nat → Nat → Prop} {gs : List (List Nat)} (h : PartsTo n R i gs) (hi : i ∈ gs.flatten) : PartsTo n R (i + 1) gs :=
  { h with
    cov := fun j hj => by
      by_cases e : j = i
      · rw [e]; exact hi
      · exact h.cov j (by omega)
    low := fun l hl => by have := h.low l hl; omega }
theorem PartsTo.add {n i : Nat} {R : Nat → Nat → Prop} {gs : List (List Nat)} (h : PartsTo n R i gs) (hi : i ∉ gs.flatten) (hin : i < n) (hR : ∀ x, R x x) (hT : ∀ x y z, R x y → R y z → R x z) (hlt : ∀ x y, x < n → R x y → y < n) {l : List Nat} (hl : l.Pairwise (· < ·)) (hm : ∀ z, z ∈ l ↔ i ≤ z ∧ z < n ∧ R i z ∧ R z i) : PartsTo n R (i + 1) (gs ++ [l]) := by
  have hil : i ∈ l := (hm i).2 ⟨Nat.le_refl _, hin, hR i, hR i⟩
  have hne : l ≠ [] := fun e => by rw [e] at hil; cases hil
  have hhd : l.headD 0 = i := by
    cases l with
    | nil => cases hil
    | cons a r =>
      have h1 := ((hm a).1 (by simp)).1
      rcases List.mem_cons.1 hil with e | h2
      · simp [e]
      · have := (List.pairwise_cons.1 hl).1 i h2; omega
  have hfl : (gs ++ [l]).flatten = gs.flatten ++ l := by simp
  have apart : ∀ y ∈ l, y ∉ gs.flatten := fun y hy hyf => by
    obtain ⟨m, hmm, hym⟩ := List.mem_flatten.1 hyf
    have h1 := (hm y).1 hy
    exact hi (List.mem_flatten.2 ⟨m, hmm, (h.one m hmm y hym i).2 ⟨h1.2.2.2, h1.2.2.1⟩⟩)
  have least : ∀ z, z < n → R i z → R z i → i ≤ z := fun z hz h1 h2 => by
    rcases Nat.lt_or_ge z i with h3 | h3
    · obtain ⟨m, hmm, hzm⟩ := List.mem_flatten.1 (h.cov z h3)
      exact absurd (List.mem_flatten.2 ⟨m, hmm, (h.one m hmm z hzm i).2 ⟨h2, h1⟩⟩) hi
    · exact h3
  have hl' : l.Nodup := hl.imp fun {a b} hab e => by omega
  exact {
    ne := fun m hmm => by
      rcases List.mem_append.1 hmm with h1 | h1
      · exact h.ne m h1
      · simp at h1; rw [h1]; exact hne
    up := fun m hmm => by
      rcases List.mem_append.1 hmm with h1 | h1
      · exact h.up m h1
      · simp at h1; rw [h1]; exact hl
    nd := by
      rw [hfl, List.nodup_append]
      exact ⟨h.nd, hl', fun a ha b hb e => apart b hb (by rw [← e]; exact ha)⟩
    lt := fun y hy => by
      rw [hfl] at hy
      rcases List.mem_append.1 hy with h1 | h1
      · exact h.lt y h1
      · exact ((hm y).1 h1).2.1
    cov := fun j hj => by
      rw [hfl, List.mem_append]
      by_cases e : j = i
      · rw [e]; exact .inr hil
      · exact .inl (h.cov j (by omega))
    one := fun m hmm y hy z => by
      rcases List.mem_append.1 hmm with h1 | h1
      · exact h.one m h1 y hy z
      · simp at h1
        subst h1
        have hy' := (hm y).1 hy
        rw [hm z]
        constructor
        · rintro ⟨k1, k2, k3, k4⟩
          exact ⟨hT _ _ _ hy'.2.2.2 k3, hT _ _ _ k4 hy'.2.2.1⟩
        · rintro ⟨k1, k2⟩
          have hzn := hlt y z hy'.2.1 k1
          have a1 := hT _ _ _ hy'.2.2.1 k1
          have a2 := hT _ _ _ k2 hy'.2.2.2
          exact ⟨least z hzn a1 a2, hzn, a1, a2⟩
    hd := by
      rw [List.pairwise_append]
      refine ⟨h.hd, by simp, fun a ha b hb => ?_⟩
      simp at hb
      rw [hb, hhd]
      have := h.low a ha; omega
    low := fun m hmm => by
      rcases List.mem_append.1 hmm with h1 | h1
      · have := h.low m h1; omega
      · simp at h1; rw [h1, hhd]; omega }
theorem PartsTo.whole {n : Nat} {R : Nat → Nat → Prop} {gs : List (List Nat)} (h : PartsTo n R n gs) : Parts n R gs :=
  ⟨h.ne, h.up, h.nd, fun y => ⟨h.lt y, h.cov y⟩, h.one⟩
def onF : List Nat → List Bool → List Bool
  | [], is => is
  | y :: l, is => onF l (is.set y true)
theorem onF_length : ∀ (l : List Nat) (is : List Bool), (onF l is).length = is.length
  | [], is => rfl
  | y :: l, is => by simp [onF, onF_length l]
theorem onF_snoc (y : Nat) : ∀ (l : List Nat) (is : List Bool), onF (l ++ [y]) is = (onF l is).set y true
  | [], is => rfl
  | z :: l, is => by simp only [List.cons_append, onF]; exact onF_snoc y l _
theorem onF_getD : ∀ (l : List Nat) (is : List Bool) (z : Nat), (∀ y ∈ l, y < is.length) → ((onF l is).getD z false = true ↔ z ∈ l ∨ is.getD z false = true)
  | [], is, z, _ => by simp [onF]
  | y :: l, is, z, h => by
    have hy := h y (by simp)
    rw [onF, onF_getD l _ z (fun u hu => by simpa using h u (by simp [hu])), getD_set]
    by_cases e : y = z
    · subst e; simp [hy]
    · rw [if_neg (fun k => e k.1)]
      simp [Ne.symm e]
variable {w0 w : World} {L : List Res}
theorem info41 : (Try.prog.info? 41).map (fun i => (i.zero, i.size, i.bytes)) = some (some (.slice none 0 0), 1, 24) := by kernel_rfl
theorem zero41 : ZeroIs Try.prog 41 (.slice none 0 0) := .of (by kernel_rfl)
theorem sz_48 : SzIs Try.prog 41 1 := sz41
abbrev osBB : Kd (List (List Bool)) := os 41 osB
abbrev rsBB : Kd (List (List Bool)) := rs (rs kBool)
set_option maxRecDepth 4000 in
theorem groups15_calls {g : List (List Int)} {gs : List (List Nat)} (hgs : Grp g gs) (gv : Value) (hn : g.length ≤ 100000) (hr : ∀ r ∈ g, r.length ≤ 100000) (h : St w0 (pt rsII gv g :: L) w) :
    Calls Try.prog 19 #[gv] w (Gives w0 osNN gs (pt rsII gv g :: L)) := by
  obtain ⟨A, c, rfl, -, -⟩ := h.rs_form
  obtain ⟨tb, htb⟩ : ∃ tb : Nat → List Bool, ∀ i : Nat, Bits g (i : Int) (tb i) := ⟨fun i => Classical.choose (reached_exists g (i : Int)), fun i => Classical.choose_spec (reached_exists g (i : Int))⟩
  have hnil1 : ∀ {L w}, St w0 L w → St w0 (pt osNN (.slice none 0 0) [] :: L) w := fun h => h.add (.inl ⟨rfl, rfl⟩)
  have hnil2 : ∀ {L w}, St w0 L w → St w0 (pt osBB (.slice none 0 0) [] :: L) w := fun h => h.add (.inl ⟨rfl, rfl⟩)
  have hnil3 : ∀ {L w}, St w0 L w → St w0 (pt osN (.slice none 0 0) [] :: L) w := fun h => h.add (.inl ⟨rfl, rfl⟩)
  refine f_one Try.func19 rfl Try.results19 Try.ntmps19 rfl ?_
  refine c_seq ?_
  refine c_region ?_
  refine l_assign rfl rfl ?_
  refine l_nil ?_
  refine c_seq ?_
  refine c_region ?_
  refine l_assign rfl rfl ?_
  refine l_nil ?_
  refine c_seq ?_
  refine c_seq ?_
  refine c_region ?_
  refine l_assign rfl rfl ?_
  refine l_nil ?_
  refine c_block ?_
  refine c_loop' (fun m env w => ∃ i va, i + m = g.length ∧ env = [(0, .slice A g.length c), (3, va), (4, .int .i64 (i : Int))] ∧ St w0 (pt osBB va ((List.range i).map tb) :: pt rsII (.slice A g.length c) g :: L) w) g.length [(0, .slice A g.length c), (3, (.slice none 0 0)), (4, .int .i64 ((0 : Nat) : Int))] ⟨rfl, rfl, rfl, trivial⟩ ⟨0, _, by omega, rfl, hnil2 h⟩ ?_
  clear h
  rintro m env w ⟨i, va, him, rfl, h⟩
  refine c_seq ?_
  refine c_seq ?_
  refine c_region ?_
  refine l_move rfl rfl ?_
  refine l_move rfl rfl ?_
  first | refine l_len rfl Try.underlying23 rfl ?_ | refine l_len_string rfl Try.underlying23 rfl ?_
  first | refine l_lss rfl rfl rfl ?_ | refine l_slss rfl rfl rfl ?_
  refine l_nil ?_
  refine c_if _ rfl (fun hc => ?_) (fun hc => ?_)
  · refine c_skip ?_
    have hi : i < g.length := by omega
    refine c_seq ?_
    refine c_block ?_
    refine c_region ?_
    refine l_move rfl rfl ?_
    refine l_move rfl rfl ?_
    refine l_move rfl rfl ?_
    refine l_call rfl Try.func32 rfl (by decide) rfl (reached_calls g (.slice A g.length c) (i : Int) (tb i) (htb i) hn hr (h.re [1])) ?_
    clear h
    rintro e w ⟨vt, rfl, h⟩
    refine ⟨_, rfl, ?_⟩
    refine l_buildSlice1 (Kx := osB) (x := tb i) rfl Try.underlying48 sz41 zero41 rfl rfl h ?_
    clear h; intro bs w h
    refine l_append rfl Try.underlying48 info41 rfl (by decide) rfl rfl (h.re [2, 0]) (by simp; omega) (by simp; unfold maxLen; omega) ?_
    clear h; intro va w h
    refine l_assign rfl rfl ?_
    refine l_nil ?_
    refine c_region ?_
    refine l_move rfl rfl ?_
    first | refine l_addr rfl rfl rfl (by omega) (by omega) ?_ | refine l_sadd rfl rfl rfl (by omega) ?_
    refine l_assign rfl rfl ?_
    refine l_nil ?_
    refine ⟨m - 1, [(0, .slice A g.length c), (3, va), (4, .int .i64 ((i + 1 : Nat) : Int))], by omega, ⟨rfl, rfl, rfl, trivial⟩, i + 1, _, by omega, rfl, ?_⟩
    rw [List.range_succ, List.map_append]
    exact h
  refine c_exit ?_
  have hi : i = g.length := by omega
  subst hi
  clear hc him
  obtain ⟨all, hall⟩ : ∃ all, all = (List.range g.length).map tb := ⟨_, rfl⟩
  rw [← hall] at h
  have hal : all.length = g.length := by rw [hall]; simp
  have hat : ∀ k (hk : k < all.length), all[k] = tb k := fun k hk => by subst hall; simp
  replace h : St w0 (pt rsBB va all :: pt rsII (.slice A g.length c) g :: L) w := h.frz (os_frz (os_frz kBool_pers.frz rfl) rfl)
  obtain ⟨Aa, ca, rfl, -, -⟩ := h.rs_form' hal
  refine c_seq ?_
  refine c_region ?_
  refine l_assign rfl rfl ?_
  refine l_nil ?_
  refine c_seq ?_
  refine c_region ?_
  refine l_move rfl rfl ?_
  first | refine l_len rfl Try.underlying23 rfl ?_ | refine l_len_string rfl Try.underlying23 rfl ?_
  refine l_makeSlice (Kx := kBool) (zx := false) rfl Try.underlying41 info4 rfl rfl rfl rfl (by omega) (by unfold maxLen; omega) h ?_
  clear h; intro vi w h
  refine l_assign rfl rfl ?_
  refine l_nil ?_
  obtain ⟨Ai, ci, rfl, -, -⟩ := h.os_form' (l := g.length) (by simp)
  refine c_seq ?_
  refine c_seq ?_
  refine c_region ?_
  refine l_assign rfl rfl ?_
  refine l_nil ?_
  refine c_block ?_
  refine c_loop' (fun m env w => ∃ i vo out ins, i + m = g.length ∧ env = [(0, .slice A g.length c), (3, .slice Aa g.length ca), (5, vo), (6, .slice Ai g.length ci), (7, .int .i64 (i : Int))] ∧ PartsTo g.length (Rch (nats (edgesF g))) i out ∧ ins.length = g.length ∧ (∀ y, y < g.length → (ins.getD y false = true ↔ y ∈ out.flatten)) ∧ out.length ≤ i ∧ St w0 (pt osNN vo out :: pt osB (.slice Ai g.length ci) ins :: pt rsBB (.slice Aa g.length ca) all :: pt rsII (.slice A g.length c) g :: L) w) g.length [(0, .slice A g.length c), (3, .slice Aa g.length ca), (5, (.slice none 0 0)), (6, .slice Ai g.length ci), (7, .int .i64 ((0 : Nat) : Int))] ⟨rfl, rfl, rfl, rfl, rfl, trivial⟩ ⟨0, _, _, _, by omega, rfl, ⟨by simp, by simp, by simp, by simp, by simp, by simp, by simp, by simp⟩, by simp, fun y hy => by simp [List.getD_eq_getElem?_getD, hy], by simp, hnil1 h⟩ ?_
  clear h
  rintro m env w ⟨i, vo, out, ins, him, rfl, hpt, hil, hin, hol, h⟩
  refine c_seq ?_
  refine c_seq ?_
  refine c_region ?_
  refine l_move rfl rfl ?_
  refine l_move rfl rfl ?_
  first | refine l_len rfl Try.underlying23 rfl ?_ | refine l_len_string rfl Try.underlying23 rfl ?_
  first | refine l_lss rfl rfl rfl ?_ | refine l_slss rfl rfl rfl ?_
  refine l_nil ?_
  refine c_if _ rfl (fun hc => ?_) (fun hc => ?_)
  rotate_left
  · refine c_exit ?_
    have hi : i = g.length := by omega
    subst hi
    have e := hpt.whole.unique hgs.1 (fun _ _ _ _ => Iff.rfl) hpt.hd hgs.2
    subst e
    refine c_seq ?_
    refine c_region ?_
    refine l_move rfl rfl ?_
    refine l_assign rfl rfl ?_
    refine l_nil ?_
    refine c_ret ⟨.inr rfl, _, rfl, _, rfl, ((h.re [1]).drop.re [1]).drop⟩
  refine c_skip ?_
  have hi : i < g.length := by omega
  refine c_seq ?_
  refine c_block ?_
  refine c_seq ?_
  refine c_seq ?_
  refine c_region ?_
  obtain ⟨ai, rfl⟩ := (h.re [1]).osN_ad rfl kBool_pers (i := i) (by omega)
  obtain ⟨aa, rfl⟩ := (h.re [2]).rsN_ad rfl (i := i) (by omega)
  have q := (h.re [1]).osB_at (i := i) (by omega)
  have hD : ins.getD i false = ins[i]'(by omega) := by simp [List.getD_eq_getElem?_getD, show i < ins.length by omega]
  refine l_move rfl rfl ?_
  refine l_move rfl rfl ?_
  first | refine l_indexAddr1 rfl Try.underlying41 (by first | exact sz_41) rfl rfl (by omega) ?_ | refine l_indexAddrN rfl Try.underlying41 (by first | exact sz_41) rfl rfl (by omega) ?_ | refine l_indexAddr rfl Try.underlying41 (by first | exact sz_41) rfl rfl (by omega) (by omega) ?_
  refine l_load rfl plain4 rfl (by assumption) ?_
  refine l_nil ?_
  clear q
  cases hb : ins[i]'(by omega) with
  | true =>
    refine c_condT rfl ?_
    refine c_exit ?_
    refine c_region ?_
    refine l_move rfl rfl ?_
    first | refine l_addr rfl rfl rfl (by omega) (by omega) ?_ | refine l_sadd rfl rfl rfl (by omega) ?_
    refine l_assign rfl rfl ?_
    refine l_nil ?_
    exact ⟨m - 1, [(0, .slice A g.length c), (3, .slice (some aa) g.length ca), (5, vo), (6, .slice (some ai) g.length ci), (7, .int .i64 ((i + 1 : Nat) : Int))], by omega, ⟨rfl, rfl, rfl, rfl, rfl, trivial⟩, i + 1, _, _, _, by omega, rfl, hpt.skip ((hin i hi).1 (by rw [hD, hb])), hil, hin, by omega, h⟩
  | false =>
  have hno : i ∉ out.flatten := fun e => by
    have := (hin i hi).2 e
    rw [hD, hb] at this
    cases this
  refine c_condF rfl ?_
  refine c_skip ?_
  refine c_seq ?_
  refine c_region ?_
  refine l_assign rfl rfl ?_
  refine l_nil ?_
  refine c_seq ?_
  refine c_seq ?_
  refine c_region ?_
  refine l_move rfl rfl ?_
  refine l_assign rfl rfl ?_
  refine l_nil ?_
  refine c_block ?_
  obtain ⟨f, hf⟩ : ∃ f : Nat → Bool, f = fun k => (tb i).getD k false && (tb k).getD i false := ⟨_, rfl⟩
  obtain ⟨li, hli⟩ : ∃ li : Nat → List Nat, li = fun j => (List.range' i j).filter f := ⟨_, rfl⟩
  have li0 : li 0 = [] := by rw [hli]; rfl
  have lis : ∀ j, li (j + 1) = if f (i + j) = true then li j ++ [i + j] else li j := fun j => by
    rw [hli]
    simp only []
    rw [List.range'_concat, List.filter_append]
    by_cases hfj : f (i + j) = true
    · simp [hfj]
    · simp [hfj]
  have lilt : ∀ j y, y ∈ li j → y < i + j := fun j y hy => by
    rw [hli] at hy
    have := List.mem_filter.1 hy
    rw [List.mem_range'_1] at this
    omega
  have lilen : ∀ j, (li j).length ≤ j := fun j => by
    rw [hli]
    exact Nat.le_trans (List.length_filter_le _ _) (by simp)
  refine c_loop' (fun m env w => ∃ j vl, i + j + m = g.length ∧ env = [(0, .slice A g.length c), (3, .slice (some aa) g.length ca), (5, vo), (6, .slice (some ai) g.length ci), (7, .int .i64 (i : Int)), (8, vl), (9, .int .i64 ((i + j : Nat) : Int))] ∧ St w0 (pt osN vl (li j) :: pt osNN vo out :: pt osB (.slice (some ai) g.length ci) (onF (li j) ins) :: pt rsBB (.slice (some aa) g.length ca) all :: pt rsII (.slice A g.length c) g :: L) w) (g.length - i) [(0, .slice A g.length c), (3, .slice (some aa) g.length ca), (5, vo), (6, .slice (some ai) g.length ci), (7, .int .i64 (i : Int)), (8, (.slice none 0 0)), (9, .int .i64 ((i + 0 : Nat) : Int))] ⟨rfl, rfl, rfl, rfl, rfl, rfl, rfl, trivial⟩ ⟨0, _, by omega, rfl, by rw [li0]; exact hnil3 h⟩ ?_
  clear h
  rintro m2 env w ⟨j, vl, hjm, rfl, h⟩
  refine c_seq ?_
  refine c_seq ?_
  refine c_region ?_
  refine l_move rfl rfl ?_
  refine l_move rfl rfl ?_
  first | refine l_len rfl Try.underlying23 rfl ?_ | refine l_len_string rfl Try.underlying23 rfl ?_
  first | refine l_lss rfl rfl rfl ?_ | refine l_slss rfl rfl rfl ?_
  refine l_nil ?_
  refine c_if _ rfl (fun hc2 => ?_) (fun hc2 => ?_)
  · refine c_skip ?_
    have hk : i + j < g.length := by omega
    obtain ⟨k, hkk⟩ : ∃ k, k = i + j := ⟨_, rfl⟩
    rw [← hkk] at hk ⊢
    obtain ⟨aa', u1, hA, q1, h1⟩ := (h.re [3]).rs_cell rfl rfl i (by omega)
    cases hA
    obtain ⟨aa', u2, hA, q2, h2⟩ := (h.re [3]).rs_cell rfl rfl k (by omega)
    cases hA
    rw [hat] at h1 h2
    obtain ⟨A1, c1, rfl, -, -⟩ := h1.rs_form' (htb i).1
    obtain ⟨A2, c2, rfl, -, -⟩ := h2.rs_form' (htb k).1
    obtain ⟨a1, rfl⟩ := h1.rsN_ad rfl (i := k) (by rw [(htb i).1]; exact hk)
    obtain ⟨a2, rfl⟩ := h2.rsN_ad rfl (i := i) (by rw [(htb k).1]; exact hi)
    obtain ⟨_, v1, hA, q3, h3⟩ := h1.rs_cell rfl rfl k (by rw [(htb i).1]; exact hk)
    cases hA
    obtain ⟨_, v2, hA, q4, h4⟩ := h2.rs_cell rfl rfl i (by rw [(htb k).1]; exact hi)
    cases hA
    have e1 := h3.bool
    have e2 := h4.bool
    subst e1 e2
    have d1 : (tb i).getD k false = (tb i)[k]'(by rw [(htb i).1]; exact hk) := by simp [List.getD_eq_getElem?_getD, (htb i).1, hk]
    have d2 : (tb k).getD i false = (tb k)[i]'(by rw [(htb k).1]; exact hi) := by simp [List.getD_eq_getElem?_getD, (htb k).1, hi]
    have hfk : f k = ((tb i)[k]'(by rw [(htb i).1]; exact hk) && (tb k)[i]'(by rw [(htb k).1]; exact hi)) := by rw [hf, ← d1, ← d2]
    have hlk := lis j
    rw [← hkk, hfk] at hlk
    have hlj := lilen j
    have hson : (onF (li j) ins).length = g.length := by rw [onF_length]; exact hil
    refine c_seq ?_
    refine c_block ?_
    refine c_seq ?_
    refine c_region ?_
    clear h1 h2 h3 h4
    cases hb1 : (tb i)[k]'(by rw [(htb i).1]; exact hk) with
    | false =>
      rw [hb1] at q3 hlk
      refine l_move rfl rfl ?_
      refine l_move rfl rfl ?_
      first | refine l_indexAddr1 rfl Try.underlying48 (by first | exact sz_48) rfl rfl (by omega) ?_ | refine l_indexAddrN rfl Try.underlying48 (by first | exact sz_48) rfl rfl (by omega) ?_ | refine l_indexAddr rfl Try.underlying48 (by first | exact sz_48) rfl rfl (by omega) (by omega) ?_
      refine l_load rfl plain41 rfl (by assumption) ?_
      refine l_move rfl rfl ?_
      first | refine l_indexAddr1 rfl Try.underlying41 (by first | exact sz_41) rfl rfl (by omega) ?_ | refine l_indexAddrN rfl Try.underlying41 (by first | exact sz_41) rfl rfl (by omega) ?_ | refine l_indexAddr rfl Try.underlying41 (by first | exact sz_41) rfl rfl (by omega) (by omega) ?_
      refine l_load rfl plain4 rfl (by assumption) ?_
      refine l_move rfl rfl ?_
      first | (refine l_yes rfl rfl ?_; first | refine l_move rfl rfl ?_) | refine l_no rfl rfl rfl rfl ?_ | refine l_no' rfl rfl rfl ?_
      first | (refine l_yes rfl rfl ?_; first | refine l_move rfl rfl ?_) | refine l_no rfl rfl rfl rfl ?_ | refine l_no' rfl rfl rfl ?_
      first | (refine l_yes rfl rfl ?_; first | refine l_indexAddr1 rfl Try.underlying48 (by first | exact sz_48) rfl rfl (by omega) ?_ | refine l_indexAddrN rfl Try.underlying48 (by first | exact sz_48) rfl rfl (by omega) ?_ | refine l_indexAddr rfl Try.underlying48 (by first | exact sz_48) rfl rfl (by omega) (by omega) ?_) | refine l_no rfl rfl rfl rfl ?_ | refine l_no' rfl rfl rfl ?_
      first | (refine l_yes rfl rfl ?_; first | refine l_load rfl plain41 rfl (by assumption) ?_) | refine l_no rfl rfl rfl rfl ?_ | refine l_no' rfl rfl rfl ?_
      first | (refine l_yes rfl rfl ?_; first | refine l_move rfl rfl ?_) | refine l_no rfl rfl rfl rfl ?_ | refine l_no' rfl rfl rfl ?_
      first | (refine l_yes rfl rfl ?_; first | refine l_indexAddr1 rfl Try.underlying41 (by first | exact sz_41) rfl rfl (by omega) ?_ | refine l_indexAddrN rfl Try.underlying41 (by first | exact sz_41) rfl rfl (by omega) ?_ | refine l_indexAddr rfl Try.underlying41 (by first | exact sz_41) rfl rfl (by omega) (by omega) ?_) | refine l_no rfl rfl rfl rfl ?_ | refine l_no' rfl rfl rfl ?_
      first | (refine l_yes rfl rfl ?_; first | refine l_load rfl plain4 rfl (by assumption) ?_) | refine l_no rfl rfl rfl rfl ?_ | refine l_no' rfl rfl rfl ?_
      refine l_pick rfl rfl rfl ?_
      refine l_nil ?_
      clear q1 q2 q3 q4
      refine c_condF rfl ?_
      refine c_skip ?_
      refine c_region ?_
      refine l_move rfl rfl ?_
      first | refine l_addr rfl rfl rfl (by omega) (by omega) ?_ | refine l_sadd rfl rfl rfl (by omega) ?_
      refine l_assign rfl rfl ?_
      refine l_nil ?_
      refine ⟨m2 - 1, [(0, .slice A g.length c), (3, .slice (some aa) g.length ca), (5, vo), (6, .slice (some ai) g.length ci), (7, .int .i64 (i : Int)), (8, vl), (9, .int .i64 ((i + (j + 1) : Nat) : Int))], by omega, ⟨rfl, rfl, rfl, rfl, rfl, rfl, by rw [hkk]; rfl, trivial⟩, j + 1, _, by omega, rfl, ?_⟩
      rw [hlk]
      exact h
    | true =>
      rw [hb1] at q3 hlk
      cases hb2 : (tb k)[i]'(by rw [(htb k).1]; exact hi) with
      | false =>
        rw [hb2] at q4 hlk
        refine l_move rfl rfl ?_
        refine l_move rfl rfl ?_
        first | refine l_indexAddr1 rfl Try.underlying48 (by first | exact sz_48) rfl rfl (by omega) ?_ | refine l_indexAddrN rfl Try.underlying48 (by first | exact sz_48) rfl rfl (by omega) ?_ | refine l_indexAddr rfl Try.underlying48 (by first | exact sz_48) rfl rfl (by omega) (by omega) ?_
        refine l_load rfl plain41 rfl (by assumption) ?_
        refine l_move rfl rfl ?_
        first | refine l_indexAddr1 rfl Try.underlying41 (by first | exact sz_41) rfl rfl (by omega) ?_ | refine l_indexAddrN rfl Try.underlying41 (by first | exact sz_41) rfl rfl (by omega) ?_ | refine l_indexAddr rfl Try.underlying41 (by first | exact sz_41) rfl rfl (by omega) (by omega) ?_
        refine l_load rfl plain4 rfl (by assumption) ?_
        refine l_move rfl rfl ?_
        first | (refine l_yes rfl rfl ?_; first | refine l_move rfl rfl ?_) | refine l_no rfl rfl rfl rfl ?_ | refine l_no' rfl rfl rfl ?_
        first | (refine l_yes rfl rfl ?_; first | refine l_move rfl rfl ?_) | refine l_no rfl rfl rfl rfl ?_ | refine l_no' rfl rfl rfl ?_
        first | (refine l_yes rfl rfl ?_; first | refine l_indexAddr1 rfl Try.underlying48 (by first | exact sz_48) rfl rfl (by omega) ?_ | refine l_indexAddrN rfl Try.underlying48 (by first | exact sz_48) rfl rfl (by omega) ?_ | refine l_indexAddr rfl Try.underlying48 (by first | exact sz_48) rfl rfl (by omega) (by omega) ?_) | refine l_no rfl rfl rfl rfl ?_ | refine l_no' rfl rfl rfl ?_
        first | (refine l_yes rfl rfl ?_; first | refine l_load rfl plain41 rfl (by assumption) ?_) | refine l_no rfl rfl rfl rfl ?_ | refine l_no' rfl rfl rfl ?_
        first | (refine l_yes rfl rfl ?_; first | refine l_move rfl rfl ?_) | refine l_no rfl rfl rfl rfl ?_ | refine l_no' rfl rfl rfl ?_
        first | (refine l_yes rfl rfl ?_; first | refine l_indexAddr1 rfl Try.underlying41 (by first | exact sz_41) rfl rfl (by omega) ?_ | refine l_indexAddrN rfl Try.underlying41 (by first | exact sz_41) rfl rfl (by omega) ?_ | refine l_indexAddr rfl Try.underlying41 (by first | exact sz_41) rfl rfl (by omega) (by omega) ?_) | refine l_no rfl rfl rfl rfl ?_ | refine l_no' rfl rfl rfl ?_
        first | (refine l_yes rfl rfl ?_; first | refine l_load rfl plain4 rfl (by assumption) ?_) | refine l_no rfl rfl rfl rfl ?_ | refine l_no' rfl rfl rfl ?_
        refine l_pick rfl rfl rfl ?_
        refine l_nil ?_
        clear q1 q2 q3 q4
        refine c_condF rfl ?_
        refine c_skip ?_
        refine c_region ?_
        refine l_move rfl rfl ?_
        first | refine l_addr rfl rfl rfl (by omega) (by omega) ?_ | refine l_sadd rfl rfl rfl (by omega) ?_
        refine l_assign rfl rfl ?_
        refine l_nil ?_
        refine ⟨m2 - 1, [(0, .slice A g.length c), (3, .slice (some aa) g.length ca), (5, vo), (6, .slice (some ai) g.length ci), (7, .int .i64 (i : Int)), (8, vl), (9, .int .i64 ((i + (j + 1) : Nat) : Int))], by omega, ⟨rfl, rfl, rfl, rfl, rfl, rfl, by rw [hkk]; rfl, trivial⟩, j + 1, _, by omega, rfl, ?_⟩
        rw [hlk]
        exact h
      | true =>
        rw [hb2] at q4 hlk
        refine l_move rfl rfl ?_
        refine l_move rfl rfl ?_
        first | refine l_indexAddr1 rfl Try.underlying48 (by first | exact sz_48) rfl rfl (by omega) ?_ | refine l_indexAddrN rfl Try.underlying48 (by first | exact sz_48) rfl rfl (by omega) ?_ | refine l_indexAddr rfl Try.underlying48 (by first | exact sz_48) rfl rfl (by omega) (by omega) ?_
        refine l_load rfl plain41 rfl (by assumption) ?_
        refine l_move rfl rfl ?_
        first | refine l_indexAddr1 rfl Try.underlying41 (by first | exact sz_41) rfl rfl (by omega) ?_ | refine l_indexAddrN rfl Try.underlying41 (by first | exact sz_41) rfl rfl (by omega) ?_ | refine l_indexAddr rfl Try.underlying41 (by first | exact sz_41) rfl rfl (by omega) (by omega) ?_
        refine l_load rfl plain4 rfl (by assumption) ?_
        refine l_move rfl rfl ?_
        first | (refine l_yes rfl rfl ?_; first | refine l_move rfl rfl ?_) | refine l_no rfl rfl rfl rfl ?_ | refine l_no' rfl rfl rfl ?_
        first | (refine l_yes rfl rfl ?_; first | refine l_move rfl rfl ?_) | refine l_no rfl rfl rfl rfl ?_ | refine l_no' rfl rfl rfl ?_
        first | (refine l_yes rfl rfl ?_; first | refine l_indexAddr1 rfl Try.underlying48 (by first | exact sz_48) rfl rfl (by omega) ?_ | refine l_indexAddrN rfl Try.underlying48 (by first | exact sz_48) rfl rfl (by omega) ?_ | refine l_indexAddr rfl Try.underlying48 (by first | exact sz_48) rfl rfl (by omega) (by omega) ?_) | refine l_no rfl rfl rfl rfl ?_ | refine l_no' rfl rfl rfl ?_
        first | (refine l_yes rfl rfl ?_; first | refine l_load rfl plain41 rfl (by assumption) ?_) | refine l_no rfl rfl rfl rfl ?_ | refine l_no' rfl rfl rfl ?_
        first | (refine l_yes rfl rfl ?_; first | refine l_move rfl rfl ?_) | refine l_no rfl rfl rfl rfl ?_ | refine l_no' rfl rfl rfl ?_
        first | (refine l_yes rfl rfl ?_; first | refine l_indexAddr1 rfl Try.underlying41 (by first | exact sz_41) rfl rfl (by omega) ?_ | refine l_indexAddrN rfl Try.underlying41 (by first | exact sz_41) rfl rfl (by omega) ?_ | refine l_indexAddr rfl Try.underlying41 (by first | exact sz_41) rfl rfl (by omega) (by omega) ?_) | refine l_no rfl rfl rfl rfl ?_ | refine l_no' rfl rfl rfl ?_
        first | (refine l_yes rfl rfl ?_; first | refine l_load rfl plain4 rfl (by assumption) ?_) | refine l_no rfl rfl rfl rfl ?_ | refine l_no' rfl rfl rfl ?_
        refine l_pick rfl rfl rfl ?_
        refine l_nil ?_
        clear q1 q2 q3 q4
        refine c_condT rfl ?_
        refine c_seq ?_
        refine c_region ?_
        refine l_move rfl rfl ?_
        refine l_move rfl rfl ?_
        refine l_buildSlice1 (x := k) rfl Try.underlying26 sz3 zero3 rfl rfl (h.addNat k (by omega)) ?_
        clear h; intro bs w h
        refine l_append rfl Try.underlying26 info3 rfl (by decide) rfl rfl (h.re [1, 0]) (by simp only [List.length_cons, List.length_nil]; omega) (by simp only [List.length_cons, List.length_nil]; unfold maxLen; omega) ?_
        clear h; intro vl w h
        refine l_assign rfl rfl ?_
        refine l_nil ?_
        refine c_region ?_
        refine l_move rfl rfl ?_
        refine l_move rfl rfl ?_
        first | refine l_indexAddr1 rfl Try.underlying41 (by first | exact sz_41) rfl rfl (by omega) ?_ | refine l_indexAddrN rfl Try.underlying41 (by first | exact sz_41) rfl rfl (by omega) ?_ | refine l_indexAddr rfl Try.underlying41 (by first | exact sz_41) rfl rfl (by omega) (by omega) ?_
        refine l_storeE plain4 rfl rfl rfl rfl (by omega) ((h.re [2]).addBool true |>.re [1]) ?_
        clear h; intro w h
        refine l_nil ?_
        refine c_region ?_
        refine l_move rfl rfl ?_
        first | refine l_addr rfl rfl rfl (by omega) (by omega) ?_ | refine l_sadd rfl rfl rfl (by omega) ?_
        refine l_assign rfl rfl ?_
        refine l_nil ?_
        refine ⟨m2 - 1, [(0, .slice A g.length c), (3, .slice (some aa) g.length ca), (5, vo), (6, .slice (some ai) g.length ci), (7, .int .i64 (i : Int)), (8, vl), (9, .int .i64 ((i + (j + 1) : Nat) : Int))], by omega, ⟨rfl, rfl, rfl, rfl, rfl, rfl, by rw [hkk]; rfl, trivial⟩, j + 1, _, by omega, rfl, ?_⟩
        rw [hlk]
        simp only [Bool.and_self, if_true]
        rw [onF_snoc]
        exact h.re [1, 2, 0]
  · refine c_exit ?_
    have hj : i + j = g.length := by omega
    have hlm : ∀ z, z ∈ li j ↔ i ≤ z ∧ z < g.length ∧ Rch (nats (edgesF g)) i z ∧ Rch (nats (edgesF g)) z i := fun z => by
      rw [hli]
      simp only []
      rw [List.mem_filter, List.mem_range'_1, hf]
      simp only [Bool.and_eq_true]
      constructor
      · rintro ⟨⟨k1, k2⟩, k3, k4⟩
        have hz : z < g.length := by omega
        have r1 := ((htb i).2 z hz).1 k3
        have r2 := ((htb z).2 i hi).1 k4
        rw [Int.toNat_natCast] at r1 r2
        exact ⟨k1, hz, r1.2.2, r2.2.2⟩
      · rintro ⟨k1, hz, k3, k4⟩
        refine ⟨⟨k1, by omega⟩, ((htb i).2 z hz).2 ⟨by omega, by omega, ?_⟩, ((htb z).2 i hi).2 ⟨by omega, by omega, ?_⟩⟩
        · rw [Int.toNat_natCast]; exact k3
        · rw [Int.toNat_natCast]; exact k4
    have hlu : (li j).Pairwise (· < ·) := by
      rw [hli]
      exact List.Pairwise.filter _ List.pairwise_lt_range'
    have hpt' := hpt.add hno hi (fun x => .refl x) (fun x y z => Rch.trans) (fun x y hx hxy => hxy.lt hx) hlu hlm
    refine c_region ?_
    refine l_move rfl rfl ?_
    refine l_move rfl rfl ?_
    refine l_buildSlice1 (Kx := osN) (x := li j) rfl Try.underlying23 sz26 zero26 rfl rfl h ?_
    clear h; intro bs w h
    refine l_append rfl Try.underlying23 info26 rfl (by decide) rfl rfl (h.re [1, 0]) (by simp only [List.length_cons, List.length_nil]; omega) (by simp only [List.length_cons, List.length_nil]; unfold maxLen; omega) ?_
    clear h; intro vo2 w h
    refine l_assign rfl rfl ?_
    refine l_nil ?_
    refine c_region ?_
    refine l_move rfl rfl ?_
    first | refine l_addr rfl rfl rfl (by omega) (by omega) ?_ | refine l_sadd rfl rfl rfl (by omega) ?_
    refine l_assign rfl rfl ?_
    refine l_nil ?_
    refine ⟨m - 1, [(0, .slice A g.length c), (3, .slice (some aa) g.length ca), (5, vo2), (6, .slice (some ai) g.length ci), (7, .int .i64 ((i + 1 : Nat) : Int))], by omega, ⟨rfl, rfl, rfl, rfl, rfl, trivial⟩, i + 1, _, _, _, by omega, rfl, hpt', by rw [onF_length]; exact hil, fun y hy => ?_, by simp; omega, h⟩
    rw [onF_getD _ _ _ (fun z hz => by rw [hil]; exact ((hlm z).1 hz).2.1), hin y hy, List.flatten_append, List.mem_append]
    simp [or_comm]
end Go.Proofs.Ythamopcfpmkbfaa
