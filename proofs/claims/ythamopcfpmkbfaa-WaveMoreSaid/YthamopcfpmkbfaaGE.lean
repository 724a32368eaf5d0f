/- scc.edges hands back, of each node, the nodes to which it leads, each once. No condition but that the graph is small. -/
import Derived.Test.YthamopcfpmkbfaaG0
import Derived.Test.YthamopcfpmkbfaaPT
import Derived.Test.YthamopcfpmkbfaaGI
set_option linter.unusedVariables false
set_option linter.unusedSimpArgs false
namespace Go.Proofs.Ythamopcfpmkbfaa
open Go.Proofs.Fw
abbrev osII : Kd (List (List Int)) := os 26 (os 3 kI)
def hadOf (out : List (List Int)) : Int × Int → Option Value := fun p => if 0 ≤ p.1 ∧ p.2 ∈ out.getD p.1.toNat [] then some (.bool true) else none
theorem hadOf_nil (n : Nat) : (fun _ => none) = hadOf (List.replicate n []) := by
  funext p
  simp [hadOf, List.getD_eq_getElem?_getD, List.getElem?_replicate]
  split <;> simp
theorem hadOf_add {out : List (List Int)} {i : Nat} (hi : i < out.length) (r : List Int) (b : Int) : (fun p => if p = ((i : Int), b) then some (.bool true) else hadOf (out.set i r) p) = hadOf (out.set i (r ++ [b])) := by
  funext ⟨x, y⟩
  simp only [hadOf, List.getD_eq_getElem?_getD, List.getElem?_set]
  by_cases hx : i = x.toNat
  · rw [if_pos hx, if_pos hi, if_pos hx, if_pos hi]
    simp only [Option.getD_some, List.mem_append, List.mem_singleton, Prod.mk.injEq]
    by_cases h0 : 0 ≤ x
    · have hxi : x = (i : Int) := by omega
      by_cases hy : y = b
      · simp [hxi, hy]
      · simp [hxi, hy]
    · have hxi : ¬ x = (i : Int) := by omega
      simp [hxi, h0]
  · rw [if_neg hx, if_neg hx]
    have hxi : ¬ x = (i : Int) := by intro h; subst h; simp at hx
    simp [hxi]
def outAt (g : List (List Int)) (i : Nat) : List (List Int) := (g.take i).map (dd g.length []) ++ List.replicate (g.length - i) []
theorem outAt_length (g : List (List Int)) {i : Nat} (hi : i ≤ g.length) : (outAt g i).length = g.length := by simp [outAt]; omega
theorem outAt_begin (g : List (List Int)) {i : Nat} (hi : i < g.length) : (outAt g i).set i [] = outAt g i := by
  apply List.ext_getElem?
  intro j
  rw [List.getElem?_set]
  by_cases hj : i = j
  · subst hj
    rw [if_pos rfl, outAt_length g (Nat.le_of_lt hi), if_pos hi]
    unfold outAt
    rw [List.getElem?_append_right (by simp; omega)]
    simp [List.getElem?_replicate]; omega
  · rw [if_neg hj]
theorem outAt_end (g : List (List Int)) {i : Nat} (hi : i < g.length) : (outAt g i).set i (dd g.length [] g[i]) = outAt g (i + 1) := by
  apply List.ext_getElem?
  intro j
  rw [List.getElem?_set]
  by_cases hj : i = j
  · subst hj
    rw [if_pos rfl, outAt_length g (Nat.le_of_lt hi), if_pos hi]
    unfold outAt
    rw [List.getElem?_append_left (by simp; omega)]
    simp [hi]
  · rw [if_neg hj]
    unfold outAt
    by_cases hl : j < i
    · rw [List.getElem?_append_left (by simp; omega), List.getElem?_append_left (by simp; omega)]
      simp [List.getElem?_take, hl, show j < i + 1 by omega]
    · rw [List.getElem?_append_right (by simp; omega), List.getElem?_append_right (by simp; omega)]
      simp only [List.getElem?_replicate, List.length_map, List.length_take]
      have e1 : min i g.length = i := by omega
      have e2 : min (i + 1) g.length = i + 1 := by omega
      rw [e1, e2]
      by_cases h3 : j < g.length
      · rw [if_pos (by omega), if_pos (by omega)]
      · rw [if_neg (by omega), if_neg (by omega)]
theorem outAt_zero (g : List (List Int)) : outAt g 0 = List.replicate g.length [] := by simp [outAt]
theorem outAt_all (g : List (List Int)) : outAt g g.length = edgesF g := by simp [outAt, edgesF]

variable {w0 w : World} {L : List Res}
theorem edges_calls (g : List (List Int)) (gv : Value) (hn : g.length ≤ 100000) (hr : ∀ r ∈ g, r.length ≤ 100000) (h : St w0 (pt rsII gv g :: L) w) :
    Calls Try.prog 27 #[gv] w (Gives w0 osII (edgesF g) (pt rsII gv g :: L)) := by
  obtain ⟨A, c, rfl, hc1, hc2⟩ := h.rs_form
  refine f_one Try.func27 rfl Try.results27 Try.ntmps27 rfl ?_
  refine c_seq ?_
  -- region 0
  refine c_region ?_
  refine l_assign rfl rfl ?_
  refine l_nil ?_
  refine c_seq ?_
  -- region 1
  refine c_region ?_
  refine l_makeMap (P := Try.prog) (k := 52) (enc := pairV) rfl h ?_
  clear h; intro mb w h
  refine l_assign rfl rfl ?_
  refine l_nil ?_
  refine c_seq ?_
  -- region 2
  refine c_region ?_
  refine l_move rfl rfl ?_
  refine l_len rfl Try.underlying23 rfl ?_
  refine l_makeSlice (Kx := os 3 kI) (zx := []) rfl Try.underlying23 info26 rfl (.inl ⟨rfl, rfl⟩) rfl rfl (by omega) (by unfold maxLen; omega) h ?_
  clear h; intro ov w h
  obtain ⟨A3, c3, rfl, hc5, hc6⟩ := h.os_form' (l := g.length) (by simp)
  refine l_assign rfl rfl ?_
  refine l_nil ?_
  refine c_seq ?_
  refine c_seq ?_
  -- region 3
  refine c_region ?_
  refine l_move rfl rfl ?_
  refine l_len rfl Try.underlying23 rfl ?_
  refine l_move rfl rfl ?_
  refine l_nil ?_
  refine c_block ?_
  have h0 : St w0 (mp Try.prog 52 pairV mb (hadOf (outAt g 0)) :: pt osII (.slice A3 g.length c3) (outAt g 0) :: pt rsII (.slice A g.length c) g :: L) w := by
    rw [outAt_zero, ← hadOf_nil]
    exact h.re [1, 0]
  clear h
  refine c_loop' (fun m env w => ∃ i : Nat, i + m = g.length ∧ env = [(0, .slice A g.length c), (3, .map (some mb)), (4, .slice A3 g.length c3), (14, .slice A g.length c), (15, .int .i64 (g.length : Int)), (16, .int .i64 (i : Int))] ∧
    St w0 (mp Try.prog 52 pairV mb (hadOf (outAt g i)) :: pt osII (.slice A3 g.length c3) (outAt g i) :: pt rsII (.slice A g.length c) g :: L) w) g.length [(0, .slice A g.length c), (3, .map (some mb)), (4, .slice A3 g.length c3), (14, .slice A g.length c), (15, .int .i64 (g.length : Int)), (16, .int .i64 ((0 : Nat) : Int))]
    ⟨rfl, rfl, rfl, rfl, rfl, rfl, trivial⟩ ⟨0, by omega, rfl, h0⟩ ?_
  clear h0
  rintro m env w ⟨i, him, rfl, h⟩
  refine c_seq ?_
  -- region 4
  refine c_region ?_
  refine l_lss rfl rfl rfl ?_
  refine l_nil ?_
  refine c_seq ?_
  refine c_if _ rfl (fun hc => ?_) (fun hc => ?_)
  rotate_left
  · -- the end
    refine c_exit ?_
    have : i = g.length := by omega
    subst this
    rw [outAt_all] at h
    -- region 15
    refine c_seq ?_
    refine c_region ?_
    refine l_move rfl rfl ?_
    refine l_assign rfl rfl ?_
    refine l_nil ?_
    refine c_ret ?_
    exact ⟨.inr rfl, _, rfl, _, rfl, h.drop⟩
  have hi : i < g.length := by omega
  refine c_skip ?_
  refine c_seq ?_
  refine c_block ?_
  refine c_seq ?_
  -- region 5: the row
  obtain ⟨ad, rv, rfl, hcell, h'⟩ := (h.re [2]).rs_cell rfl rfl i hi
  have hril : g[i].length ≤ 100000 := hr _ (List.getElem_mem hi)
  obtain ⟨row, hrow⟩ : ∃ row, row = g[i] := ⟨_, rfl⟩
  rw [← hrow] at h' hril
  replace h : St w0 (mp Try.prog 52 pairV mb (hadOf (outAt g i)) :: pt osII (.slice A3 g.length c3) (outAt g i) :: pt rsII (.slice (some ad) g.length c) g :: pt rsI rv row :: L) w := h'.re [2, 3, 1, 0]
  clear h'
  obtain ⟨A2, c2, rfl, hc3, hc4⟩ := (h.re [3]).rs_form
  refine c_region ?_
  refine l_move rfl rfl ?_
  refine l_indexAddr rfl Try.underlying23 sz26 rfl rfl (by omega) (by omega) ?_
  refine l_load rfl plain26 rfl (by simpa using hcell) ?_
  refine l_assign rfl rfl ?_
  refine l_assign rfl rfl ?_
  refine l_nil ?_
  refine c_seq ?_
  -- region 6
  refine c_region ?_
  refine l_move rfl rfl ?_
  refine l_len rfl Try.underlying26 rfl ?_
  refine l_move rfl rfl ?_
  refine l_nil ?_
  refine c_block ?_
  have h0 : St w0 (mp Try.prog 52 pairV mb (hadOf ((outAt g i).set i (dd g.length [] (row.take 0)))) :: pt osII (.slice A3 g.length c3) ((outAt g i).set i (dd g.length [] (row.take 0))) :: pt rsII (.slice (some ad) g.length c) g :: pt rsI (.slice A2 row.length c2) row :: L) w := by
    simp only [List.take_zero, dd, outAt_begin g hi]; exact h
  clear h hcell
  refine c_loop' (fun m env w => ∃ j : Nat, j + m = row.length ∧ env = [(0, .slice (some ad) g.length c), (3, .map (some mb)), (4, .slice A3 g.length c3), (5, .int .i64 (i : Int)), (14, .slice (some ad) g.length c), (15, .int .i64 (g.length : Int)), (16, .int .i64 (i : Int)), (21, .slice A2 row.length c2), (22, .int .i64 (row.length : Int)), (23, .int .i64 (j : Int))] ∧
    St w0 (mp Try.prog 52 pairV mb (hadOf ((outAt g i).set i (dd g.length [] (row.take j)))) :: pt osII (.slice A3 g.length c3) ((outAt g i).set i (dd g.length [] (row.take j))) :: pt rsII (.slice (some ad) g.length c) g :: pt rsI (.slice A2 row.length c2) row :: L) w) row.length
    [(0, .slice (some ad) g.length c), (3, .map (some mb)), (4, .slice A3 g.length c3), (5, .int .i64 (i : Int)), (14, .slice (some ad) g.length c), (15, .int .i64 (g.length : Int)), (16, .int .i64 (i : Int)), (21, .slice A2 row.length c2), (22, .int .i64 (row.length : Int)), (23, .int .i64 ((0 : Nat) : Int))]
    ⟨rfl, rfl, rfl, rfl, rfl, rfl, rfl, rfl, rfl, rfl, trivial⟩ ⟨0, by omega, rfl, h0⟩ ?_
  clear h0
  rintro m2 env w ⟨j, hjm, rfl, h⟩
  refine c_seq ?_
  -- region 7
  refine c_region ?_
  refine l_lss rfl rfl rfl ?_
  refine l_nil ?_
  refine c_seq ?_
  refine c_if _ rfl (fun hc => ?_) (fun hc => ?_)
  rotate_left
  · -- the row's end
    refine c_exit ?_
    have : j = row.length := by omega
    subst this
    have hrl : row.take row.length = row := List.take_length
    have e1 : (outAt g i).set i (dd g.length [] row) = outAt g (i + 1) := by rw [hrow]; exact outAt_end g hi
    rw [hrl, e1] at h
    -- region 14
    refine c_region ?_
    refine l_addr rfl rfl rfl (by omega) (by omega) ?_
    refine l_move rfl rfl ?_
    refine l_nil ?_
    refine ⟨m - 1, [(0, .slice (some ad) g.length c), (3, .map (some mb)), (4, .slice A3 g.length c3), (14, .slice (some ad) g.length c), (15, .int .i64 (g.length : Int)), (16, .int .i64 ((i + 1 : Nat) : Int))], by omega, ⟨rfl, rfl, rfl, rfl, rfl, rfl, trivial⟩, i + 1, by omega, rfl, ?_⟩
    exact (h.re [3]).drop
  have hj : j < row.length := by omega
  refine c_skip ?_
  refine c_seqS [(0, .slice (some ad) g.length c), (3, .map (some mb)), (4, .slice A3 g.length c3), (5, .int .i64 (i : Int)), (14, .slice (some ad) g.length c), (15, .int .i64 (g.length : Int)), (16, .int .i64 (i : Int)), (21, .slice A2 row.length c2), (22, .int .i64 (row.length : Int)), (23, .int .i64 (j : Int))]
    (fun w => St w0 (mp Try.prog 52 pairV mb (hadOf ((outAt g i).set i (dd g.length [] (row.take (j + 1))))) :: pt osII (.slice A3 g.length c3) ((outAt g i).set i (dd g.length [] (row.take (j + 1)))) :: pt rsII (.slice (some ad) g.length c) g :: pt rsI (.slice A2 row.length c2) row :: L) w) ?_ ?_
  rotate_left
  · -- region 13
    clear h
    intro w h
    refine c_region ?_
    refine l_addr rfl rfl rfl (by omega) (by omega) ?_
    refine l_move rfl rfl ?_
    refine l_nil ?_
    exact ⟨m2 - 1, [(0, .slice (some ad) g.length c), (3, .map (some mb)), (4, .slice A3 g.length c3), (5, .int .i64 (i : Int)), (14, .slice (some ad) g.length c), (15, .int .i64 (g.length : Int)), (16, .int .i64 (i : Int)), (21, .slice A2 row.length c2), (22, .int .i64 (row.length : Int)), (23, .int .i64 ((j + 1 : Nat) : Int))], by omega,
      ⟨rfl, rfl, rfl, rfl, rfl, rfl, rfl, rfl, rfl, rfl, trivial⟩, j + 1, by omega, rfl, h⟩
  refine c_block ?_
  refine c_seq ?_
  -- region 8: the node
  obtain ⟨ad2, bv, rfl, hcell, h'⟩ := (h.re [3]).rs_cell rfl rfl j hj
  obtain ⟨b, hb⟩ : ∃ b, b = row[j] := ⟨_, rfl⟩
  rw [← hb] at h'
  obtain ⟨rfl, hb1, hb2⟩ := h'.i64
  clear h'
  refine c_region ?_
  refine l_indexAddr rfl Try.underlying26 sz3 rfl rfl (by omega) (by omega) ?_
  refine l_load rfl plain3 rfl (by simpa using hcell) ?_
  refine l_assign rfl rfl ?_
  refine l_nil ?_
  clear hcell
  refine c_seq ?_
  -- region 9
  refine c_region ?_
  refine l_move rfl rfl ?_
  refine l_move rfl rfl ?_
  refine l_build #[.int .i64 (i : Int), .int .i64 b] rfl rfl (by kernel_rfl) ?_
  refine l_alloc rfl zero52 h ?_
  clear h; intro xb w h
  refine l_storeB (old := #[.int .i64 0, .int .i64 0]) (cells := #[.int .i64 (i : Int), .int .i64 b]) (by kernel_rfl) rfl rfl rfl rfl h ?_
  clear h; intro w h
  refine l_nil ?_
  refine c_seq ?_
  -- region 10
  have hsn : row.take (j + 1) = row.take j ++ [b] := by rw [hb]; exact List.take_succ_eq_append_getElem hj
  have hdd := dd_snoc g.length b (row.take j) []
  rw [← hsn] at hdd
  obtain ⟨r, hrr⟩ : ∃ r, r = dd g.length [] (row.take j) := ⟨_, rfl⟩
  rw [← hrr] at h hdd
  have hlen : (outAt g i).length = g.length := outAt_length g (Nat.le_of_lt hi)
  obtain ⟨kl, hkl⟩ := key52 (x := (i : Int)) (y := b) (by rw [i64_min]; omega) (by rw [i64_max]; omega) (by rw [i64_min]; omega) (by rw [i64_max]; omega)
  have hval : (hadOf ((outAt g i).set i r) ((i : Int), b)).getD (.bool false) = .bool (decide (b ∈ r)) := by
    have e1 : ((outAt g i).set i r)[((i : Int)).toNat]? = some r := by rw [Int.toNat_natCast, List.getElem?_set_self (by rw [hlen]; exact hi)]
    simp only [hadOf, List.getD_eq_getElem?_getD, e1]
    by_cases hbr : b ∈ r
    · simp [hbr]
    · simp [hbr]
  rw [hdd]
  by_cases hb0 : 0 ≤ b
  rotate_left
  · -- below 0
    rw [if_neg (fun hh => hb0 hh.1)]
    refine c_region ?_
    refine l_move rfl rfl ?_
    refine l_geq rfl rfl rfl ?_
    refine l_set 31 (.bool false) rfl (vF hb0) ?_
    refine l_move rfl rfl ?_
    refine l_no rfl rfl rfl rfl ?_
    refine l_no rfl rfl rfl rfl ?_
    refine l_no rfl rfl rfl rfl ?_
    refine l_no rfl rfl rfl rfl ?_
    refine l_pick rfl rfl rfl ?_
    refine l_move rfl rfl ?_
    refine l_no rfl rfl rfl rfl ?_
    refine l_no rfl rfl rfl rfl ?_
    refine l_no rfl rfl rfl rfl ?_
    refine l_no rfl rfl rfl rfl ?_
    refine l_pick rfl rfl rfl ?_
    refine l_nil ?_
    refine c_condF rfl ?_
    refine c_skip ?_
    exact ⟨⟨rfl, rfl, rfl, rfl, rfl, rfl, rfl, rfl, rfl, rfl, trivial⟩, h.drop⟩
  by_cases hbn : b < (g.length : Int)
  rotate_left
  · -- no node
    rw [if_neg (fun hh => hbn hh.2.1)]
    refine c_region ?_
    refine l_move rfl rfl ?_
    refine l_geq rfl rfl rfl ?_
    refine l_set 31 (.bool true) rfl (vT hb0) ?_
    refine l_move rfl rfl ?_
    refine l_yes rfl rfl ?_
    refine l_move rfl rfl ?_
    refine l_yes rfl rfl ?_
    refine l_move rfl rfl ?_
    refine l_yes rfl rfl ?_
    refine l_len rfl Try.underlying23 rfl ?_
    refine l_yes rfl rfl ?_
    refine l_lss rfl rfl rfl ?_
    refine l_set 36 (.bool false) rfl (vF hbn) ?_
    refine l_pick rfl rfl rfl ?_
    refine l_move rfl rfl ?_
    refine l_no rfl rfl rfl rfl ?_
    refine l_no rfl rfl rfl rfl ?_
    refine l_no rfl rfl rfl rfl ?_
    refine l_no rfl rfl rfl rfl ?_
    refine l_pick rfl rfl rfl ?_
    refine l_nil ?_
    refine c_condF rfl ?_
    refine c_skip ?_
    exact ⟨⟨rfl, rfl, rfl, rfl, rfl, rfl, rfl, rfl, rfl, rfl, trivial⟩, h.drop⟩
  refine c_region ?_
  refine l_move rfl rfl ?_
  refine l_geq rfl rfl rfl ?_
  refine l_set 31 (.bool true) rfl (vT hb0) ?_
  refine l_move rfl rfl ?_
  refine l_yes rfl rfl ?_
  refine l_move rfl rfl ?_
  refine l_yes rfl rfl ?_
  refine l_move rfl rfl ?_
  refine l_yes rfl rfl ?_
  refine l_len rfl Try.underlying23 rfl ?_
  refine l_yes rfl rfl ?_
  refine l_lss rfl rfl rfl ?_
  refine l_set 36 (.bool true) rfl (vT hbn) ?_
  refine l_pick rfl rfl rfl ?_
  refine l_move rfl rfl ?_
  refine l_yes rfl rfl ?_
  refine l_move rfl rfl ?_
  refine l_yes rfl rfl ?_
  refine l_loadB rfl (by kernel_rfl) (by kernel_rfl) rfl h ?_
  refine l_yes rfl rfl ?_
  refine l_lookup (x := ((i : Int), b)) rfl law52 Try.underlying50 zero4 hkl rfl rfl (h.re [1]) ?_
  rw [hval]
  refine l_yes rfl rfl ?_
  refine l_not rfl rfl ?_
  refine l_pick rfl rfl rfl ?_
  refine l_nil ?_
  by_cases hbr : b ∈ r
  · -- it is there
    rw [if_neg (fun hh => hh.2.2 hbr)]
    refine c_set 43 (.bool false) rfl (vnF hbr) ?_
    refine c_condF rfl ?_
    refine c_skip ?_
    exact ⟨⟨rfl, rfl, rfl, rfl, rfl, rfl, rfl, rfl, rfl, rfl, trivial⟩, h.drop⟩
  · rw [if_pos ⟨hb0, hbn, hbr⟩]
    refine c_set 43 (.bool true) rfl (vnT hbr) ?_
    refine c_condT rfl ?_
    refine c_seq ?_
    -- region 11
    refine c_region ?_
    refine l_move rfl rfl ?_
    refine l_loadB rfl (by kernel_rfl) (by kernel_rfl) rfl h ?_
    refine l_mapUpdate (x := ((i : Int), b)) law52 pairV_inj Try.underlying50 hkl rfl rfl rfl (h.re [1]) ?_
    clear h; intro w h
    rw [hadOf_add (by rw [hlen]; exact hi)] at h
    refine l_nil ?_
    -- region 12
    obtain ⟨ad3, u, rfl, hcell, h'⟩ := (h.re [2]).os_take rfl rfl i (by simp [hlen, hi])
    rw [List.getElem_set_self] at h'
    refine c_region ?_
    refine l_move rfl rfl ?_
    refine l_move rfl rfl ?_
    refine l_move rfl rfl ?_
    refine l_move rfl rfl ?_
    refine l_indexAddr rfl Try.underlying23 sz26 rfl rfl (by omega) (by omega) ?_
    refine l_load rfl plain26 rfl (by simpa using hcell) ?_
    refine l_move rfl rfl ?_
    refine l_buildSlice1 (x := b) rfl Try.underlying26 sz3 zero3 rfl rfl (h'.addI64 b hb1 hb2) ?_
    clear h h' hcell; intro bs w h
    have hrl : r.length ≤ 100000 := by
      have := dd_length g.length (row.take j) []
      rw [← hrr, List.length_take] at this
      simp only [List.length_nil] at this
      omega
    refine l_append rfl Try.underlying26 info3 rfl (by decide) rfl rfl (h.re [1, 0]) (by simp only [List.length_cons, List.length_nil]; omega) (by simp only [List.length_cons, List.length_nil]; unfold maxLen; omega) ?_
    clear h; intro u' w h
    refine l_indexAddr rfl Try.underlying23 sz26 rfl rfl (by omega) (by omega) ?_
    have hone := pt_one h
    obtain ⟨ad4, y, had, hcell, hfr, h'⟩ := (h.re [1, 0]).os_give rfl rfl (by simp [hlen, hi])
    cases had
    refine l_store plain26 rfl rfl hone (by simpa using hcell) (by simpa using hfr) ?_
    refine l_nil ?_
    refine ⟨⟨rfl, rfl, rfl, rfl, rfl, rfl, rfl, rfl, rfl, rfl, trivial⟩, ?_⟩
    rw [List.set_set] at h'
    simp only [Int.toNat_natCast, Nat.mul_one]
    exact (h'.re [2]).drop.re [1, 0]
end Go.Proofs.Ythamopcfpmkbfaa
