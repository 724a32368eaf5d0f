/- l15.Great. No condition but that rows are of a size that a machine can hold. -/
import Derived.Test.YthamopcfpmkbfaaGI
set_option linter.unusedVariables false
set_option linter.unusedSimpArgs false
namespace Go.Proofs.Ythamopcfpmkbfaa
open Go.Proofs.Fw
variable {w0 w : World} {L : List Res}
theorem sum_ge : ∀ (l : List (List Int)) (r : List Int), r ∈ l → r.length ≤ (l.map List.length).sum
  | [], r, h => by cases h
  | a :: l, r, h => by
    simp only [List.map_cons, List.sum_cons]
    rcases List.mem_cons.1 h with rfl | h
    · omega
    · have := sum_ge l r h; omega
theorem great_calls (g : List (List Int)) (gv : Value) (hr : ∀ r ∈ g, r.length ≤ 35184372088832) (h : St w0 (pt rsII gv g :: L) w) :
    Calls Try.prog 18 #[gv] w fun e w' => (∃ v : Bool, e = .returned (.bool v) ∧ (v = false → g.length ≤ 40 ∧ ∀ r ∈ g, r.length ≤ 300)) ∧ St w0 (pt rsII gv g :: L) w' := by
  obtain ⟨A, c, rfl, hc1, hc2⟩ := h.rs_form
  have hlen := bound63 hc1 hc2
  refine f_one Try.func18 rfl Try.results18 Try.ntmps18 rfl ?_
  refine c_seq ?_
  refine c_region ?_
  refine l_assign rfl rfl ?_
  refine l_nil ?_
  refine c_seq ?_
  refine c_region ?_
  refine l_assign rfl rfl ?_
  refine l_nil ?_
  refine c_seq ?_
  refine c_seq ?_
  refine c_region ?_
  refine l_assign rfl rfl ?_
  refine l_nil ?_
  refine c_block ?_
  refine c_loop' (fun m env w => ∃ i s : Nat, i + m = 60 ∧ i ≤ g.length ∧ s = ((g.take i).map List.length).sum ∧ s ≤ i * 35184372088832 ∧ env = [(0, .slice A g.length c), (3, .int .i64 (s : Int)), (4, .int .i64 (i : Int))] ∧ St w0 (pt rsII (.slice A g.length c) g :: L) w) 60 [(0, .slice A g.length c), (3, .int .i64 ((0 : Nat) : Int)), (4, .int .i64 ((0 : Nat) : Int))] ⟨rfl, rfl, rfl, trivial⟩ ⟨0, 0, by omega, by omega, by simp, by omega, rfl, h⟩ ?_
  clear h
  rintro m env w ⟨i, s, him, hig, hs, hsb, rfl, h⟩
  refine c_seq ?_
  refine c_seq ?_
  refine c_region ?_
  refine l_move rfl rfl ?_
  refine l_move rfl rfl ?_
  first | refine l_len rfl Try.underlying23 rfl ?_ | refine l_len_string rfl Try.underlying23 rfl ?_
  first | refine l_lss rfl rfl rfl ?_ | refine l_slss rfl rfl rfl ?_
  have hend : ∀ (w : World), (¬ i < g.length ∨ ¬ i < 60) → St w0 (pt rsII (.slice A g.length c) g :: L) w → (decide ((40 : Int) < (g.length : Int)) || decide ((300 : Int) < (s : Int))) = false → g.length ≤ 40 ∧ ∀ r ∈ g, r.length ≤ 300 := fun w h1 h2 h3 => by
    simp only [Bool.or_eq_false_iff, decide_eq_false_iff_not] at h3
    have hi : i = g.length := by omega
    refine ⟨by omega, fun r hr => ?_⟩
    rw [hi, List.take_length] at hs
    have := sum_ge g r hr
    omega
  have tail : ∀ (w : World), (¬ i < g.length ∨ ¬ i < 60) → St w0 (pt rsII (.slice A g.length c) g :: L) w → True := fun _ _ _ => trivial
  by_cases h1 : (i : Int) < (g.length : Int)
  · refine l_set 8 (.bool true) rfl (vT h1) ?_
    refine l_move rfl rfl ?_
    first | (refine l_yes rfl rfl ?_; first | refine l_move rfl rfl ?_) | refine l_no rfl rfl rfl rfl ?_ | refine l_no' rfl rfl rfl ?_
    first | (refine l_yes rfl rfl ?_; first | refine l_lss rfl rfl rfl ?_ | refine l_slss rfl rfl rfl ?_) | refine l_no rfl rfl rfl rfl ?_ | refine l_no' rfl rfl rfl ?_
    by_cases h2 : (i : Int) < 60
    · refine l_set 11 (.bool true) rfl (vT h2) ?_
      refine l_pick rfl rfl rfl ?_
      refine l_nil ?_
      refine c_condT rfl ?_
      refine c_skip ?_
      have hi : i < g.length := by omega
      obtain ⟨ad, u, hA, q, h'⟩ := h.rs_cell rfl rfl i hi
      subst hA
      obtain ⟨Ar, cr, rfl, -, -⟩ := h'.rs_form
      have hri := hr _ (List.getElem_mem hi)
      refine c_seq ?_
      refine c_block ?_
      refine c_region ?_
      refine l_move rfl rfl ?_
      refine l_move rfl rfl ?_
      refine l_move rfl rfl ?_
      first | refine l_indexAddr1 rfl Try.underlying23 (by first | exact sz_23) rfl rfl (by omega) ?_ | refine l_indexAddrN rfl Try.underlying23 (by first | exact sz_23) rfl rfl (by omega) ?_ | refine l_indexAddr rfl Try.underlying23 (by first | exact sz_23) rfl rfl (by omega) (by omega) ?_
      refine l_load rfl plain26 rfl (by assumption) ?_
      first | refine l_len rfl Try.underlying26 rfl ?_ | refine l_len_string rfl Try.underlying26 rfl ?_
      first | refine l_addr rfl rfl rfl (by omega) (by omega) ?_ | refine l_sadd rfl rfl rfl (by omega) ?_
      refine l_assign rfl rfl ?_
      refine l_nil ?_
      refine c_region ?_
      refine l_move rfl rfl ?_
      first | refine l_addr rfl rfl rfl (by omega) (by omega) ?_ | refine l_sadd rfl rfl rfl (by omega) ?_
      refine l_assign rfl rfl ?_
      refine l_nil ?_
      refine ⟨m - 1, [(0, .slice (some ad) g.length c), (3, .int .i64 ((s + g[i].length : Nat) : Int)), (4, .int .i64 ((i + 1 : Nat) : Int))], by omega, ⟨rfl, rfl, rfl, trivial⟩, i + 1, s + g[i].length, by omega, by omega, ?_, by omega, rfl, h⟩
      rw [List.take_succ_eq_append_getElem hi, List.map_append, List.sum_append, ← hs]
      simp
    · refine l_set 11 (.bool false) rfl (vF h2) ?_
      refine l_pick rfl rfl rfl ?_
      refine l_nil ?_
      refine c_condF rfl ?_
      refine c_exit ?_
      refine c_seq ?_
      refine c_region ?_
      refine l_move rfl rfl ?_
      first | refine l_len rfl Try.underlying23 rfl ?_ | refine l_len_string rfl Try.underlying23 rfl ?_
      refine l_gtr rfl rfl rfl ?_
      refine l_set 24 (.bool true) rfl (vT (by omega)) ?_
      refine l_move rfl rfl ?_
      first | (refine l_yes rfl rfl ?_; first | refine l_move rfl rfl ?_) | refine l_no rfl rfl rfl rfl ?_ | refine l_no' rfl rfl rfl ?_
      first | (refine l_yes rfl rfl ?_; first | refine l_gtr rfl rfl rfl ?_) | refine l_no rfl rfl rfl rfl ?_ | refine l_no' rfl rfl rfl ?_
      refine l_pick rfl rfl rfl ?_
      refine l_assign rfl rfl ?_
      refine l_nil ?_
      refine c_ret ⟨.inr rfl, _, rfl, ⟨true, rfl, fun k => nomatch k⟩, h⟩
  · refine l_set 8 (.bool false) rfl (vF h1) ?_
    refine l_move rfl rfl ?_
    first | (refine l_yes rfl rfl ?_; first | refine l_move rfl rfl ?_) | refine l_no rfl rfl rfl rfl ?_ | refine l_no' rfl rfl rfl ?_
    first | (refine l_yes rfl rfl ?_; first | refine l_lss rfl rfl rfl ?_ | refine l_slss rfl rfl rfl ?_) | refine l_no rfl rfl rfl rfl ?_ | refine l_no' rfl rfl rfl ?_
    refine l_pick rfl rfl rfl ?_
    refine l_nil ?_
    refine c_condF rfl ?_
    refine c_exit ?_
    refine c_seq ?_
    refine c_region ?_
    refine l_move rfl rfl ?_
    first | refine l_len rfl Try.underlying23 rfl ?_ | refine l_len_string rfl Try.underlying23 rfl ?_
    refine l_gtr rfl rfl rfl ?_
    by_cases h3 : (g.length : Int) > 40
    · refine l_set 24 (.bool true) rfl (vT h3) ?_
      refine l_move rfl rfl ?_
      first | (refine l_yes rfl rfl ?_; first | refine l_move rfl rfl ?_) | refine l_no rfl rfl rfl rfl ?_ | refine l_no' rfl rfl rfl ?_
      first | (refine l_yes rfl rfl ?_; first | refine l_gtr rfl rfl rfl ?_) | refine l_no rfl rfl rfl rfl ?_ | refine l_no' rfl rfl rfl ?_
      refine l_pick rfl rfl rfl ?_
      refine l_assign rfl rfl ?_
      refine l_nil ?_
      refine c_ret ⟨.inr rfl, _, rfl, ⟨true, rfl, fun k => nomatch k⟩, h⟩
    · refine l_set 24 (.bool false) rfl (vF h3) ?_
      refine l_move rfl rfl ?_
      first | (refine l_yes rfl rfl ?_; first | refine l_move rfl rfl ?_) | refine l_no rfl rfl rfl rfl ?_ | refine l_no' rfl rfl rfl ?_
      first | (refine l_yes rfl rfl ?_; first | refine l_gtr rfl rfl rfl ?_) | refine l_no rfl rfl rfl rfl ?_ | refine l_no' rfl rfl rfl ?_
      refine l_pick rfl rfl rfl ?_
      refine l_assign rfl rfl ?_
      refine l_nil ?_
      refine c_ret ⟨.inr rfl, _, rfl, ⟨_, rfl, fun k => ?_⟩, h⟩
      have k' := of_decide_eq_false k
      have hi : i = g.length := by omega
      refine ⟨by omega, fun r hr => ?_⟩
      rw [hi, List.take_length] at hs
      have := sum_ge g r hr
      omega
end Go.Proofs.Ythamopcfpmkbfaa
