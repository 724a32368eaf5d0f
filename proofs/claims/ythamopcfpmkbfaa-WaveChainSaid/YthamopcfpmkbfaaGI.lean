/- Lists compared: r1.Ints, r15.SameLists. No condition. -/
import Derived.Test.YthamopcfpmkbfaaGS
set_option linter.unusedVariables false
set_option linter.unusedSimpArgs false
namespace Go.Proofs.Ythamopcfpmkbfaa
open Go.Proofs.Fw
abbrev kI : Kd Int := kInt .i64
abbrev rsI : Kd (List Int) := rs kI
abbrev rsII : Kd (List (List Int)) := rs rsI
variable {w0 w : World} {L : List Res}
theorem bound63 {a c : Nat} (h1 : a ≤ c) (h2 : c ≤ maxLen) : a ≤ 9223372036854775807 := by unfold maxLen at h2; omega
theorem take_eq_succ {α : Type} {a b : List α} {i : Nat} (ha : i < a.length) (hb : i < b.length) (h : a.take i = b.take i) : a.take (i + 1) = b.take (i + 1) ↔ a[i] = b[i] := by
  rw [List.take_succ_eq_append_getElem ha, List.take_succ_eq_append_getElem hb, h]
  refine ⟨fun e => ?_, fun e => by rw [e]⟩
  have := List.append_cancel_left e
  injection this
theorem ints_calls {a b : List Int} {va vb : Value} (h : St w0 (pt rsI va a :: pt rsI vb b :: L) w) : Calls Try.prog 17 #[va, vb] w fun e w' => e = .returned (.bool (decide (a = b))) ∧ St w0 (pt rsI va a :: pt rsI vb b :: L) w' := by
  obtain ⟨A, ca, rfl, ha1, ha2⟩ := h.rs_form
  obtain ⟨B, cb, rfl, hb1, hb2⟩ := (h.re [1]).rs_form
  have hla := bound63 ha1 ha2
  refine f_one Try.func17 rfl Try.results17 Try.ntmps17 rfl ?_
  refine c_seq ?_
  refine c_region ?_
  refine l_assign rfl rfl ?_
  refine l_nil ?_
  refine c_seq ?_
  refine c_seq ?_
  refine c_region ?_
  refine l_move rfl rfl ?_
  first | refine l_len rfl Try.underlying26 rfl ?_ | refine l_len_string rfl Try.underlying26 rfl ?_
  refine l_move rfl rfl ?_
  first | refine l_len rfl Try.underlying26 rfl ?_ | refine l_len_string rfl Try.underlying26 rfl ?_
  first | refine l_neq rfl rfl rfl ?_ | refine l_sneq rfl rfl rfl ?_
  refine l_nil ?_
  refine c_if _ rfl (fun hc => ?_) (fun hc => ?_)
  · refine c_seq ?_
    refine c_region ?_
    refine l_assign rfl rfl ?_
    refine l_nil ?_
    refine c_ret ⟨.inr rfl, _, rfl, ?_, h⟩
    rw [decide_eq_false (fun e => hc (by rw [e]))]
  have hl : a.length = b.length := by omega
  refine c_skip ?_
  refine c_seq ?_
  refine c_seq ?_
  refine c_region ?_
  refine l_assign rfl rfl ?_
  refine l_nil ?_
  refine c_block ?_
  refine c_loop' (fun m env w => ∃ i, i + m = a.length ∧ a.take i = b.take i ∧ env = [(0, .slice A a.length ca), (1, .slice B b.length cb), (5, .int .i64 (i : Int))] ∧ St w0 (pt rsI (.slice A a.length ca) a :: pt rsI (.slice B b.length cb) b :: L) w) a.length [(0, .slice A a.length ca), (1, .slice B b.length cb), (5, .int .i64 ((0 : Nat) : Int))] ⟨rfl, rfl, rfl, trivial⟩ ⟨0, by omega, rfl, rfl, h⟩ ?_
  clear h
  rintro m env w ⟨i, him, heq, rfl, h⟩
  refine c_seq ?_
  refine c_seq ?_
  refine c_region ?_
  refine l_move rfl rfl ?_
  refine l_move rfl rfl ?_
  first | refine l_len rfl Try.underlying26 rfl ?_ | refine l_len_string rfl Try.underlying26 rfl ?_
  first | refine l_lss rfl rfl rfl ?_ | refine l_slss rfl rfl rfl ?_
  refine l_nil ?_
  refine c_if _ rfl (fun hc => ?_) (fun hc => ?_)
  · have hi : i < a.length := by omega
    have hib : i < b.length := by omega
    refine c_skip ?_
    refine c_seqS [(0, .slice A a.length ca), (1, .slice B b.length cb), (5, .int .i64 (i : Int))] (fun w => a.take (i + 1) = b.take (i + 1) ∧ St w0 (pt rsI (.slice A a.length ca) a :: pt rsI (.slice B b.length cb) b :: L) w) ?_ ?_
    rotate_left
    · clear h
      rintro w ⟨heq', h⟩
      refine c_region ?_
      refine l_move rfl rfl ?_
      first | refine l_addr rfl rfl rfl (by omega) (by omega) ?_ | refine l_sadd rfl rfl rfl (by omega) ?_
      refine l_assign rfl rfl ?_
      refine l_nil ?_
      exact ⟨m - 1, [(0, .slice A a.length ca), (1, .slice B b.length cb), (5, .int .i64 ((i + 1 : Nat) : Int))], by omega, ⟨rfl, rfl, rfl, trivial⟩, i + 1, by omega, heq', rfl, h⟩
    obtain ⟨ad, rfl⟩ := h.rsN_ad rfl hi
    obtain ⟨bd, rfl⟩ := (h.re [1]).rsN_ad rfl hib
    refine c_block ?_
    refine c_seq ?_
    refine c_draw (by kernel_rfl) (fun w1 W => W = w1) (fun i => ([4, 5, 6, 7] : List Nat).contains i) [.p 0 [], .p 1 [], .p 2 [], .q 3 [8], .p 4 [], .p 5 [], .p 6 [], .q 7 [8], .p 8 []] (by kernel_rfl) rfl (by kernel_rfl) h ?_
    clear h; intro w h hw
    clear hw
    have q1 := (h.rsI_at hi).1
    have q2 := ((h.re [1]).rsI_at hib).1
    refine d_val rfl rfl (e_move rfl) ?_
    refine d_val rfl rfl (e_move rfl) ?_
    first | refine d_val rfl rfl (e_indexAddr1 Try.underlying26 (by first | exact sz_26) rfl rfl (by omega)) ?_ | refine d_val rfl rfl (e_indexAddrN Try.underlying26 (by first | exact sz_26) rfl rfl (by omega)) ?_ | refine d_val rfl rfl (e_indexAddr Try.underlying26 (by first | exact sz_26) rfl rfl (by omega) (by omega)) ?_
    refine d_load1 rfl rfl plain3 rfl (by assumption) ?_
    refine d_val rfl rfl (e_move rfl) ?_
    refine d_val rfl rfl (e_move rfl) ?_
    first | refine d_val rfl rfl (e_indexAddr1 Try.underlying26 (by first | exact sz_26) rfl rfl (by omega)) ?_ | refine d_val rfl rfl (e_indexAddrN Try.underlying26 (by first | exact sz_26) rfl rfl (by omega)) ?_ | refine d_val rfl rfl (e_indexAddr Try.underlying26 (by first | exact sz_26) rfl rfl (by omega) (by omega)) ?_
    refine d_load1 rfl rfl plain3 rfl (by assumption) ?_
    first | refine d_val rfl rfl (e_neq rfl rfl) ?_ | refine d_val rfl rfl (e_sneq rfl rfl) ?_
    refine d_nil ?_
    refine c_if _ rfl (fun hne => ?_) (fun hne => ?_)
    · refine c_seq ?_
      refine c_region ?_
      refine l_assign rfl rfl ?_
      refine l_nil ?_
      refine c_ret ⟨.inr rfl, _, rfl, ?_, h⟩
      rw [decide_eq_false (fun e => hne (by subst e; rfl))]
    · refine c_skip ?_
      exact ⟨⟨rfl, rfl, rfl, trivial⟩, (take_eq_succ hi hib heq).2 (by simpa using hne), h⟩
  · refine c_exit ?_
    have hi : i = a.length := by omega
    subst hi
    refine c_seq ?_
    refine c_region ?_
    refine l_assign rfl rfl ?_
    refine l_nil ?_
    refine c_ret ⟨.inr rfl, _, rfl, ?_, h⟩
    rw [List.take_length, hl, List.take_length] at heq
    rw [decide_eq_true heq]
theorem same_calls {a b : List (List Int)} {va vb : Value} (h : St w0 (pt rsII va a :: pt rsII vb b :: L) w) : Calls Try.prog 16 #[va, vb] w fun e w' => e = .returned (.bool (decide (a = b))) ∧ St w0 (pt rsII va a :: pt rsII vb b :: L) w' := by
  obtain ⟨A, ca, rfl, ha1, ha2⟩ := h.rs_form
  obtain ⟨B, cb, rfl, hb1, hb2⟩ := (h.re [1]).rs_form
  have hla := bound63 ha1 ha2
  refine f_one Try.func16 rfl Try.results16 Try.ntmps16 rfl ?_
  refine c_seq ?_
  refine c_region ?_
  refine l_assign rfl rfl ?_
  refine l_nil ?_
  refine c_seq ?_
  refine c_seq ?_
  refine c_region ?_
  refine l_move rfl rfl ?_
  first | refine l_len rfl Try.underlying23 rfl ?_ | refine l_len_string rfl Try.underlying23 rfl ?_
  refine l_move rfl rfl ?_
  first | refine l_len rfl Try.underlying23 rfl ?_ | refine l_len_string rfl Try.underlying23 rfl ?_
  first | refine l_neq rfl rfl rfl ?_ | refine l_sneq rfl rfl rfl ?_
  refine l_nil ?_
  refine c_if _ rfl (fun hc => ?_) (fun hc => ?_)
  · refine c_seq ?_
    refine c_region ?_
    refine l_assign rfl rfl ?_
    refine l_nil ?_
    refine c_ret ⟨.inr rfl, _, rfl, ?_, h⟩
    rw [decide_eq_false (fun e => hc (by rw [e]))]
  have hl : a.length = b.length := by omega
  refine c_skip ?_
  refine c_seq ?_
  refine c_seq ?_
  refine c_region ?_
  refine l_assign rfl rfl ?_
  refine l_nil ?_
  refine c_block ?_
  refine c_loop' (fun m env w => ∃ i, i + m = a.length ∧ a.take i = b.take i ∧ env = [(0, .slice A a.length ca), (1, .slice B b.length cb), (5, .int .i64 (i : Int))] ∧ St w0 (pt rsII (.slice A a.length ca) a :: pt rsII (.slice B b.length cb) b :: L) w) a.length [(0, .slice A a.length ca), (1, .slice B b.length cb), (5, .int .i64 ((0 : Nat) : Int))] ⟨rfl, rfl, rfl, trivial⟩ ⟨0, by omega, rfl, rfl, h⟩ ?_
  clear h
  rintro m env w ⟨i, him, heq, rfl, h⟩
  refine c_seq ?_
  refine c_seq ?_
  refine c_region ?_
  refine l_move rfl rfl ?_
  refine l_move rfl rfl ?_
  first | refine l_len rfl Try.underlying23 rfl ?_ | refine l_len_string rfl Try.underlying23 rfl ?_
  first | refine l_lss rfl rfl rfl ?_ | refine l_slss rfl rfl rfl ?_
  refine l_nil ?_
  refine c_if _ rfl (fun hc => ?_) (fun hc => ?_)
  · have hi : i < a.length := by omega
    have hib : i < b.length := by omega
    refine c_skip ?_
    refine c_seqS [(0, .slice A a.length ca), (1, .slice B b.length cb), (5, .int .i64 (i : Int))] (fun w => a.take (i + 1) = b.take (i + 1) ∧ St w0 (pt rsII (.slice A a.length ca) a :: pt rsII (.slice B b.length cb) b :: L) w) ?_ ?_
    rotate_left
    · clear h
      rintro w ⟨heq', h⟩
      refine c_region ?_
      refine l_move rfl rfl ?_
      first | refine l_addr rfl rfl rfl (by omega) (by omega) ?_ | refine l_sadd rfl rfl rfl (by omega) ?_
      refine l_assign rfl rfl ?_
      refine l_nil ?_
      exact ⟨m - 1, [(0, .slice A a.length ca), (1, .slice B b.length cb), (5, .int .i64 ((i + 1 : Nat) : Int))], by omega, ⟨rfl, rfl, rfl, trivial⟩, i + 1, by omega, heq', rfl, h⟩
    obtain ⟨ad, rfl⟩ := h.rsN_ad rfl hi
    obtain ⟨bd, rfl⟩ := (h.re [1]).rsN_ad rfl hib
    refine c_block ?_
    refine c_seq ?_
    refine c_draw (by kernel_rfl) (fun w1 W => W = w1) (fun i => ([4, 5, 6, 7] : List Nat).contains i) [.p 0 [], .p 1 [], .p 2 [], .q 3 [8, 9], .p 4 [], .p 5 [], .p 6 [], .q 7 [8, 9], .x 8, .p 9 []] (by kernel_rfl) rfl (by kernel_rfl) h ?_
    clear h; intro w h hw
    clear hw
    obtain ⟨ad', u, hA, q1, h1⟩ := h.rs_cell rfl rfl i hi
    cases hA
    obtain ⟨bd', u2, hB, q2, h2⟩ := (h1.re [2]).rs_cell rfl rfl i hib
    cases hB
    refine d_val rfl rfl (e_move rfl) ?_
    refine d_val rfl rfl (e_move rfl) ?_
    first | refine d_val rfl rfl (e_indexAddr1 Try.underlying23 (by first | exact sz_23) rfl rfl (by omega)) ?_ | refine d_val rfl rfl (e_indexAddrN Try.underlying23 (by first | exact sz_23) rfl rfl (by omega)) ?_ | refine d_val rfl rfl (e_indexAddr Try.underlying23 (by first | exact sz_23) rfl rfl (by omega) (by omega)) ?_
    refine d_load1 rfl rfl plain26 rfl (by assumption) ?_
    refine d_val rfl rfl (e_move rfl) ?_
    refine d_val rfl rfl (e_move rfl) ?_
    first | refine d_val rfl rfl (e_indexAddr1 Try.underlying23 (by first | exact sz_23) rfl rfl (by omega)) ?_ | refine d_val rfl rfl (e_indexAddrN Try.underlying23 (by first | exact sz_23) rfl rfl (by omega)) ?_ | refine d_val rfl rfl (e_indexAddr Try.underlying23 (by first | exact sz_23) rfl rfl (by omega) (by omega)) ?_
    refine d_load1 rfl rfl plain26 rfl (by assumption) ?_
    refine d_step rfl ?_
    refine l_call rfl Try.func17 rfl (by decide) rfl (ints_calls (h2.re [2, 0])) ?_
    rintro e w' ⟨rfl, h'⟩
    replace h' : St w0 (pt rsII (.slice (some ad) a.length ca) a :: pt rsII (.slice (some bd) b.length cb) b :: L) w' := ((h'.drop).drop).re [1, 0]
    refine ⟨_, rfl, l_nil ⟨fun hf => (nomatch hf), ?_⟩⟩
    refine d_val rfl rfl (e_not rfl) ?_
    refine d_nil ?_
    refine c_cond _ rfl (fun hne => ?_) (fun hne => ?_)
    · refine c_seq ?_
      refine c_region ?_
      refine l_assign rfl rfl ?_
      refine l_nil ?_
      refine c_ret ⟨.inr rfl, _, rfl, ?_, h'⟩
      have hne' : a[i] ≠ b[i] := by simpa using hne
      rw [decide_eq_false (fun e => hne' (by subst e; rfl))]
    · refine c_skip ?_
      exact ⟨⟨rfl, rfl, rfl, trivial⟩, (take_eq_succ hi hib heq).2 (by simpa using hne), h'⟩
  · refine c_exit ?_
    have hi : i = a.length := by omega
    subst hi
    refine c_seq ?_
    refine c_region ?_
    refine l_assign rfl rfl ?_
    refine l_nil ?_
    refine c_ret ⟨.inr rfl, _, rfl, ?_, h⟩
    rw [List.take_length, hl, List.take_length] at heq
    rw [decide_eq_true heq]
end Go.Proofs.Ythamopcfpmkbfaa
