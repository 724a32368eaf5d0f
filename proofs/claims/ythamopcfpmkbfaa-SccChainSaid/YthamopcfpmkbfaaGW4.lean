/- r15.Reach. No condition but that the graph is small. -/
import Derived.Test.YthamopcfpmkbfaaGW3
set_option linter.unusedVariables false
set_option linter.unusedSimpArgs false
namespace Go.Proofs.Ythamopcfpmkbfaa
open Go.Proofs.Fw
variable {w0 w : World} {L : List Res}
theorem reach15_calls (g : List (List Int)) (gv : Value) (a b : Int) (hn : g.length ≤ 100000) (hr : ∀ r ∈ g, r.length ≤ 100000) (h : St w0 (pt rsII gv g :: L) w) :
    Calls Try.prog 21 #[gv, .int .i64 a, .int .i64 b] w fun e w' => (∃ v : Bool, (v = true ↔ ReachG g a b) ∧ e = .returned (.bool v)) ∧ St w0 (pt rsII gv g :: L) w' := by
  obtain ⟨A, c, rfl, -, -⟩ := h.rs_form
  obtain ⟨t, hbits⟩ := reached_exists g a
  refine f_one Try.func21 rfl Try.results21 Try.ntmps21 rfl ?_
  refine c_seq ?_
  refine c_region ?_
  refine l_assign rfl rfl ?_
  refine l_nil ?_
  refine c_seq ?_
  refine c_region ?_
  refine l_move rfl rfl ?_
  refine l_geq rfl rfl rfl ?_
  by_cases hb0 : 0 ≤ b
  · refine l_set 8 (.bool true) rfl (vT hb0) ?_
    refine l_move rfl rfl ?_
    first | (refine l_yes rfl rfl ?_; first | refine l_move rfl rfl ?_) | refine l_no rfl rfl rfl rfl ?_ | refine l_no' rfl rfl rfl ?_
    first | (refine l_yes rfl rfl ?_; first | refine l_move rfl rfl ?_) | refine l_no rfl rfl rfl rfl ?_ | refine l_no' rfl rfl rfl ?_
    first | (refine l_yes rfl rfl ?_; first | refine l_len rfl Try.underlying23 rfl ?_ | refine l_len_string rfl Try.underlying23 rfl ?_) | refine l_no rfl rfl rfl rfl ?_ | refine l_no' rfl rfl rfl ?_
    first | (refine l_yes rfl rfl ?_; first | refine l_lss rfl rfl rfl ?_ | refine l_slss rfl rfl rfl ?_) | refine l_no rfl rfl rfl rfl ?_ | refine l_no' rfl rfl rfl ?_
    by_cases hbn : b < (g.length : Int)
    · refine l_set 13 (.bool true) rfl (vT hbn) ?_
      refine l_pick rfl rfl rfl ?_
      refine l_move rfl rfl ?_
      first | (refine l_yes rfl rfl ?_; first | refine l_move rfl rfl ?_) | refine l_no rfl rfl rfl rfl ?_ | refine l_no' rfl rfl rfl ?_
      first | (refine l_yes rfl rfl ?_; first | refine l_move rfl rfl ?_) | refine l_no rfl rfl rfl rfl ?_ | refine l_no' rfl rfl rfl ?_
      refine l_yes rfl rfl ?_
      refine l_call rfl Try.func32 rfl (by decide) rfl (reached_calls g (.slice A g.length c) a t hbits hn hr h) ?_
      clear h
      rintro e w ⟨vt, rfl, h⟩
      refine ⟨_, rfl, ?_⟩
      obtain ⟨bn, rfl⟩ : ∃ bn : Nat, b = (bn : Int) := ⟨b.toNat, by omega⟩
      have hbl : bn < g.length := by omega
      obtain ⟨At, ct, rfl, -, -⟩ := h.os_form' hbits.1
      obtain ⟨at', rfl⟩ := h.osN_ad rfl kBool_pers (i := bn) (by rw [hbits.1]; exact hbl)
      have q := h.osB_at (i := bn) (by rw [hbits.1]; exact hbl)
      first | (refine l_yes rfl rfl ?_; first | refine l_move rfl rfl ?_) | refine l_no rfl rfl rfl rfl ?_ | refine l_no' rfl rfl rfl ?_
      first | (refine l_yes rfl rfl ?_; first | refine l_indexAddr1 rfl Try.underlying41 (by first | exact sz_41) rfl rfl (by omega) ?_ | refine l_indexAddrN rfl Try.underlying41 (by first | exact sz_41) rfl rfl (by omega) ?_ | refine l_indexAddr rfl Try.underlying41 (by first | exact sz_41) rfl rfl (by omega) (by omega) ?_) | refine l_no rfl rfl rfl rfl ?_ | refine l_no' rfl rfl rfl ?_
      first | (refine l_yes rfl rfl ?_; first | refine l_load rfl plain4 rfl (by assumption) ?_) | refine l_no rfl rfl rfl rfl ?_ | refine l_no' rfl rfl rfl ?_
      refine l_pick rfl rfl rfl ?_
      refine l_assign rfl rfl ?_
      refine l_nil ?_
      refine c_ret ⟨.inr rfl, _, rfl, ⟨_, ?_, rfl⟩, h.drop⟩
      have hD : t.getD bn false = t[bn]'(by rw [hbits.1]; exact hbl) := by simp [List.getD_eq_getElem?_getD, hbits.1, hbl]
      rw [← hD, hbits.2 bn hbl]
      simp only [ReachG, Int.toNat_natCast]
      constructor
      · rintro ⟨k1, k2, k3⟩; exact ⟨k1, k2, hb0, hbn, k3⟩
      · rintro ⟨k1, k2, -, -, k3⟩; exact ⟨k1, k2, k3⟩
    · refine l_set 13 (.bool false) rfl (vF hbn) ?_
      refine l_pick rfl rfl rfl ?_
      refine l_move rfl rfl ?_
      first | (refine l_yes rfl rfl ?_; first | refine l_move rfl rfl ?_) | refine l_no rfl rfl rfl rfl ?_ | refine l_no' rfl rfl rfl ?_
      first | (refine l_yes rfl rfl ?_; first | refine l_move rfl rfl ?_) | refine l_no rfl rfl rfl rfl ?_ | refine l_no' rfl rfl rfl ?_
      refine l_no rfl rfl rfl rfl ?_
      first | (refine l_yes rfl rfl ?_; first | refine l_move rfl rfl ?_) | refine l_no rfl rfl rfl rfl ?_ | refine l_no' rfl rfl rfl ?_
      first | (refine l_yes rfl rfl ?_; first | refine l_indexAddr1 rfl Try.underlying41 (by first | exact sz_41) rfl rfl (by omega) ?_ | refine l_indexAddrN rfl Try.underlying41 (by first | exact sz_41) rfl rfl (by omega) ?_ | refine l_indexAddr rfl Try.underlying41 (by first | exact sz_41) rfl rfl (by omega) (by omega) ?_) | refine l_no rfl rfl rfl rfl ?_ | refine l_no' rfl rfl rfl ?_
      first | (refine l_yes rfl rfl ?_; first | refine l_load rfl plain4 rfl (by assumption) ?_) | refine l_no rfl rfl rfl rfl ?_ | refine l_no' rfl rfl rfl ?_
      refine l_pick rfl rfl rfl ?_
      refine l_assign rfl rfl ?_
      refine l_nil ?_
      refine c_ret ⟨.inr rfl, _, rfl, ⟨_, ?_, rfl⟩, h⟩
      simp only [ReachG]
      constructor
      · intro k; cases k
      · intro k; omega
  · refine l_set 8 (.bool false) rfl (vF hb0) ?_
    refine l_move rfl rfl ?_
    first | (refine l_yes rfl rfl ?_; first | refine l_move rfl rfl ?_) | refine l_no rfl rfl rfl rfl ?_ | refine l_no' rfl rfl rfl ?_
    first | (refine l_yes rfl rfl ?_; first | refine l_move rfl rfl ?_) | refine l_no rfl rfl rfl rfl ?_ | refine l_no' rfl rfl rfl ?_
    first | (refine l_yes rfl rfl ?_; first | refine l_len rfl Try.underlying23 rfl ?_ | refine l_len_string rfl Try.underlying23 rfl ?_) | refine l_no rfl rfl rfl rfl ?_ | refine l_no' rfl rfl rfl ?_
    first | (refine l_yes rfl rfl ?_; first | refine l_lss rfl rfl rfl ?_ | refine l_slss rfl rfl rfl ?_) | refine l_no rfl rfl rfl rfl ?_ | refine l_no' rfl rfl rfl ?_
    refine l_pick rfl rfl rfl ?_
    refine l_move rfl rfl ?_
    first | (refine l_yes rfl rfl ?_; first | refine l_move rfl rfl ?_) | refine l_no rfl rfl rfl rfl ?_ | refine l_no' rfl rfl rfl ?_
    first | (refine l_yes rfl rfl ?_; first | refine l_move rfl rfl ?_) | refine l_no rfl rfl rfl rfl ?_ | refine l_no' rfl rfl rfl ?_
    refine l_no rfl rfl rfl rfl ?_
    first | (refine l_yes rfl rfl ?_; first | refine l_move rfl rfl ?_) | refine l_no rfl rfl rfl rfl ?_ | refine l_no' rfl rfl rfl ?_
    first | (refine l_yes rfl rfl ?_; first | refine l_indexAddr1 rfl Try.underlying41 (by first | exact sz_41) rfl rfl (by omega) ?_ | refine l_indexAddrN rfl Try.underlying41 (by first | exact sz_41) rfl rfl (by omega) ?_ | refine l_indexAddr rfl Try.underlying41 (by first | exact sz_41) rfl rfl (by omega) (by omega) ?_) | refine l_no rfl rfl rfl rfl ?_ | refine l_no' rfl rfl rfl ?_
    first | (refine l_yes rfl rfl ?_; first | refine l_load rfl plain4 rfl (by assumption) ?_) | refine l_no rfl rfl rfl rfl ?_ | refine l_no' rfl rfl rfl ?_
    refine l_pick rfl rfl rfl ?_
    refine l_assign rfl rfl ?_
    refine l_nil ?_
    refine c_ret ⟨.inr rfl, _, rfl, ⟨_, ?_, rfl⟩, h⟩
    simp only [ReachG]
    constructor
    · intro k; cases k
    · intro k; omega
end Go.Proofs.Ythamopcfpmkbfaa
