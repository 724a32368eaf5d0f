/- The law WaveAll, walked. No condition but that rows are of a size that a machine can hold. -/
import Derived.Test.YthamopcfpmkbfaaLA
import Derived.Test.YthamopcfpmkbfaaGV5
import Derived.Test.YthamopcfpmkbfaaGX7
set_option linter.unusedVariables false
set_option linter.unusedSimpArgs false
namespace Go.Proofs.Ythamopcfpmkbfaa
open Go.Proofs.Fw
variable {w0 w : World} {L : List Res}
theorem waveall_calls (g : List (List Int)) (gv : Value) (hr : ∀ r ∈ g, r.length ≤ 35184372088832) (h : St w0 (pt rsII gv g :: L) w) :
    Calls Try.prog 10 #[gv] w fun e w' => e = .returned (.bool true) ∧ St w0 (pt rsII gv g :: L) w' := by
  refine f_one Try.func10 rfl Try.results10 Try.ntmps10 rfl ?_
  refine c_seq ?_
  refine c_region ?_
  refine l_assign rfl rfl ?_
  refine l_nil ?_
  refine c_seq ?_
  refine c_region ?_
  refine l_move rfl rfl ?_
  refine l_call rfl Try.func18 rfl (by decide) rfl (great_calls g gv hr h) ?_
  clear h
  rintro e w ⟨⟨v, rfl, hv⟩, h⟩
  refine ⟨_, rfl, ?_⟩
  cases v with
  | true =>
    refine l_move rfl rfl ?_
    repeat (first | refine l_no rfl rfl rfl rfl ?_ | refine l_no' rfl rfl rfl ?_)
    refine l_pick rfl rfl rfl ?_
    refine l_assign rfl rfl ?_
    refine l_nil ?_
    refine c_ret ⟨.inr rfl, _, rfl, rfl, h⟩
  | false =>
    obtain ⟨h40, h300⟩ := hv rfl
    have hn : g.length ≤ 100000 := by omega
    have hrr : ∀ r ∈ g, r.length ≤ 100000 := fun r hr => by have := h300 r hr; omega
    obtain ⟨gs, hgs⟩ := grp_exists g hn
    obtain ⟨Lv, hLv⟩ := lvG_exists hgs
    refine l_move rfl rfl ?_
    first | (refine l_yes rfl rfl ?_; first | refine l_move rfl rfl ?_) | refine l_no rfl rfl rfl rfl ?_ | refine l_no' rfl rfl rfl ?_
    refine l_yes rfl rfl ?_
    refine l_call rfl Try.func22 rfl (by decide) rfl (levels_calls hgs hLv gv hn hrr h) ?_
    clear h
    rintro e w ⟨v1, rfl, h⟩
    refine ⟨_, rfl, ?_⟩
    first | (refine l_yes rfl rfl ?_; first | refine l_move rfl rfl ?_) | refine l_no rfl rfl rfl rfl ?_ | refine l_no' rfl rfl rfl ?_
    refine l_yes rfl rfl ?_
    refine l_call rfl Try.func24 rfl (by decide) rfl (levels15_calls hgs hLv gv hn hrr (h.re [1])) ?_
    clear h
    rintro e w ⟨v2, rfl, h⟩
    refine ⟨_, rfl, ?_⟩
    replace h := osN_rs h
    replace h := osN_rs (h.re [2])
    refine l_yes rfl rfl ?_
    refine l_call rfl Try.func17 rfl (by decide) rfl (ints_calls (h.re [0, 1])) ?_
    clear h
    rintro e w ⟨rfl, h⟩
    refine ⟨_, rfl, ?_⟩
    refine l_set 10 (.bool true) rfl (by simp) ?_
    first | (refine l_yes rfl rfl ?_; first | refine l_move rfl rfl ?_) | refine l_no rfl rfl rfl rfl ?_ | refine l_no' rfl rfl rfl ?_
    first | (refine l_yes rfl rfl ?_; first | refine l_move rfl rfl ?_) | refine l_no rfl rfl rfl rfl ?_ | refine l_no' rfl rfl rfl ?_
    refine l_yes rfl rfl ?_
    refine l_call rfl Try.func25 rfl (by decide) rfl (waves_calls hgs hLv gv hn hrr (h.re [2])) ?_
    clear h
    rintro e w ⟨v3, rfl, h⟩
    refine ⟨_, rfl, ?_⟩
    first | (refine l_yes rfl rfl ?_; first | refine l_move rfl rfl ?_) | refine l_no rfl rfl rfl rfl ?_ | refine l_no' rfl rfl rfl ?_
    refine l_yes rfl rfl ?_
    refine l_call rfl Try.func26 rfl (by decide) rfl (waves15_calls hgs hLv gv hn hrr (h.re [1])) ?_
    clear h
    rintro e w ⟨v4, rfl, h⟩
    refine ⟨_, rfl, ?_⟩
    replace h := osNN_rs h
    replace h := osNN_rs (h.re [2])
    refine l_yes rfl rfl ?_
    refine l_call rfl Try.func16 rfl (by decide) rfl (same_calls (h.re [0, 1])) ?_
    clear h
    rintro e w ⟨rfl, h⟩
    refine ⟨_, rfl, ?_⟩
    refine l_set 16 (.bool true) rfl (by simp) ?_
    first | (refine l_yes rfl rfl ?_; first | refine l_pick rfl rfl rfl ?_) | refine l_no rfl rfl rfl rfl ?_ | refine l_no' rfl rfl rfl ?_
    first | (refine l_yes rfl rfl ?_; first | refine l_move rfl rfl ?_) | refine l_no rfl rfl rfl rfl ?_ | refine l_no' rfl rfl rfl ?_
    refine l_yes rfl rfl ?_
    refine l_call rfl Try.func23 rfl (by decide) rfl (awake16_calls h) ?_
    clear h
    rintro e w ⟨rfl, h⟩
    refine ⟨_, rfl, ?_⟩
    first | (refine l_yes rfl rfl ?_; first | refine l_pick rfl rfl rfl ?_) | refine l_no rfl rfl rfl rfl ?_ | refine l_no' rfl rfl rfl ?_
    refine l_pick rfl rfl rfl ?_
    refine l_assign rfl rfl ?_
    refine l_nil ?_
    refine c_ret ⟨.inr rfl, _, rfl, rfl, (h.drop.drop.re [1, 2]).drop.drop⟩
end Go.Proofs.Ythamopcfpmkbfaa
