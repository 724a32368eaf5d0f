/- The law SccAll, walked. No condition but that rows are of a size that a machine can hold. -/
import Derived.Test.YthamopcfpmkbfaaGG
import Derived.Test.YthamopcfpmkbfaaGW5
set_option linter.unusedVariables false
set_option linter.unusedSimpArgs false
namespace Go.Proofs.Fw
variable {P : Program} {n : Nat} {env : Env} {a : Act} {w w' : World} {ops : Array Oper} {K : Env → World → Prop} {rest : List Oper} {d : Nat} {ty : TypeId} {pos : String} {after : Array Edge}
theorem l_eqlB {x y : Operand} {xt yt : TypeId} {i j : Bool} (hd : Nat.ble (d + 1) n = true) (ht : P.underlying xt = some .bool) (hx : ev env x = some (.bool i)) (hy : ev env y = some (.bool j)) (h : WpL P ops n K rest ((d, .bool (i == j)) :: env) w) :
    WpL P ops n K (⟨some d, .binOp .eql xt x y yt, ty, pos, after, none⟩ :: rest) env w :=
  l_val _ hd (fun a hf => by
    have hg : (eqGuard .eql xt x y (.bool i) (.bool j)).run P w = .ok () w := by simp [eqGuard, Sem.run_pure]
    have he := run_equal_bool (P := P) w xt i j ht
    simp [execOp, hf.eval hx, hf.eval hy, binOp, Sem.run_bind, Sem.run_pure, Result.andThen_ok, hg, he]) h
end Go.Proofs.Fw
namespace Go.Proofs.Ythamopcfpmkbfaa
open Go.Proofs.Fw
variable {w0 w : World} {L : List Res}
theorem sccall_calls (g : List (List Int)) (gv : Value) (a b : Int) (hr : ∀ r ∈ g, r.length ≤ 35184372088832) (h : St w0 (pt rsII gv g :: L) w) :
    Calls Try.prog 4 #[gv, .int .i64 a, .int .i64 b] w fun e w' => e = .returned (.bool true) ∧ St w0 (pt rsII gv g :: L) w' := by
  refine f_one Try.func4 rfl Try.results4 Try.ntmps4 rfl ?_
  refine c_seq ?_
  refine c_region ?_
  refine l_assign rfl rfl ?_
  refine l_nil ?_
  refine c_seq ?_
  refine c_region ?_
  refine l_move rfl rfl ?_
  refine l_call rfl Try.func18 rfl (by decide) rfl (great_calls g gv hr h) ?_
  clear h
  rintro e w ⟨⟨v, rfl, hv⟩, h⟩
  refine ⟨_, rfl, ?_⟩
  cases v with
  | true =>
    refine l_move rfl rfl ?_
    repeat (first | refine l_no rfl rfl rfl rfl ?_ | refine l_no' rfl rfl rfl ?_)
    refine l_pick rfl rfl rfl ?_
    refine l_assign rfl rfl ?_
    refine l_nil ?_
    refine c_ret ⟨.inr rfl, _, rfl, rfl, h⟩
  | false =>
    obtain ⟨h40, h300⟩ := hv rfl
    obtain ⟨gs, hgs⟩ := grp_exists g (by omega)
    refine l_move rfl rfl ?_
    first | (refine l_yes rfl rfl ?_; first | refine l_move rfl rfl ?_) | refine l_no rfl rfl rfl rfl ?_ | refine l_no' rfl rfl rfl ?_
    refine l_yes rfl rfl ?_
    refine l_call rfl Try.func15 rfl (by decide) rfl (of_grp hgs gv (by omega) (fun r hr => by have := h300 r hr; omega) h) ?_
    clear h
    rintro e w ⟨v1, rfl, h⟩
    refine ⟨_, rfl, ?_⟩
    first | (refine l_yes rfl rfl ?_; first | refine l_move rfl rfl ?_) | refine l_no rfl rfl rfl rfl ?_ | refine l_no' rfl rfl rfl ?_
    refine l_yes rfl rfl ?_
    refine l_call rfl Try.func19 rfl (by decide) rfl (groups15_calls hgs gv (by omega) (fun r hr => by have := h300 r hr; omega) (h.re [1])) ?_
    clear h
    rintro e w ⟨v2, rfl, h⟩
    refine ⟨_, rfl, ?_⟩
    replace h := osNN_rs h
    replace h := osNN_rs (h.re [2])
    refine l_yes rfl rfl ?_
    refine l_call rfl Try.func16 rfl (by decide) rfl (same_calls (h.re [0, 1])) ?_
    clear h
    rintro e w ⟨rfl, h⟩
    refine ⟨_, rfl, ?_⟩
    refine l_set 14 (.bool true) rfl (by simp) ?_
    first | (refine l_yes rfl rfl ?_; first | refine l_move rfl rfl ?_) | refine l_no rfl rfl rfl rfl ?_ | refine l_no' rfl rfl rfl ?_
    first | (refine l_yes rfl rfl ?_; first | refine l_move rfl rfl ?_) | refine l_no rfl rfl rfl rfl ?_ | refine l_no' rfl rfl rfl ?_
    first | (refine l_yes rfl rfl ?_; first | refine l_move rfl rfl ?_) | refine l_no rfl rfl rfl rfl ?_ | refine l_no' rfl rfl rfl ?_
    first | (refine l_yes rfl rfl ?_; first | refine l_move rfl rfl ?_) | refine l_no rfl rfl rfl rfl ?_ | refine l_no' rfl rfl rfl ?_
    refine l_yes rfl rfl ?_
    refine l_call rfl Try.func20 rfl (by decide) rfl (reach_calls g gv a b (by omega) (fun r hr => by have := h300 r hr; omega) (h.re [2])) ?_
    clear h
    rintro e w ⟨⟨c1, hc1, rfl⟩, h⟩
    refine ⟨_, rfl, ?_⟩
    first | (refine l_yes rfl rfl ?_; first | refine l_move rfl rfl ?_) | refine l_no rfl rfl rfl rfl ?_ | refine l_no' rfl rfl rfl ?_
    first | (refine l_yes rfl rfl ?_; first | refine l_move rfl rfl ?_) | refine l_no rfl rfl rfl rfl ?_ | refine l_no' rfl rfl rfl ?_
    first | (refine l_yes rfl rfl ?_; first | refine l_move rfl rfl ?_) | refine l_no rfl rfl rfl rfl ?_ | refine l_no' rfl rfl rfl ?_
    refine l_yes rfl rfl ?_
    refine l_call rfl Try.func21 rfl (by decide) rfl (reach15_calls g gv a b (by omega) (fun r hr => by have := h300 r hr; omega) h) ?_
    clear h
    rintro e w ⟨⟨c2, hc2, rfl⟩, h⟩
    refine ⟨_, rfl, ?_⟩
    have hcc : c1 = c2 := by rw [Bool.eq_iff_iff, hc1, hc2]
    subst hcc
    refine l_yes rfl rfl ?_
    refine l_eqlB rfl Try.underlying4 rfl rfl ?_
    refine l_set 24 (.bool true) rfl (by simp) ?_
    first | (refine l_yes rfl rfl ?_; first | refine l_pick rfl rfl rfl ?_) | refine l_no rfl rfl rfl rfl ?_ | refine l_no' rfl rfl rfl ?_
    first | (refine l_yes rfl rfl ?_; first | refine l_move rfl rfl ?_) | refine l_no rfl rfl rfl rfl ?_ | refine l_no' rfl rfl rfl ?_
    refine l_yes rfl rfl ?_
    refine l_call rfl Try.func14 rfl (by decide) rfl (awake15_calls h) ?_
    clear h
    rintro e w ⟨rfl, h⟩
    refine ⟨_, rfl, ?_⟩
    first | (refine l_yes rfl rfl ?_; first | refine l_pick rfl rfl rfl ?_) | refine l_no rfl rfl rfl rfl ?_ | refine l_no' rfl rfl rfl ?_
    refine l_pick rfl rfl rfl ?_
    refine l_assign rfl rfl ?_
    refine l_nil ?_
    refine c_ret ⟨.inr rfl, _, rfl, rfl, (h.re [1, 2]).drop.drop⟩
end Go.Proofs.Ythamopcfpmkbfaa
