/- The document's example of levels. No condition. -/
import Derived.Test.YthamopcfpmkbfaaGV4
import Derived.Test.YthamopcfpmkbfaaGX6
set_option linter.unusedVariables false
set_option linter.unusedSimpArgs false
namespace Go.Proofs.Ythamopcfpmkbfaa
open Go.Proofs.Fw
variable {w0 w : World} {L : List Res}
theorem edg_awake (x y : Nat) : EdgG [[], [0]] x y ↔ x = 1 ∧ y = 0 := by
  unfold EdgG
  constructor
  · rintro ⟨h1, h2, h3⟩
    simp only [List.length_cons, List.length_nil] at h1 h2
    rcases (show x = 0 ∨ x = 1 by omega) with rfl | rfl
    · simp at h3
    · simp at h3; omega
  · rintro ⟨rfl, rfl⟩; simp
theorem grp_awake16 : Grp [[], [0]] [[0], [1]] := grp_singles (g := [[], [0]]) (.inl fun x y h => by rw [edg_awake] at h; omega)
theorem lv_awake16 : LvG [[], [0]] [[0], [1]] (fun i => if i = 1 then 1 else 0) := lvG_singles (g := [[], [0]]) fun i => by
  refine ⟨fun j _ h => ?_, ?_⟩
  · rw [edg_awake] at h
    rw [h.1, h.2]; simp
  · by_cases e : i = 1
    · exact .inr ⟨0, by omega, (edg_awake _ _).2 ⟨e, rfl⟩, by simp [e]⟩
    · exact .inl (by simp [e])
theorem osN_rs {v : Value} {xs : List Nat} (h : St w0 (pt osN v xs :: L) w) : St w0 (pt rsI v (ints xs) :: L) w :=
  (h.frz (os_frz kN_pers.frz rfl)).turn (rs_turns kN_kI) (fun _ _ => trivial)
theorem awake16_calls (h : St w0 L w) : Calls Try.prog 23 #[] w fun e w' => e = .returned (.bool true) ∧ St w0 L w' := by
  refine f_one (vs := []) Try.func23 rfl Try.results23 Try.ntmps23 rfl ?_
  refine c_seq ?_
  refine c_region ?_
  refine l_assign rfl rfl ?_
  refine l_nil ?_
  refine c_seq ?_
  refine c_region ?_
  refine l_buildSliceN (ps := []) (Kx := kI) rfl Try.underlying26 sz3 zero3 rfl (by simp) rfl rfl rfl h ?_
  clear h; intro v1 w h
  refine l_buildSliceN (ps := [(.int .i64 0, (0 : Int))]) (Kx := kI) rfl Try.underlying26 sz3 zero3 rfl (by simp) rfl rfl rfl (h.addI64 0 (by omega) (by omega)) ?_
  clear h; intro v2 w h
  refine l_buildSliceN (ps := [(v1, []), (v2, [(0 : Int)])]) (Kx := os 3 kI) rfl Try.underlying23 sz26 zero26 rfl (by simp) rfl rfl rfl (h.re [1, 0]) ?_
  clear h; intro v3 w h
  replace h := osII_rs h
  refine l_call rfl Try.func22 rfl (by decide) rfl (levels_calls grp_awake16 lv_awake16 v3 (by simp) (by simp) h) ?_
  rintro e w ⟨v4, rfl, h⟩
  refine ⟨_, rfl, ?_⟩
  replace h := osN_rs h
  refine l_buildSliceN (ps := [(.int .i64 0, (0 : Int)), (.int .i64 1, (1 : Int))]) (Kx := kI) rfl Try.underlying26 sz3 zero3 rfl (by simp) rfl rfl rfl ((h.addI64 1 (by omega) (by omega)).addI64 0 (by omega) (by omega)) ?_
  clear h; intro v5 w h
  replace h : St w0 (pt rsI v5 [0, 1] :: _ :: _ :: L) w := h.frz (os_frz (Kd.Pers.frz (kInt_pers .i64)) rfl)
  refine l_call rfl Try.func17 rfl (by decide) rfl (ints_calls (h.re [1, 0])) ?_
  clear h
  rintro e w ⟨rfl, h⟩
  refine ⟨_, rfl, ?_⟩
  refine l_assign rfl rfl ?_
  refine l_nil ?_
  refine c_ret ⟨.inr rfl, _, rfl, ?_, h.drop.drop.drop⟩
  rfl
end Go.Proofs.Ythamopcfpmkbfaa
