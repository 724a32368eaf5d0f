/- The law SccChain holds, whatever the input: a long row of nodes is as many groups as nodes; closed to a ring it is one. No condition. -/
import Derived.Test.YthamopcfpmkbfaaRows
import Derived.Test.YthamopcfpmkbfaaLI
import Derived.Test.YthamopcfpmkbfaaFC
namespace Go.Proofs.Ythamopcfpmkbfaa
open Go.ChangeShapes Go.WideShapes Go.ChangeAt Go.RowKit Go.Deep
open Go.Proofs.Fw (Old old_int old_rs law_post open_u8 open_u16 open_bytes)
set_option linter.unusedVariables false
set_option linter.unusedSimpArgs false
theorem own7 : ownKnob Try.prog.godebug = none := by kernel_rfl
set_option maxRecDepth 100000 in
theorem sccChain_lifted (os : Os) (started : os.Started) (H : Type) (enc : TypeId × Value → H) :
    ReturnsInHanded {} Try.checked os 7 .any (Rows.sccChainSpec.pre6 enc Try.prog Try.f7 Rows.sccChainRow.domain false) (Rows.sccChainSpec.post enc Try.prog Try.f7 false true false false) := by
  refine returnsInHanded_of_change_sized (C := Try.checked) own7 started (by kernel_rfl) Try.func7
    (ChangeSpec.witness6 (enc := enc) (C := Try.checked) false ⟨#[], #[.int .u16 0, .int .u16 0], []⟩ 8 (by kernel_rfl) (by kernel_rfl) (by kernel_rfl) (by kernel_rfl)) ?_
  intro W base args ds gs before hval0 hW hcnd hsz _
  have hval : ∀ (j : Nat) t v, Try.f7.params[j]? = some t → args[j]? = some v → Value.okWide Try.prog W .any base t v := hval0
  have hW' := hW
  obtain ⟨p, q, hA0, hV, rfl, hfz, hnd⟩ := hW
  have hA : DataW.TrodAll enc Try.prog W 0 (fun _ => true) true Try.f7.params.toList args.toList ds p := hA0
  rw [Try.params7] at hA hval
  obtain ⟨v0, vs0, d0, ds0, p0, q0, hargs, rfl, rfl, h0, r0⟩ := trodAll_cons hA
  obtain ⟨v1, vs1, d1, ds1, p1, q1, rfl, rfl, rfl, h1, r1⟩ := trodAll_cons r0
  obtain ⟨rfl, rfl, rfl⟩ := trodAll_nil r1
  obtain rfl : args = #[v0, v1] := by cases args; simp_all
  obtain ⟨rfl, rfl⟩ := trodVars_none hV
  obtain ⟨m0, rfl, rfl, rfl, hm0⟩ := open_u16 Try.underlying35 (hval 0 35 v0 rfl rfl) h0
  obtain ⟨m1, rfl, rfl, rfl, hm1⟩ := open_u16 Try.underlying35 (hval 1 35 v1 rfl rfl) h1
  refine (sccchain_calls hm0 hm1 (Fw.St.start W)).mono fun e W' ⟨he, h⟩ => ?_
  subst he
  exact ⟨_, rfl, law_post (tb := 4) laid hW' rfl (by rw [Try.params7]; intro t ht; simp at ht; subst ht; exact ⟨by kernel_rfl, of_decide_eq_true (by kernel_rfl)⟩) (by kernel_rfl) Try.underlying4 rfl h.since⟩
theorem SccChain : Rows.SccChainSaid :=
  OpenClaim.holds_of_wide 7 Try.f7 rfl rfl rfl rfl rfl rfl rfl ⟨rfl, rfl, rfl, rfl, rfl⟩ rfl rfl rfl rfl rfl (by kernel_rfl) Try.func7 (by kernel_rfl)
    (of_decide_eq_true (by kernel_rfl)) (by unfold Func.isWrapper; first | (rw [if_pos (by decide +kernel)]; kernel_rfl) | (rw [if_neg (by decide +kernel)]; exact ⟨rfl, rfl⟩))
    (fun os started H enc _ => sccChain_lifted os started H enc)
end Go.Proofs.Ythamopcfpmkbfaa
