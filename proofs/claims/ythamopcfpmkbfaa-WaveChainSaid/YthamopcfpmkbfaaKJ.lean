/- The law WaveChain holds, whatever the input: a row of nodes has as many waves as nodes; nodes that refer to nothing are one wave. No condition. -/
import Derived.Test.YthamopcfpmkbfaaRows
import Derived.Test.YthamopcfpmkbfaaLJ
import Derived.Test.YthamopcfpmkbfaaFC
namespace Go.Proofs.Ythamopcfpmkbfaa
open Go.ChangeShapes Go.WideShapes Go.ChangeAt Go.RowKit Go.Deep
open Go.Proofs.Fw (Old old_int old_rs law_post open_u8 open_u16 open_bytes)
set_option linter.unusedVariables false
set_option linter.unusedSimpArgs false
theorem own12 : ownKnob Try.prog.godebug = none := by kernel_rfl
set_option maxRecDepth 100000 in
theorem waveChain_lifted (os : Os) (started : os.Started) (H : Type) (enc : TypeId × Value → H) :
    ReturnsInHanded {} Try.checked os 12 .any (Rows.waveChainSpec.pre6 enc Try.prog Try.f12 Rows.waveChainRow.domain false) (Rows.waveChainSpec.post enc Try.prog Try.f12 false true false false) := by
  refine returnsInHanded_of_change_sized (C := Try.checked) own12 started (by kernel_rfl) Try.func12
    (ChangeSpec.witness6 (enc := enc) (C := Try.checked) false ⟨#[], #[.int .u8 0, .int .u8 0], []⟩ 8 (by kernel_rfl) (by kernel_rfl) (by kernel_rfl) (by kernel_rfl)) ?_
  intro W base args ds gs before hval0 hW hcnd hsz _
  have hval : ∀ (j : Nat) t v, Try.f12.params[j]? = some t → args[j]? = some v → Value.okWide Try.prog W .any base t v := hval0
  have hW' := hW
  obtain ⟨p, q, hA0, hV, rfl, hfz, hnd⟩ := hW
  have hA : DataW.TrodAll enc Try.prog W 0 (fun _ => true) true Try.f12.params.toList args.toList ds p := hA0
  rw [Try.params12] at hA hval
  obtain ⟨v0, vs0, d0, ds0, p0, q0, hargs, rfl, rfl, h0, r0⟩ := trodAll_cons hA
  obtain ⟨v1, vs1, d1, ds1, p1, q1, rfl, rfl, rfl, h1, r1⟩ := trodAll_cons r0
  obtain ⟨rfl, rfl, rfl⟩ := trodAll_nil r1
  obtain rfl : args = #[v0, v1] := by cases args; simp_all
  obtain ⟨rfl, rfl⟩ := trodVars_none hV
  obtain ⟨m0, rfl, rfl, rfl, hm0⟩ := open_u8 Try.underlying5 (hval 0 5 v0 rfl rfl) h0
  obtain ⟨m1, rfl, rfl, rfl, hm1⟩ := open_u8 Try.underlying5 (hval 1 5 v1 rfl rfl) h1
  refine (wavechain_calls hm0 hm1 (Fw.St.start W)).mono fun e W' ⟨he, h⟩ => ?_
  subst he
  exact ⟨_, rfl, law_post (tb := 4) laid hW' rfl (by rw [Try.params12]; intro t ht; simp at ht; subst ht; exact ⟨by kernel_rfl, of_decide_eq_true (by kernel_rfl)⟩) (by kernel_rfl) Try.underlying4 rfl h.since⟩
theorem WaveChain : Rows.WaveChainSaid :=
  OpenClaim.holds_of_wide 12 Try.f12 rfl rfl rfl rfl rfl rfl rfl ⟨rfl, rfl, rfl, rfl, rfl⟩ rfl rfl rfl rfl rfl (by kernel_rfl) Try.func12 (by kernel_rfl)
    (of_decide_eq_true (by kernel_rfl)) (by unfold Func.isWrapper; first | (rw [if_pos (by decide +kernel)]; kernel_rfl) | (rw [if_neg (by decide +kernel)]; exact ⟨rfl, rfl⟩))
    (fun os started H enc _ => waveChain_lifted os started H enc)
end Go.Proofs.Ythamopcfpmkbfaa
