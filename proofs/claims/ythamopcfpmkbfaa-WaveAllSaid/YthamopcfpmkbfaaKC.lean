/- The law WaveAll holds, whatever the input: the levels and the waves of any graph are the document's. No condition. -/
import Derived.Test.YthamopcfpmkbfaaRows
import Derived.Test.YthamopcfpmkbfaaLC
import Derived.Test.YthamopcfpmkbfaaKG
import Derived.Test.YthamopcfpmkbfaaFC
namespace Go.Proofs.Ythamopcfpmkbfaa
open Go.ChangeShapes Go.WideShapes Go.ChangeAt Go.RowKit Go.Deep
open Go.Proofs.Fw (Old old_int old_rs law_post open_u8 open_u16 open_bytes)
set_option linter.unusedVariables false
set_option linter.unusedSimpArgs false
theorem own10 : ownKnob Try.prog.godebug = none := by kernel_rfl
set_option maxRecDepth 100000 in
theorem waveAll_lifted (os : Os) (started : os.Started) (H : Type) (enc : TypeId × Value → H) :
    ReturnsInHanded {} Try.checked os 10 .any (Rows.waveAllSpec.pre6 enc Try.prog Try.f10 Rows.waveAllRow.domain false) (Rows.waveAllSpec.post enc Try.prog Try.f10 false true false false) := by
  refine returnsInHanded_of_change_sized (C := Try.checked) own10 started (by kernel_rfl) Try.func10
    (ChangeSpec.witness6 (enc := enc) (C := Try.checked) false ⟨#[], #[.slice none 0 0], []⟩ 8 (by kernel_rfl) (by kernel_rfl) (by kernel_rfl) (by kernel_rfl)) ?_
  intro W base args ds gs before hval0 hW hcnd hsz _
  have hval : ∀ (j : Nat) t v, Try.f10.params[j]? = some t → args[j]? = some v → Value.okWide Try.prog W .any base t v := hval0
  have hW' := hW
  obtain ⟨p, q, hA0, hV, rfl, hfz, hnd⟩ := hW
  have hA : DataW.TrodAll enc Try.prog W 0 (fun _ => true) true Try.f10.params.toList args.toList ds p := hA0
  rw [Try.params10] at hA hval
  obtain ⟨v0, vs0, d0, ds0, p0, q0, hargs, rfl, rfl, h0, r0⟩ := trodAll_cons hA
  obtain ⟨rfl, rfl, rfl⟩ := trodAll_nil r0
  obtain rfl : args = #[v0] := by cases args; simp_all
  obtain ⟨rfl, rfl⟩ := trodVars_none hV
  obtain ⟨a0, len0, cap0, rfl⟩ := okWide_slice Try.underlying23 (hval 0 23 v0 rfl rfl)
  obtain ⟨g0, hg0, hrows0⟩ := open_graph (j := 0) h0 rfl hsz (by rw [Try.params10]; rfl) rfl
  refine (waveall_calls g0 _ hrows0 ((Fw.St.start W).addOld hg0)).mono fun e W' ⟨he, h⟩ => ?_
  subst he
  exact ⟨_, rfl, law_post (tb := 4) laid hW' rfl (by rw [Try.params10]; intro t ht; simp at ht; subst ht; exact ⟨by kernel_rfl, of_decide_eq_true (by kernel_rfl)⟩) (by kernel_rfl) Try.underlying4 rfl h.drop.since⟩
theorem WaveAll : Rows.WaveAllSaid :=
  OpenClaim.holds_of_wide 10 Try.f10 rfl rfl rfl rfl rfl rfl rfl ⟨rfl, rfl, rfl, rfl, rfl⟩ rfl rfl rfl rfl rfl (by kernel_rfl) Try.func10 (by kernel_rfl)
    (of_decide_eq_true (by kernel_rfl)) (by unfold Func.isWrapper; first | (rw [if_pos (by decide +kernel)]; kernel_rfl) | (rw [if_neg (by decide +kernel)]; exact ⟨rfl, rfl⟩))
    (fun os started H enc _ => waveAll_lifted os started H enc)
end Go.Proofs.Ythamopcfpmkbfaa
