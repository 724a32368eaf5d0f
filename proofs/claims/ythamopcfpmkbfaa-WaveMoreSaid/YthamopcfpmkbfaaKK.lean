/- The law WaveMore holds, whatever the input: an edge twice, or to nowhere, changes no level; an edge more makes none less, but where it makes two groups one. No condition. -/
import Derived.Test.YthamopcfpmkbfaaRows
import Derived.Test.YthamopcfpmkbfaaLH
import Derived.Test.YthamopcfpmkbfaaFC
namespace Go.Proofs.Ythamopcfpmkbfaa
open Go.ChangeShapes Go.WideShapes Go.ChangeAt Go.RowKit Go.Deep
open Go.Proofs.Fw (Old old_int old_rs law_post open_u8 open_u16 open_bytes)
set_option linter.unusedVariables false
set_option linter.unusedSimpArgs false
theorem own9 : ownKnob Try.prog.godebug = none := by kernel_rfl
theorem cells5_9 : Try.prog.cellsOf 5 = 1 := by kernel_rfl
set_option maxRecDepth 100000 in
theorem waveMore_lifted (os : Os) (started : os.Started) (H : Type) (enc : TypeId × Value → H) :
    ReturnsInHanded {} Try.checked os 9 .any (Rows.waveMoreSpec.pre6 enc Try.prog Try.f9 Rows.waveMoreRow.domain false) (Rows.waveMoreSpec.post enc Try.prog Try.f9 false true false false) := by
  refine returnsInHanded_of_change_sized (C := Try.checked) own9 started (by kernel_rfl) Try.func9
    (ChangeSpec.witness6 (enc := enc) (C := Try.checked) false ⟨#[], #[.slice none 0 0, .int .u8 0, .int .u8 0, .int .u8 0], []⟩ 8 (by kernel_rfl) (by kernel_rfl) (by kernel_rfl) (by kernel_rfl)) ?_
  intro W base args ds gs before hval0 hW hcnd hsz _
  have hval : ∀ (j : Nat) t v, Try.f9.params[j]? = some t → args[j]? = some v → Value.okWide Try.prog W .any base t v := hval0
  have hW' := hW
  obtain ⟨p, q, hA0, hV, rfl, hfz, hnd⟩ := hW
  have hA : DataW.TrodAll enc Try.prog W 0 (fun _ => true) true Try.f9.params.toList args.toList ds p := hA0
  rw [Try.params9] at hA hval
  obtain ⟨v0, vs0, d0, ds0, p0, q0, hargs, rfl, rfl, h0, r0⟩ := trodAll_cons hA
  obtain ⟨v1, vs1, d1, ds1, p1, q1, rfl, rfl, rfl, h1, r1⟩ := trodAll_cons r0
  obtain ⟨v2, vs2, d2, ds2, p2, q2, rfl, rfl, rfl, h2, r2⟩ := trodAll_cons r1
  obtain ⟨v3, vs3, d3, ds3, p3, q3, rfl, rfl, rfl, h3, r3⟩ := trodAll_cons r2
  obtain ⟨rfl, rfl, rfl⟩ := trodAll_nil r3
  obtain rfl : args = #[v0, v1, v2, v3] := by cases args; simp_all
  obtain ⟨rfl, rfl⟩ := trodVars_none hV
  obtain ⟨a0, len0, cap0, rfl⟩ := okWide_slice Try.underlying22 (hval 0 22 v0 rfl rfl)
  obtain ⟨ns0, hg0⟩ := open_bytes Try.underlying22 Try.underlying5 cells5_9 h0 rfl
  obtain ⟨m1, rfl, rfl, rfl, hm1⟩ := open_u8 Try.underlying5 (hval 1 5 v1 rfl rfl) h1
  obtain ⟨m2, rfl, rfl, rfl, hm2⟩ := open_u8 Try.underlying5 (hval 2 5 v2 rfl rfl) h2
  obtain ⟨m3, rfl, rfl, rfl, hm3⟩ := open_u8 Try.underlying5 (hval 3 5 v3 rfl rfl) h3
  refine (wavemore_calls hm1 hm2 hm3 ((Fw.St.start W).addOld hg0)).mono fun e W' ⟨he, h⟩ => ?_
  subst he
  exact ⟨_, rfl, law_post (tb := 4) laid hW' rfl (by rw [Try.params9]; intro t ht; simp at ht; rcases ht with rfl | rfl <;> exact ⟨by kernel_rfl, of_decide_eq_true (by kernel_rfl)⟩) (by kernel_rfl) Try.underlying4 rfl h.drop.since⟩
theorem WaveMore : Rows.WaveMoreSaid :=
  OpenClaim.holds_of_wide 9 Try.f9 rfl rfl rfl rfl rfl rfl rfl ⟨rfl, rfl, rfl, rfl, rfl⟩ rfl rfl rfl rfl rfl (by kernel_rfl) Try.func9 (by kernel_rfl)
    (of_decide_eq_true (by kernel_rfl)) (by unfold Func.isWrapper; first | (rw [if_pos (by decide +kernel)]; kernel_rfl) | (rw [if_neg (by decide +kernel)]; exact ⟨rfl, rfl⟩))
    (fun os started H enc _ => waveMore_lifted os started H enc)
end Go.Proofs.Ythamopcfpmkbfaa
