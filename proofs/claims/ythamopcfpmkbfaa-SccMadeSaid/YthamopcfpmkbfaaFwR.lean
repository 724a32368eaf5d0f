/- The walk: rows of bytes and small numbers that are handed over. No condition. -/
import Derived.Test.YthamopcfpmkbfaaFwX
set_option linter.unusedVariables false
set_option linter.unusedSimpArgs false
namespace Go.Proofs.Fw
open Go.ChangeShapes Go.WideShapes Go.RowKit
variable {H : Type} {P : Program} {W : World} {enc : TypeId × Value → H} {base : Nat} {spare : Nat → Bool} {held : Bool}
theorem wf_u8 {n : Int} (h : (Lit.int .u8 n).wf = true) : ∃ m : Nat, n = (m : Int) ∧ m ≤ 255 := by
  unfold Lit.wf at h
  simp only [Bool.and_eq_true, decide_eq_true_eq] at h
  obtain ⟨h1, h2⟩ := h
  have e1 : IntKind.min .u8 = 0 := by decide
  have e2 : IntKind.max .u8 = 255 := by decide
  rw [e1] at h1
  rw [e2] at h2
  exact ⟨n.toNat, by omega, by omega⟩
theorem wf_u16 {n : Int} (h : (Lit.int .u16 n).wf = true) : ∃ m : Nat, n = (m : Int) ∧ m ≤ 65535 := by
  unfold Lit.wf at h
  simp only [Bool.and_eq_true, decide_eq_true_eq] at h
  obtain ⟨h1, h2⟩ := h
  have e1 : IntKind.min .u16 = 0 := by decide
  have e2 : IntKind.max .u16 = 65535 := by decide
  rw [e1] at h1
  rw [e2] at h2
  exact ⟨n.toNat, by omega, by omega⟩
theorem open_u8 {r : Reach} {b0 : Nat} {t : TypeId} {v : Value} {d : DataW H} {ps : List MemPlace} (ht : P.underlying t = some (.int .u8)) (hval : Value.okWide P W r b0 t v) (hd : DataW.Trod enc P W base spare held t v d ps) : ∃ m : Nat, v = .int .u8 (m : Int) ∧ d = .lit (.int .u8 (m : Int)) ∧ ps = [] ∧ m ≤ 255 := by
  obtain ⟨n, rfl, rfl, rfl, hw⟩ := open_int ht hval hd
  obtain ⟨m, rfl, hm⟩ := wf_u8 hw
  exact ⟨m, rfl, rfl, rfl, hm⟩
theorem open_u16 {r : Reach} {b0 : Nat} {t : TypeId} {v : Value} {d : DataW H} {ps : List MemPlace} (ht : P.underlying t = some (.int .u16)) (hval : Value.okWide P W r b0 t v) (hd : DataW.Trod enc P W base spare held t v d ps) : ∃ m : Nat, v = .int .u16 (m : Int) ∧ d = .lit (.int .u16 (m : Int)) ∧ ps = [] ∧ m ≤ 65535 := by
  obtain ⟨n, rfl, rfl, rfl, hw⟩ := open_int ht hval hd
  obtain ⟨m, rfl, hm⟩ := wf_u16 hw
  exact ⟨m, rfl, rfl, rfl, hm⟩
/-- Bytes that are handed over. -/
theorem open_bytes {t e : TypeId} {v : Value} {d : DataW H} {ps : List MemPlace} (ht : P.underlying t = some (.slice e)) (he : P.underlying e = some (.int .u8)) (hc : P.cellsOf e = 1) (h : DataW.Trod enc P W 0 (fun _ => true) true t v d ps) (hv : v.cells.toList = [v]) :
    ∃ ns : List Nat, Old (rs k8) W v ns := by
  obtain ⟨fuel, hf⟩ := h
  rcases open_ints ht he hc hf with ⟨hc, hx⟩ | ⟨a, len, cap, zs, hc, _, hl, hm, hzl, hx, hcell, hwf⟩
  · rw [hv] at hc
    simp at hc
    subst hc
    exact ⟨[], old_rs rfl rfl (Nat.le_refl _) (Nat.zero_le _) (fun i hi => by simp at hi)⟩
  · rw [hv] at hc
    simp at hc
    subst hc
    simp only [if_true] at hzl
    refine ⟨(zs.take len).map Int.toNat, old_rs rfl (by simp; omega) hl hm (fun i hi => ?_)⟩
    have hi' : i < len := by simp at hi; omega
    have hz : i < zs.length := by omega
    obtain ⟨m, hm1, hm2⟩ := wf_u8 (hwf _ (List.getElem_mem hz))
    have e1 : zs.getD i 0 = (m : Int) := by rw [List.getD_eq_getElem?_getD, List.getElem?_eq_getElem hz]; exact hm1
    have e2 : ((zs.take len).map Int.toNat)[i] = m := by simp [hm1]
    refine ⟨a, _, rfl, hcell i hz, ?_⟩
    rw [e1, e2]
    exact fun I _ => ⟨rfl, hm2⟩
end Go.Proofs.Fw
