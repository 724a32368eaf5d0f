/- A graph that is handed over, opened. No condition. -/
import Derived.Test.YthamopcfpmkbfaaG0
import Derived.Test.YthamopcfpmkbfaaFC
import Derived.Test.YthamopcfpmkbfaaGI
namespace Go.Proofs.Ythamopcfpmkbfaa
open Go.ChangeShapes Go.WideShapes Go.ChangeAt Go.RowKit Go.Deep
open Go.Proofs.Fw (Old old_int old_rs)
set_option linter.unusedVariables false
set_option linter.unusedSimpArgs false
theorem cells26 : Try.prog.cellsOf 26 = 1 := by kernel_rfl
theorem cells3 : Try.prog.cellsOf 3 = 1 := by kernel_rfl
theorem bytes3 : Try.prog.bytesOf 3 = 8 := by kernel_rfl
theorem mem_weightsAll {H : Type} {P : Program} {e : TypeId} {n : Nat} {d : DataW H} : ∀ {l : List (DataW H)}, d ∈ l → n ∈ d.weights P e → n ∈ DataW.weightsAll P e l
  | [], h, _ => by cases h
  | x :: r, h, hn => by
    simp only [DataW.weightsAll]
    rcases List.mem_cons.1 h with rfl | h
    · exact List.mem_append_left _ hn
    · exact List.mem_append_right _ (mem_weightsAll h hn)
/-- A graph that is handed over: its rows, and that a machine can hold them. -/
theorem open_graph {H : Type} {enc : TypeId × Value → H} {W : World} {ts : List TypeId} {ds : List (DataW H)} {j : Nat} {v : Value} {d : DataW H} {ps : List MemPlace} (h : DataW.Trod enc Try.prog W 0 (fun _ => true) true 23 v d ps) (hv : v.cells.toList = [v])
    (hw : (DataW.weightsEach Try.prog ts ds).all (· ≤ reachBytes) = true) (ht : ts[j]? = some 23) (hd : ds[j]? = some d) : ∃ g : List (List Int), Old rsII W v g ∧ ∀ r ∈ g, r.length ≤ 35184372088832 := by
  obtain ⟨fuel, hf⟩ := h
  rcases open_int_rows Try.underlying23 Try.underlying26 Try.underlying3 cells26 cells3 hf with ⟨hc, hx⟩ | ⟨a, len, cap, A, L, C, Z, hc, _, hl, hm, hx, hrows⟩
  · rw [hv] at hc
    simp at hc
    subst hc
    exact ⟨[], old_rs rfl rfl (Nat.le_refl _) (Nat.zero_le _) (fun i hi => by simp at hi), by simp⟩
  · rw [hv] at hc
    simp at hc
    subst hc
    simp only [Prod.mk.injEq] at hx
    obtain ⟨rfl, -⟩ := hx
    refine ⟨(List.range len).map fun r => (Z r).take (L r), old_rs rfl (by simp) hl hm (fun i hi => ?_), fun r hr => ?_⟩
    · have hi' : i < len := by simpa using hi
      obtain ⟨k1, k2, k3, k4, k5, k6, k7⟩ := hrows i (by omega)
      refine ⟨a, _, rfl, k1, ?_⟩
      have eg : ((List.range len).map fun r => (Z r).take (L r))[i] = (Z i).take (L i) := by simp
      rw [eg]
      refine old_rs rfl (by simp; omega) k2 k3 (fun q hq => ?_)
      have hq' : q < L i := by simp at hq; omega
      cases hA : A i with
      | none => have := k6 hA; omega
      | some a' =>
        have := (k7 a' hA).2 q (by omega)
        have hz : q < (Z i).length := by omega
        refine ⟨a', _, rfl, this, ?_⟩
        have e2 : ((Z i).take (L i))[q] = (Z i).getD q 0 := by simp [List.getD_eq_getElem?_getD, hz]
        rw [e2]
        refine old_int (k5 _ ?_)
        rw [List.getD_eq_getElem?_getD, List.getElem?_eq_getElem hz]
        exact List.getElem_mem hz
    · obtain ⟨i, hi, rfl⟩ := List.mem_map.1 hr
      have hi' : i < len := List.mem_range.1 hi
      obtain ⟨k1, k2, k3, k4, k5, k6, k7⟩ := hrows i (by omega)
      cases hA : A i with
      | none =>
        have := k6 hA
        simp; omega
      | some a' =>
        have hmem : (Z i).length * 8 ∈ (DataW.slice (H := H) ((List.range len).map fun r => intRow .i64 (A r) (L r) (Z r)) ((List.range (cap - len)).map fun j => intRow .i64 (A (len + j)) (L (len + j)) (Z (len + j)))).weights Try.prog 23 := by
          simp only [DataW.weights, Try.underlying23]
          refine List.mem_cons_of_mem _ (List.mem_append_left _ (mem_weightsAll (d := intRow .i64 (A i) (L i) (Z i)) (List.mem_map.2 ⟨i, hi, rfl⟩) ?_))
          simp only [intRow, hA, DataW.weights, Try.underlying26, bytes3]
          refine List.mem_cons.2 (.inl ?_)
          simp [lits]
          omega
        have := List.all_eq_true.1 hw _ (DataW.weights_mem_each ht hd _ hmem)
        have h9 : (Z i).length * 8 ≤ reachBytes := of_decide_eq_true this
        rw [show reachBytes = 140737488351232 from rfl] at h9
        simp; omega
end Go.Proofs.Ythamopcfpmkbfaa
