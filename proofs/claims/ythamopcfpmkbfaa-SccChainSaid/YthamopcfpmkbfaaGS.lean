/- Go's library's contracts at this seat, in the walk's words. No condition. -/
import Derived.Test.YthamopcfpmkbfaaGH
import Derived.Test.YthamopcfpmkbfaaFB
import Derived.Test.YthamopcfpmkbfaaG0
import Derived.Test.YthamopcfpmkbfaaPT
set_option linter.unusedVariables false
set_option linter.unusedSimpArgs false
namespace Go.Proofs.Ythamopcfpmkbfaa
open Go.Proofs.Fw
abbrev osN : Kd (List Nat) := os 3 kN
abbrev osB : Kd (List Bool) := os 4 kBool
abbrev osNN : Kd (List (List Nat)) := os 26 osN
abbrev rsNN : Kd (List (List Nat)) := rs (rs kN)
variable {w0 w : World} {L : List Res}
def ints (l : List Nat) : List Int := l.map fun (m : Nat) => (m : Int)
theorem idxOf_ints (x : Nat) : ∀ (l : List Nat), x ∈ l → Lib.idxOf (ints l) (x : Int) = ((l.idxOf x : Nat) : Int) := by
  intro l hx
  have hlt : l.idxOf x < l.length := List.idxOf_lt_length_iff.2 hx
  have := Lib.idxOf_hit (ints l) (ints l).length (l.idxOf x) (x : Int) (by simpa [ints] using hlt) (Nat.le_refl _) (by
    rw [List.getD_eq_getElem?_getD, List.getElem?_eq_getElem (by simpa [ints] using hlt)]
    simp [ints]) (fun j hj => by
    have hj2 : j < l.length := by omega
    rw [List.getD_eq_getElem?_getD, List.getElem?_eq_getElem (by simpa [ints] using hj2)]
    simp only [ints, List.getElem_map, Option.getD_some, ne_eq]
    intro he
    have he' : l[j] = x := by omega
    have h9 := List.not_of_lt_findIdx (p := (· == x)) (xs := l) (i := j) (by simpa [List.idxOf] using hj)
    simp [he'] at h9)
  rwa [List.take_length] at this
theorem index_calls {v : Value} {xs : List Nat} (h : St w0 (pt osN v xs :: L) w) (hn : xs.length ≤ 100000) {x : Nat} (hx : x ∈ xs) :
    Calls Try.prog 39 #[v, .int .i64 (x : Int)] w fun e w' => e = .returned (.int .i64 ((xs.idxOf x : Nat) : Int)) ∧ w' = w := by
  obtain ⟨A, c, rfl, -, -⟩ := h.os_form
  obtain ⟨i, hi, -⟩ := List.getElem_of_mem hx
  obtain ⟨ad, rfl⟩ := h.osN_ad rfl kN_pers hi
  obtain ⟨b, cells, rfl, -, h', -, -, -, hc⟩ := h.os_open flatN
  have := Any.slices_Index_int Try.lays108 b 0 xs.length c (ints xs) (x : Int) w (by simp [ints]) (by omega) (fun j hj => by
    have hj' : j < xs.length := by simpa [ints] using hj
    rw [h'.blk_cell, Nat.zero_add, (hc j hj').1, List.getD_eq_getElem?_getD, List.getElem?_eq_getElem hj]
    simp [ints])
  have e1 : (ints xs).take xs.length = ints xs := List.take_of_length_le (by simp [ints])
  rw [e1, idxOf_ints x xs hx] at this
  exact this
theorem clone_calls {b off n c : Nat} (h : St w0 L w) (ys : List Nat) (hn : ys.length = n) (hb : n ≤ 100000) (hok : ∀ y ∈ ys, y ≤ big) (hc : ∀ j (hj : j < ys.length), w.cell? ⟨b, off + j, none⟩ = some (.int .i64 (ys[j] : Int))) :
    Calls Try.prog 40 #[.slice (some ⟨b, off, none⟩) n c] w (Gives w0 osN ys L) := by
  have := Any.slices_Clone_int Try.laysNm215 b off n c (ints ys) w (by simp [ints, hn]) (by omega) (fun j hj => by
    have hj' : j < ys.length := by simpa [ints] using hj
    rw [hc j hj', List.getD_eq_getElem?_getD, List.getElem?_eq_getElem hj]
    simp [ints])
  refine Calls.mono this ?_
  rintro e w' ⟨v', rfl, hrow, hne, hbel⟩
  have e1 : (ints ys).take n = ints ys := List.take_of_length_le (by simp [ints, hn])
  rw [e1] at hrow
  obtain ⟨hl, (⟨rfl, -⟩ | ⟨g, cap, cur, rfl, hg, hcell, hle, hmax, hsz, htake⟩)⟩ := hrow
  · exact absurd rfl hne
  refine ⟨_, rfl, ?_⟩
  subst hn
  refine (h.fresh hbel hg hcell).os_shut flatN (by simpa using hsz) hle hmax fun i hi => ⟨?_, hok _ (List.getElem_mem hi)⟩
  rw [Nat.mul_one] at htake
  have h1 : (cur.toList.take ys.length)[i]? = (ys.map fun (m : Nat) => Value.int .i64 (m : Int))[i]? := by rw [htake]; simp [ints]; rfl
  rw [List.getElem?_take, if_pos hi] at h1
  simpa [hi] using h1
theorem ints_sort (l : List Nat) : (ints l).mergeSort (fun x y => decide (x ≤ y)) = ints (sortF l) := by
  unfold ints sortF
  rw [List.map_mergeSort]
  intro a _ b _
  simp
theorem sort_calls {v : Value} {xs : List Nat} (h : St w0 (pt osN v xs :: L) w) (hn : xs.length ≤ 100000) :
    Calls Try.prog 41 #[v] w fun e w' => e = .returned (.tuple #[]) ∧ St w0 (pt osN v (sortF xs) :: L) w' := by
  by_cases h0 : xs = []
  · subst h0
    obtain ⟨A, c, rfl, -, -⟩ := h.os_form
    refine (Any.slices_Sort_int_none Try.lays189 A c w).mono ?_
    rintro e w' ⟨rfl, rfl⟩
    refine ⟨rfl, ?_⟩
    simpa [sortF] using h
  obtain ⟨A, c, rfl, -, -⟩ := h.os_form
  have hpos : 0 < xs.length := List.length_pos_iff.2 h0
  obtain ⟨ad, rfl⟩ := h.osN_ad rfl kN_pers hpos
  have hk : ∀ x ∈ xs, x ≤ big := fun x hx => by
    obtain ⟨b, cells, -, -, -, -, -, -, hc⟩ := h.os_open flatN
    obtain ⟨i, hi, rfl⟩ := List.getElem_of_mem hx
    exact (hc i hi).2
  have hI := h.turn (os_turns kN_kI) (fun _ _ => trivial)
  obtain ⟨b, rfl, hl, hlt, hH, hok, hback⟩ := hI.os_row flatI
  have hH' : Go.Sort.Holds (Value.int .i64) w b 0 (ints xs).toArray := hH
  have hsort := Any.slices_Sort_int Try.lays189 b 0 c (ints xs) w hH' hlt (by simp [ints]; omega)
  rw [show (ints xs).length = xs.length by simp [ints]] at hsort
  refine Calls.mono (f := 41) hsort ?_
  rintro e w' ⟨rfl, n, obs, rfl⟩
  refine ⟨rfl, ?_⟩
  rw [ints_sort]
  have hperm : (sortF xs).Perm xs := List.mergeSort_perm _ _
  have h2 := hback (ints (sortF xs)) n obs (by simp [ints, hperm.length_eq]) (fun y hy => by
    obtain ⟨m, hm, rfl⟩ := List.mem_map.1 hy
    have := hk m (hperm.mem_iff.1 hm)
    unfold big at this
    rw [i64_min, i64_max]
    omega)
  have h3 := h2.turn (os_turns kI_kN) (fun y hy => by
    obtain ⟨m, hm, rfl⟩ := List.mem_map.1 hy
    have := hk m (hperm.mem_iff.1 hm)
    unfold big at this
    omega)
  have e2 : (ints (sortF xs)).map Int.toNat = sortF xs := by simp [ints, List.map_map, Function.comp_def]
  rw [e2] at h3
  exact h3
end Go.Proofs.Ythamopcfpmkbfaa
