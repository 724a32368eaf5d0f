/- The walk: slices spelled out, of elements of one cell. No condition. -/
import Derived.Test.YthamopcfpmkbfaaFwT
set_option linter.unusedVariables false
set_option linter.unusedSimpArgs false
namespace Go.Proofs.Fw
variable {P : Program} {n : Nat} {env : Env} {a : Act} {w w' : World} {ops : Array Oper} {K : Env → World → Prop} {rest : List Oper} {d : Nat} {ty : TypeId} {pos : String} {after : Array Edge}
variable {w0 : World} {L L' : List Res} {α : Type} {Kx : Kd α} {e : TypeId}
theorem fill_row : ∀ (vs : List Value) (k : Nat) (cells : List Value), (∀ v ∈ vs, v.oneCell' = true) → k + vs.length = cells.length →
    Instr.fill (fun i => some (i * 1, 1)) cells.toArray ((List.range' k vs.length).zip vs) = some (cells.take k ++ vs).toArray
  | [], k, cells, h1, hk => by
    have : cells.take k = cells := List.take_of_length_le (by simp at hk; omega)
    simp [Instr.fill, this]
  | v :: r, k, cells, h1, hk => by
    have hv := cells_one (h1 v (by simp))
    have hlt : k < cells.length := by simp at hk; omega
    have ih := fill_row r (k + 1) (cells.set k v) (fun u hu => h1 u (by simp [hu])) (by simp at hk ⊢; omega)
    have e1 : (cells.set k v).take (k + 1) = cells.take k ++ [v] := by
      rw [List.take_succ_eq_append_getElem (by simpa using hlt)]
      simp [List.take_set_of_le]
    rw [e1, List.append_assoc, List.singleton_append] at ih
    have hb : ¬ (v.cells.size ≠ 1 ∨ k * 1 + v.cells.size > cells.toArray.size) := by rw [hv]; simp; omega
    simp only [List.length_cons, List.range'_succ, List.zip_cons_cons, Instr.fill]
    rw [if_neg (by simpa using hb)]
    rw [hv]
    simpa using ih
theorem each_one : ∀ {ps : List (Value × α)} {L : List Res}, St w0 (each Kx ps ++ L) w → ∀ p ∈ ps, p.1.oneCell' = true
  | [], L, h, p, hp => by cases hp
  | q :: r, L, h, p, hp => by
    rcases List.mem_cons.1 hp with rfl | hp
    · exact pt_one h
    · exact each_one (ps := r) (L := L) h.drop p hp
theorem l_buildSliceN {t : TypeId} {len : Nat} {parts : Array (Nat × Operand)} {z : Value} {ps : List (Value × α)} (hd : Nat.ble (d + 1) n = true) (ht : P.underlying t = some (.slice e)) (he : SzIs P e 1) (hz : ZeroIs P e z) (hlen : len = ps.length) (hsm : ps.length ≤ 1000)
    (hp : parts.toList.map Prod.fst = List.range len) (hv : evs env (parts.toList.map Prod.snd) = some (ps.map Prod.fst)) (hs : Kx.sz = 1) (hst : St w0 (each Kx ps ++ L) w)
    (h : ∀ u w', St w0 (pt (os e Kx) u (ps.map Prod.snd) :: L) w' → WpL P ops n K rest ((d, u) :: env) w') : WpL P ops n K (⟨some d, .buildSlice t len parts, ty, pos, after, none⟩ :: rest) env w := by
  have hone := each_one hst
  have hnew := (hst.alloc (.cells (ps.map Prod.fst).toArray e)).os_join hs (c := ps.length) (by simp) (Nat.le_refl _) (by unfold maxLen; omega) (fun i p hp => by simp [hp])
  refine l_val (w' := w.alloc (.cells (ps.map Prod.fst).toArray e)) (.slice (some ⟨w.heap.size, 0, none⟩) ps.length ps.length) hd (fun a hf => ?_) (h _ _ hnew)
  have hvals := hf.evals hv
  have hparts : (parts.map fun p => (p.1, a.eval p.2)).toList = (List.range' 0 ps.length).zip (ps.map Prod.fst) := by
    rw [Array.toList_map, zip_parts, hp, hvals, hlen, List.range_eq_range']
  have hfill : ∀ f : Nat → Value, Instr.fill (fun i => some (i * 1, 1)) (Array.map f (Array.range (ps.length * 1))) ((List.range' 0 ps.length).zip (ps.map Prod.fst)) = some (ps.map Prod.fst).toArray := fun f => by
    have := fill_row (ps.map Prod.fst) 0 ((List.range ps.length).map f) (fun v hv => by obtain ⟨p, hp, rfl⟩ := List.mem_map.1 hv; exact hone p hp) (by simp)
    simp only [List.length_map, List.take_zero, List.nil_append] at this
    have e9 : Array.map f (Array.range (ps.length * 1)) = ((List.range ps.length).map f).toArray := by
      rw [Nat.mul_one]
      apply Array.ext'
      simp
    rw [e9]
    exact this
  have hparts' : Array.map (fun x => (x.fst, a.eval x.snd)) parts = ((List.range' 0 ps.length).zip (ps.map Prod.fst)).toArray := by
    rw [← hparts]
  subst hlen
  by_cases h0 : ps.length = 0
  · have hps : ps = [] := List.length_eq_zero_iff.1 h0
    subst hps
    simp [execOp, hparts', Instr.buildSlice, Sem.run_bind, run_underlying ht, he.run, Sem.run_pure, Result.andThen_ok, newRow, newObj, Sem.run, Instr.fill, show Array.range 0 = #[] from rfl]
  · have hlt : ¬ ps.length * 1 > 2 ^ 24 := by omega
    have hfill2 : Instr.fill (fun i => some (i * 1, 1)) (Array.map (fun x => z.cells[x % z.cells.size]!) (Array.range (ps.length * 1))) ((List.range' 0 ps.length).zip (ps.map Prod.fst)) = some (ps.map Prod.fst).toArray := hfill _
    have h00 : ¬ ps.length * 1 = 0 := by omega
    simp only [execOp, hparts', Instr.buildSlice, Sem.run_bind, run_underlying ht, he.run, Result.andThen_ok]
    rw [if_neg hlt]
    simp only [Sem.run_bind, Sem.run_pure, Result.andThen_ok, h00, if_false, hz.run, hfill2, newRow, newObj, Sem.run]
    rfl
end Go.Proofs.Fw
