/- The walk's operations that touch memory. No condition. -/
import Derived.Test.YthamopcfpmkbfaaFwC
import Derived.Test.YthamopcfpmkbfaaFwD
import Derived.Maps.AppendAt
import Derived.Deep.OwnRows
set_option linter.unusedVariables false
set_option linter.unusedSimpArgs false
namespace Go.Proofs.Fw
variable {P : Program} {n : Nat} {env : Env} {a : Act} {w w' : World} {ops : Array Oper} {K : Env → World → Prop} {rest : List Oper} {d : Nat} {ty : TypeId} {pos : String} {after : Array Edge}
variable {w0 : World} {L L' : List Res}

/-! ### cells -/
theorem setCell_heap {b off : Nat} {cs : Array Value} {e : TypeId} {v : Value} (hb : w.heap[b]? = some (.cells cs e (0, 0))) : (w.setCell ⟨b, off, none⟩ v).heap[b]? = some (.cells (cs.setIfInBounds off v) e (0, 0)) := by
  simp [World.setCell, Array.getElem?_modify, hb]
theorem setCell_other {b off c : Nat} {v : Value} (hne : c ≠ b) : (w.setCell ⟨b, off, none⟩ v).heap[c]? = w.heap[c]? := by
  simp only [World.setCell, Array.getElem?_modify]
  rw [if_neg (fun e => hne e.symm)]
theorem St.setCell {b off : Nat} {cs : Array Value} {e : TypeId} (v : Value) (h : St w0 (blk b (.cells cs e (0, 0)) :: L) w) : St w0 (blk b (.cells (cs.setIfInBounds off v) e (0, 0)) :: L) (w.setCell ⟨b, off, none⟩ v) :=
  h.change rfl rfl rfl (setCell_heap h.blk_at) fun c hc u hu => by rw [setCell_other hc]; exact hu
theorem St.blk_cell {b off : Nat} {cs : Array Value} {e : TypeId} (h : St w0 (blk b (.cells cs e (0, 0)) :: L) w) : w.cell? ⟨b, off, none⟩ = cs[off]? := by
  simp [World.cell?, h.blk_at]
theorem St.blk_free {b off : Nat} {cs : Array Value} {e : TypeId} (h : St w0 (blk b (.cells cs e (0, 0)) :: L) w) : w.frozen? ⟨b, off, none⟩ = false := by
  simp [World.frozen?, h.blk_at]
theorem St.frz_cell {b off : Nat} {cs : Array Value} {e : TypeId} {fr : Nat × Nat} (h : St w0 (Fw.frz b (.cells cs e fr) :: L) w) : w.cell? ⟨b, off, none⟩ = cs[off]? := by
  simp [World.cell?, h.frz_at]

/-- A type of one cell that is no struct and no array. -/
def Plain (P : Program) (t : TypeId) : Prop := (∃ i, P.info? t = some i ∧ i.size = 1) ∧ ∃ td, P.underlying t = some td ∧ (∀ fs, td ≠ .struct fs) ∧ ∀ m e, td ≠ .array m e
theorem Plain.notAgg {t : TypeId} (h : Plain P t) : (isAgg t).run P w = .ok false w := by
  obtain ⟨_, td, h1, h2, h3⟩ := h
  simp only [isAgg, Sem.run_bind, run_underlying h1, Result.andThen_ok]
  cases td <;> first | rfl | exact absurd rfl (h2 _) | exact absurd rfl (h3 _ _)
theorem Plain.size {t : TypeId} (h : Plain P t) : (sizeOf t).run P w = .ok 1 w := SzIs.run h.1
theorem cells_one {v : Value} (h : v.oneCell' = true) : v.cells = #[v] := by cases v <;> first | rfl | simp [Value.oneCell'] at h
theorem run_load {t : TypeId} {ad : Addr} {v : Value} (ht : Plain P t) (hc : w.cell? ad = some v) : (loadVar t ad).run P w = .ok v w := by
  simp [loadVar, Sem.run_bind, ht.notAgg, load, Sem.run, hc, Result.andThen_ok]
theorem run_store1 {t : TypeId} {ad : Addr} {v u : Value} (ht : Plain P t) (hv : v.oneCell' = true) (hc : w.cell? ad = some u) (hf : w.frozen? ad = false) : (storeVar t ad v).run P w = .ok () (w.setCell ad v) := by
  have ha : ad.add 0 = ad := rfl
  simp [storeVar, Sem.run_bind, ht.size, cells_one hv, storeCells, run_store _ _ _ _ _ hv, ha, hc, hf, Result.andThen_ok, Sem.run_pure]
theorem l_load {x : Operand} {t : TypeId} {ad : Addr} {v : Value} (hd : Nat.ble (d + 1) n = true) (ht : Plain P t) (hx : ev env x = some (.pointer (some ad))) (hc : w.cell? ad = some v) (h : WpL P ops n K rest ((d, v) :: env) w) :
    WpL P ops n K (⟨some d, .load t x, ty, pos, after, none⟩ :: rest) env w :=
  l_val v hd (fun a hf => by simp [execOp, hf.eval hx, Instr.loadAt, Instr.sureAddr, Sem.run_bind, Sem.run_pure, Result.andThen_ok, run_load ht hc]) h
theorem l_store {x y : Operand} {t : TypeId} {ad : Addr} {v u : Value} (ht : Plain P t) (hx : ev env x = some (.pointer (some ad))) (hy : ev env y = some v) (hv : v.oneCell' = true) (hc : w.cell? ad = some u) (hf : w.frozen? ad = false)
    (h : WpL P ops n K rest env (w.setCell ad v)) : WpL P ops n K (⟨none, .store t x y, ty, pos, after, none⟩ :: rest) env w :=
  l_unit (fun a hfit => by simp [execOp, hfit.eval hx, hfit.eval hy, Instr.storeAt, Instr.sureAddr, Sem.run_bind, Sem.run_pure, Result.andThen_ok, run_store1 ht hv hc hf]) h

/-! ### new blocks -/
def ZeroIs (P : Program) (t : TypeId) (z : Value) : Prop := ∃ i, P.info? t = some i ∧ i.zero = some z
theorem ZeroIs.run {t : TypeId} {z : Value} (h : ZeroIs P t z) : (zeroValue t).run P w = .ok z w := by
  obtain ⟨i, hi, hz⟩ := h
  simp [zeroValue, typeInfo, hi, hz, Sem.run_bind, program, Sem.run, Sem.run_pure, Result.andThen_ok]
theorem run_newVar (t : TypeId) (v : Value) : (newVar t v).run P w = .ok ⟨w.heap.size, 0, none⟩ (w.alloc (.cells v.cells t)) := by
  simp [newVar, newRow, newObj, Sem.run_bind, Sem.run, Sem.run_pure, Result.andThen_ok]
theorem l_alloc {t : TypeId} {z : Value} (hd : Nat.ble (d + 1) n = true) (hz : ZeroIs P t z) (hs : St w0 L w)
    (h : ∀ b w', St w0 (blk b (.cells z.cells t) :: L) w' → WpL P ops n K rest ((d, .pointer (some ⟨b, 0, none⟩)) :: env) w') : WpL P ops n K (⟨some d, .alloc t, ty, pos, after, none⟩ :: rest) env w :=
  l_val _ hd (fun a hf => by simp [execOp, Instr.alloc, Sem.run_bind, hz.run, run_newVar, Sem.run_pure, Result.andThen_ok]) (h _ _ (hs.alloc _))
theorem l_box {x : Operand} {t : TypeId} {v : Value} (hd : Nat.ble (d + 1) n = true) (hx : ev env x = some v) (hs : St w0 L w)
    (h : ∀ b w', St w0 (blk b (.cells v.cells t) :: L) w' → WpL P ops n K rest ((d, .pointer (some ⟨b, 0, none⟩)) :: env) w') : WpL P ops n K (⟨some d, .box t x, ty, pos, after, none⟩ :: rest) env w :=
  l_val _ hd (fun a hf => by simp [execOp, hf.eval hx, Instr.box, Sem.run_bind, run_newVar, Sem.run_pure, Result.andThen_ok]) (h _ _ (hs.alloc _))

variable {α : Type} {Kx : Kd α} {e : TypeId}
/-- A new block of one element is a slice that is owned. -/
theorem St.blk_os1 {b : Nat} {v : Value} {x : α} (h : St w0 (blk b (.cells #[v] e (0, 0)) :: pt Kx v x :: L) w) (hs : Kx.sz = 1) : St w0 (pt (os e Kx) (.slice (some ⟨b, 0, none⟩) 1 1) [x] :: L) w := by
  obtain ⟨I, g, d, a, c, h1, h2, d2, s1, s2, r, h3, h4, d3, s3, s4, r2, l⟩ := h.mem
  have r' : h1 b = some (.cells #[v] e (0, 0)) := r
  have hb3 : h3 b = none := by
    rcases d2 b with e' | e'
    · rw [r'] at e'; cases e'
    · cases hh : h3 b with
      | none => rfl
      | some o => rw [s3 b o hh] at e'; cases e'
  refine ⟨h.b1, h.b2, h.b3, I, g, d, a, c, PH.un h1 h3, h4, PH.un_disj (PH.disj_sub d2 s4) d3, PH.un_sub s1 (PH.sub_trans s3 s2), PH.sub_trans s4 s2, ?_, l⟩
  refine .inr ⟨b, 1, #[v], h3, rfl, PH.un_left _ _ _ _ r', hb3, PH.un_right (PH.disj_sub d2 s3), Nat.le_refl _, by simp [maxLen], by simp [hs], h3, PH.empty, PH.disj_empty _, PH.sub_refl _, PH.empty_sub _, ?_, trivial⟩
  simp only [hs, List.drop_zero]
  exact r2
theorem pt_one {v : Value} {x : α} (h : St w0 (pt Kx v x :: L) w) : v.oneCell' = true := by
  obtain ⟨I, g, _, _, r⟩ := h.rep
  exact Kx.one r v (by simp)
/-- []T{x} -/
theorem l_buildSlice1 {t : TypeId} {y : Operand} {v : Value} {x : α} {z : Value} (hd : Nat.ble (d + 1) n = true) (ht : P.underlying t = some (.slice e)) (he : SzIs P e 1) (hz : ZeroIs P e z) (hy : ev env y = some v) (hs : Kx.sz = 1) (hst : St w0 (pt Kx v x :: L) w)
    (h : ∀ u w', St w0 (pt (os e Kx) u [x] :: L) w' → WpL P ops n K rest ((d, u) :: env) w') : WpL P ops n K (⟨some d, .buildSlice t 1 #[(0, y)], ty, pos, after, none⟩ :: rest) env w := by
  have hv := pt_one hst
  refine l_val (w' := w.alloc (.cells #[v] e)) (.slice (some ⟨w.heap.size, 0, none⟩) 1 1) hd (fun a hf => ?_) (h _ _ ((hst.alloc _).blk_os1 hs))
  have hfill : ∀ f : Nat → Value, Instr.fill (fun i => some (i, 1)) (Array.map f (Array.range 1)) [(0, v)] = some #[v] := fun f => by
    have : Array.range 1 = #[0] := rfl
    simp [Instr.fill, cells_one hv, this]
  simp [execOp, hf.eval hy, Instr.buildSlice, Sem.run_bind, run_underlying ht, he.run, hz.run, Sem.run_pure, Result.andThen_ok, hfill, newRow, newObj, Sem.run]

/-- What one cell after the other stands for. -/
theorem elems_replicate {K : Kd α} {I : PH} (hs : K.sz = 1) {z : Value} {x : α} (r : K.rep PH.empty PH.empty [z] x) : ∀ (m off : Nat) (l : List Value), (∀ i, i < m → l[off + i]? = some z) → Elems K I l PH.empty off (List.replicate m x)
  | 0, off, l, h => trivial
  | m + 1, off, l, h => by
    rw [List.replicate_succ]
    refine ⟨PH.empty, PH.empty, PH.disj_empty _, PH.sub_refl _, PH.sub_refl _, ?_, ?_⟩
    · have h0 := h 0 (by omega)
      have hlt := (List.getElem?_eq_some_iff.1 h0).1
      have hlt' : off < l.length := by omega
      have : (l.drop off).take K.sz = [z] := by
        rw [hs, List.drop_eq_getElem_cons hlt']
        have : l[off] = z := by
          have := (List.getElem?_eq_some_iff.1 h0).2
          simpa using this
        simp [this]
      rw [this]
      exact K.mono (PH.empty_sub _) r
    · rw [hs]
      exact elems_replicate hs r m (off + 1) l fun i hi => by
        have := h (i + 1) (by omega)
        rwa [show off + (i + 1) = off + 1 + i from by omega] at this
/-- make([]T, m) -/
theorem l_makeSlice {t : TypeId} {y z : Operand} {k1 k2 : IntKind} {m : Nat} {zv : Value} {zx : α} {bytes : Nat} (hd : Nat.ble (d + 1) n = true) (ht : P.underlying t = some (.slice e)) (hi : (P.info? e).map (fun i => (i.zero, i.size, i.bytes)) = some (some zv, 1, bytes)) (hs : Kx.sz = 1)
    (hzr : Kx.rep PH.empty PH.empty [zv] zx) (hy : ev env y = some (.int k1 (m : Int))) (hz : ev env z = some (.int k2 (m : Int))) (hb : bytes * m ≤ 2 ^ 48) (hm : m ≤ maxLen) (hst : St w0 L w)
    (h : ∀ u w', St w0 (pt (os e Kx) u (List.replicate m zx) :: L) w' → WpL P ops n K rest ((d, u) :: env) w') : WpL P ops n K (⟨some d, .makeSlice t y z, ty, pos, after, none⟩ :: rest) env w := by
  have hone : zv.oneCell' = true := Kx.one hzr zv (by simp)
  have hmm : m ≤ 9223372036854775807 := by simpa [maxLen] using hm
  have hrun := run_make_row' (P := P) t e zv bytes ht hi (cells_one hone) k1 k2 m hb hmm w
  refine l_val (w' := w.alloc (.cells (madeCells #[zv] m) e)) (.slice (some ⟨w.heap.size, 0, none⟩) m m) hd (fun a hf => ?_) (h _ _ ?_)
  · simp only [execOp, hf.eval hy, hf.eval hz, Sem.run_bind, hrun, Result.andThen_ok, Sem.run_pure]
  · have hmade : ∀ i, i < m → (madeCells #[zv] m)[i]? = some zv := by
      intro i hi
      simp [madeCells, hi, Nat.mod_one]
    have hsz : (madeCells #[zv] m).size = m := by simp [madeCells]
    have hst2 := hst.alloc (.cells (madeCells #[zv] m) e)
    obtain ⟨I, g, dd, aa, c, h1, h2, d2, s1, s2, r, l⟩ := hst2.mem
    refine ⟨hst2.b1, hst2.b2, hst2.b3, I, g, dd, aa, c, h1, h2, d2, s1, s2, ?_, l⟩
    refine .inr ⟨w.heap.size, m, madeCells #[zv] m, PH.empty, by simp, r, rfl, PH.empty_sub _, by simp, hm, by rw [hsz, hs, Nat.mul_one], ?_⟩
    exact elems_replicate hs hzr m 0 _ fun i hi => by
      have := hmade i hi
      simpa using this
end Go.Proofs.Fw
