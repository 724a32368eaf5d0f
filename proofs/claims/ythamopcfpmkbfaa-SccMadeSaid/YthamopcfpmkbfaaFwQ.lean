/- The walk: slices of pairs of numbers, held as two cells each. No condition. -/
import Derived.Test.YthamopcfpmkbfaaFwS
set_option linter.unusedVariables false
set_option linter.unusedSimpArgs false
namespace Go.Proofs.Fw
variable {P : Program} {n : Nat} {env : Env} {a : Act} {w w' : World} {ops : Array Oper} {K : Env → World → Prop} {rest : List Oper} {d : Nat} {ty : TypeId} {pos : String} {after : Array Edge}
variable {w0 : World} {L L' : List Res} {e : TypeId} {v u : Value}
theorem e_indexAddrN {x y : Operand} {t e : TypeId} {ad : Addr} {l c i s : Nat} {k : IntKind} (ht : P.underlying t = some (.slice e)) (hs : SzIs P e s) (hx : ev env x = some (.slice (some ad) l c)) (hy : ev env y = some (.int k (i : Int))) (h1 : i < l) :
    Ev P n env ⟨some d, .indexAddr t x y, ty, pos, after, none⟩ (.pointer (some (ad.add (i * s)))) := by
  have := e_indexAddr (P := P) (n := n) (env := env) (d := d) (ty := ty) (pos := pos) (after := after) ht hs hx hy (by omega) (by omega)
  simpa using this
theorem l_indexAddrN {x y : Operand} {t e : TypeId} {ad : Addr} {l c i s : Nat} {k : IntKind} (hd : Nat.ble (d + 1) n = true) (ht : P.underlying t = some (.slice e)) (hs : SzIs P e s) (hx : ev env x = some (.slice (some ad) l c)) (hy : ev env y = some (.int k (i : Int))) (h1 : i < l)
    (h : WpL P ops n K rest ((d, .pointer (some (ad.add (i * s)))) :: env) w) : WpL P ops n K (⟨some d, .indexAddr t x y, ty, pos, after, none⟩ :: rest) env w :=
  l_val _ hd (fun a hf => e_indexAddrN ht hs hx hy h1 a w hf) h
theorem St.stk_at {A : Option Addr} {l c : Nat} {M : List (Nat × Nat)} (h : St w0 (pt (os e kPair) (.slice A l c) M :: L) w) {k : Nat} (hk : k < M.length) :
    ∃ ad, A = some ad ∧ w.cell? ((ad.add (k * 2)).add 0) = some (.int .i64 (M[k].1 : Int)) ∧ w.cell? ((ad.add (k * 2)).add 1) = some (.int .i64 (M[k].2 : Int)) ∧ M[k].1 ≤ 1152921504606846976 ∧ M[k].2 ≤ 1152921504606846976 := by
  obtain ⟨ad, cs, rfl, hc, h'⟩ := h.os_cells kPair_pers rfl k hk
  obtain ⟨rfl, h1, h2⟩ := h'.pair
  obtain ⟨I, g, _, _, r⟩ := h.rep
  have hsp : ad.spot = none := by
    rcases r with ⟨r1, r2⟩ | ⟨b, cap, cells, h', k1, k2, k3, k4, k5, k6, k7, k8⟩
    · simp at r1
    · simp at k1; rw [k1.1]
  refine ⟨ad, rfl, ?_, ?_, h1, h2⟩
  · rw [add_add _ _ _ hsp]; exact hc 0 _ rfl
  · rw [add_add _ _ _ hsp]; exact hc 1 _ rfl
theorem pair_flat : ∀ {I h cs x}, kPair.rep I h cs x → kPair.rep PH.empty PH.empty cs x := fun r => r
theorem St.stk_set2 {ad : Addr} {l c : Nat} {M : List (Nat × Nat)} (h : St w0 (pt (os e kPair) (.slice (some ad) l c) M :: L) w) {k : Nat} (hk : k < M.length) (j : Nat) (hj : j ≤ 1152921504606846976) :
    ∃ y, w.cell? ((ad.add (k * 2)).add 1) = some y ∧ w.frozen? ((ad.add (k * 2)).add 1) = false ∧ St w0 (pt (os e kPair) (.slice (some ad) l c) (M.set k (M[k].1, j)) :: L) (w.setCell ((ad.add (k * 2)).add 1) (.int .i64 (j : Int))) := by
  obtain ⟨ad', y, had, hsp, h1, h2, h3⟩ := h.os_setCell pair_flat rfl k 1 hk (by decide) (M[k].1, j) (.int .i64 (j : Int)) (fun cs hcs => by
    obtain ⟨r1, r2, r3⟩ := hcs
    rw [r1]
    exact ⟨rfl, r2, hj⟩)
  cases had
  rw [add_add _ _ _ hsp]
  exact ⟨y, h1, h2, h3⟩
theorem l_buildPair {t : TypeId} {y : Operand} {x i : Nat} {z : Value} (hd : Nat.ble (d + 1) n = true) (ht : P.underlying t = some (.slice e)) (he : SzIs P e 2) (hz : ZeroIs P e z) (hy : ev env y = some (.agg #[.int .i64 (x : Int), .int .i64 (i : Int)])) (hx : x ≤ big) (hi : i ≤ big) (hst : St w0 L w)
    (h : ∀ u w', St w0 (pt (os e kPair) u [(x, i)] :: L) w' → WpL P ops n K rest ((d, u) :: env) w') : WpL P ops n K (⟨some d, .buildSlice t 1 #[(0, y)], ty, pos, after, none⟩ :: rest) env w := by
  have hnew : St w0 (pt (os e kPair) (.slice (some ⟨w.heap.size, 0, none⟩) 1 1) [(x, i)] :: L) (w.alloc (.cells #[.int .i64 (x : Int), .int .i64 (i : Int)] e)) :=
    (hst.alloc _).mapHead fun I g r => .inr ⟨w.heap.size, 1, _, PH.empty, rfl, r, rfl, PH.empty_sub _, Nat.le_refl _, by unfold maxLen; omega, rfl, PH.empty, PH.empty, PH.empty_disj _, PH.empty_sub _, PH.empty_sub _, ⟨rfl, hx, hi⟩, trivial⟩
  refine l_val (w' := w.alloc (.cells #[.int .i64 (x : Int), .int .i64 (i : Int)] e)) (.slice (some ⟨w.heap.size, 0, none⟩) 1 1) hd (fun a hf => ?_) (h _ _ hnew)
  have hfill : ∀ f : Nat → Value, Instr.fill (fun i => some (i * 2, 2)) (Array.map f (Array.range 2)) [(0, .agg #[.int .i64 (x : Int), .int .i64 (i : Int)])] = some #[.int .i64 (x : Int), .int .i64 (i : Int)] := fun f => by
    have : Array.range 2 = #[0, 1] := rfl
    simp [Instr.fill, Value.cells, this]
  simp [execOp, hf.eval hy, Instr.buildSlice, Sem.run_bind, run_underlying ht, he.run, hz.run, Sem.run_pure, Result.andThen_ok, hfill, newRow, newObj, Sem.run]
end Go.Proofs.Fw
