/- The walk: an element of an owned slice lent, and given back changed. No condition. -/
import Derived.Test.YthamopcfpmkbfaaFwX
set_option linter.unusedVariables false
set_option linter.unusedSimpArgs false
namespace Go.Proofs.Fw
variable {P : Program} {w w' W : World} {w0 : World} {L L' : List Res} {α : Type} {Kx : Kd α} {e : TypeId} {v u : Value} {x : α} {xs : List α}
theorem St.lend (hs : Kx.sz = 1) {ad : Addr} {l c : Nat} (h : St w0 (pt (os e Kx) (.slice (some ad) l c) xs :: L) w) (i : Nat) (hi : i < xs.length) :
    ∃ (b : Nat) (cells : Array Value) (u : Value) (R : Res), ad = ⟨b, 0, none⟩ ∧ cells[i]? = some u ∧ St w0 (pt Kx u xs[i] :: blk b (.cells cells e (0, 0)) :: R :: L) w ∧
      ∀ {L' : List Res} {w' : World} (u' : Value) (x' : α), St w0 (pt Kx u' x' :: blk b (.cells (cells.setIfInBounds i u') e (0, 0)) :: R :: L') w' → St w0 (pt (os e Kx) (.slice (some ⟨b, 0, none⟩) l c) (xs.set i x') :: L') w' := by
  obtain ⟨b, cells, vs, rfl, rfl, k1, k2, k3, k4, k5, hst⟩ := h.os_split hs
  obtain ⟨ps, hps⟩ : ∃ ps, ps = vs.zip xs := ⟨_, rfl⟩
  have hpl : ps.length = xs.length := by rw [hps]; simp [k4]
  have hp1 : ∀ (i : Nat) (p : Value × α), ps[i]? = some p → cells[i]? = some p.1 := fun i p hp => by
    rw [hps, List.getElem?_zip_eq_some] at hp
    exact k5 i _ hp.1
  have hp2 : ps.map Prod.snd = xs := by rw [hps]; simp [List.map_snd_zip, k4]
  rw [← hps] at hst
  have hip : i < ps.length := by omega
  have hrow : ps[i].2 = xs[i] := by simp [← hp2]
  have hcx : cells[i]? = some ps[i].1 := hp1 _ _ (List.getElem?_eq_getElem hip)
  have pm : ∀ (A B : Res) (E F L : List Res), (A :: B :: (E ++ (F ++ L))).Perm ((E ++ F) ++ (A :: B :: L)) := fun A B E F L => by
    have h1 : ([A, B] ++ (E ++ F)).Perm ((E ++ F) ++ [A, B]) := List.perm_append_comm
    have h2 := h1.append_right L
    simpa using h2
  replace hst := ((hst.each_out1 hip).perm (pm _ _ _ _ _)).shut
  rw [hrow] at hst
  refine ⟨b, cells, ps[i].1, star (each Kx (ps.take i) ++ each Kx (ps.drop (i + 1))), rfl, hcx, hst.re [1, 2, 0], ?_⟩
  intro L' w' u' x' h'
  have h1 := (h'.re [2]).open
  have h2 := (h1.perm (pm _ _ _ _ _).symm).each_in1 hip
  have hj := h2.os_join hs (c := c) (by simp [k1]) (by simp; omega) k3 (fun j p hp => by
    rw [List.getElem?_set] at hp
    rw [Array.getElem?_setIfInBounds]
    by_cases e : i = j
    · subst e
      rw [if_pos rfl, if_pos hip] at hp
      rw [if_pos rfl, if_pos (by omega)]
      cases hp
      rfl
    · rw [if_neg e] at hp ⊢
      exact hp1 j p hp)
  have e1 : (ps.set i (u', x')).length = xs.length := by simp [hpl]
  have e2 : (ps.set i (u', x')).map Prod.snd = xs.set i x' := by rw [List.map_set, hp2]
  rw [e1, e2] at hj
  exact hj
variable {n : Nat} {env : Env} {a : Act} {ops : Array Oper} {K : Env → World → Prop} {rest : List Oper} {d : Nat} {ty : TypeId} {pos : String} {after : Array Edge}
/-- Ways meet again behind the first part, some values being open. -/
theorem c_seqX {ι : Type} {x y : Code} {Q : Exit → Env → World → Prop} (small : ι → Env) (S : ι → World → Prop) (hx : WpC P n (Then (fun env w => ∃ i, Fw.Sub env (small i) ∧ S i w) Q) x env w) (hy : ∀ i w, S i w → WpC P n Q y (small i) w) : WpC P n Q (.seq x y) env w :=
  c_seq (hx.mono fun e env w h => by
    cases e with
    | normal => obtain ⟨i, h1, h2⟩ := h; exact WpC.weak (small i) h1 (hy i w h2)
    | _ => exact h)
/-- make([]T, m), its block told. -/
theorem l_makeS {α : Type} {Kx : Kd α} {e : TypeId} {t : TypeId} {y z : Operand} {k1 k2 : IntKind} {m : Nat} {zv : Value} {zx : α} {bytes : Nat} (hd : Nat.ble (d + 1) n = true) (ht : P.underlying t = some (.slice e)) (hi : (P.info? e).map (fun i => (i.zero, i.size, i.bytes)) = some (some zv, 1, bytes)) (hs : Kx.sz = 1)
    (hzr : Kx.rep PH.empty PH.empty [zv] zx) (hy : ev env y = some (.int k1 (m : Int))) (hz : ev env z = some (.int k2 (m : Int))) (hb : bytes * m ≤ 2 ^ 48) (hm : m ≤ maxLen) (hst : St w0 L w)
    (h : ∀ b w', St w0 (pt (os e Kx) (.slice (some ⟨b, 0, none⟩) m m) (List.replicate m zx) :: L) w' → WpL P ops n K rest ((d, .slice (some ⟨b, 0, none⟩) m m) :: env) w') : WpL P ops n K (⟨some d, .makeSlice t y z, ty, pos, after, none⟩ :: rest) env w := by
  have hone : zv.oneCell' = true := Kx.one hzr zv (by simp)
  have hmm : m ≤ 9223372036854775807 := by simpa [maxLen] using hm
  have hrun := run_make_row' (P := P) t e zv bytes ht hi (cells_one hone) k1 k2 m hb hmm w
  refine l_val (w' := w.alloc (.cells (madeCells #[zv] m) e)) (.slice (some ⟨w.heap.size, 0, none⟩) m m) hd (fun a hf => ?_) (h _ _ ?_)
  · simp only [execOp, hf.eval hy, hf.eval hz, Sem.run_bind, hrun, Result.andThen_ok, Sem.run_pure]
  · have hmade : ∀ i, i < m → (madeCells #[zv] m)[i]? = some zv := by
      intro i hi
      simp [madeCells, hi, Nat.mod_one]
    have hsz : (madeCells #[zv] m).size = m := by simp [madeCells]
    have hst2 := hst.alloc (.cells (madeCells #[zv] m) e)
    obtain ⟨I, g, dd, aa, c, h1, h2, d2, s1, s2, r, l⟩ := hst2.mem
    refine ⟨hst2.b1, hst2.b2, hst2.b3, I, g, dd, aa, c, h1, h2, d2, s1, s2, ?_, l⟩
    refine .inr ⟨w.heap.size, m, madeCells #[zv] m, PH.empty, by simp, r, rfl, PH.empty_sub _, by simp, hm, by rw [hsz, hs, Nat.mul_one], ?_⟩
    exact elems_replicate hs hzr m 0 _ fun i hi => by
      have := hmade i hi
      simpa using this
/-- The address of an element of an array in a variable of its own. -/
theorem e_indexAddrP {x y : Operand} {t e : TypeId} {b m i : Nat} {k : IntKind} (ht : P.underlying t = some (.array m e)) (hs : SzIs P e 1) (hx : ev env x = some (.pointer (some ⟨b, 0, none⟩))) (hy : ev env y = some (.int k (i : Int))) (h1 : i < m) :
    Ev P n env ⟨some d, .indexAddr t x y, ty, pos, after, none⟩ (.pointer (some ⟨b, i, none⟩)) :=
  fun a w hf => by
    have h2 : (i : Int) < (m : Int) := by omega
    simp [execOp, hf.eval hx, hf.eval hy, Instr.indexAt, Instr.sureAddr, asIntOf, run_underlying ht, hs.run, h2, addr_add, Sem.run_bind, Sem.run_pure, Result.andThen_ok]
    intro hh; omega
theorem l_indexAddrP {x y : Operand} {t e : TypeId} {b m : Nat} (i : Nat) {k : IntKind} (hd : Nat.ble (d + 1) n = true) (ht : P.underlying t = some (.array m e)) (hs : SzIs P e 1) (hx : ev env x = some (.pointer (some ⟨b, 0, none⟩))) (hy : ev env y = some (.int k (i : Int))) (h1 : i < m)
    (h : WpL P ops n K rest ((d, .pointer (some ⟨b, i, none⟩)) :: env) w) : WpL P ops n K (⟨some d, .indexAddr t x y, ty, pos, after, none⟩ :: rest) env w :=
  l_val _ hd (fun a hf => e_indexAddrP ht hs hx hy h1 a w hf) h
/-- A row of numbers, in a slice of such that is read. -/
theorem St.rsNN_row {A : Option Addr} {l c : Nat} {gs : List (List Nat)} (h : St w0 (pt (rs (rs kN)) (.slice A l c) gs :: L) w) {i : Nat} (hi : i < gs.length) :
    ∃ ad Ar cr, A = some ad ∧ w.cell? (ad.add i) = some (.slice Ar gs[i].length cr) ∧ gs[i].length ≤ cr ∧ cr ≤ maxLen ∧ (0 < gs[i].length → ∃ ar, Ar = some ar ∧ ∀ k (hk : k < gs[i].length), w.cell? (ar.add k) = some (.int .i64 (gs[i][k] : Int)) ∧ gs[i][k] ≤ 1152921504606846976) ∧
      St w0 (pt (rs kN) (.slice Ar gs[i].length cr) gs[i] :: pt (rs (rs kN)) (.slice A l c) gs :: L) w := by
  obtain ⟨ad, u, rfl, q, h1⟩ := h.rs_cell rfl rfl i hi
  obtain ⟨Ar, cr, rfl, h2, h3⟩ := h1.rs_form
  refine ⟨ad, Ar, cr, rfl, q, h2, h3, fun hp => ?_, h1⟩
  obtain ⟨ar, rfl⟩ := h1.rsN_ad rfl hp
  exact ⟨ar, rfl, fun k hk => h1.rsN_at hk⟩
theorem St.rsII_row {A : Option Addr} {l c : Nat} {gs : List (List Int)} (h : St w0 (pt (rs (rs (kInt .i64))) (.slice A l c) gs :: L) w) {i : Nat} (hi : i < gs.length) :
    ∃ ad Ar cr, A = some ad ∧ w.cell? (ad.add i) = some (.slice Ar gs[i].length cr) ∧ gs[i].length ≤ cr ∧ cr ≤ maxLen ∧ (0 < gs[i].length → ∃ ar, Ar = some ar ∧ ∀ k (hk : k < gs[i].length), w.cell? (ar.add k) = some (.int .i64 gs[i][k]) ∧ -9223372036854775808 ≤ gs[i][k] ∧ gs[i][k] ≤ 9223372036854775807) ∧
      St w0 (pt (rs (kInt .i64)) (.slice Ar gs[i].length cr) gs[i] :: pt (rs (rs (kInt .i64))) (.slice A l c) gs :: L) w := by
  obtain ⟨ad, u, rfl, q, h1⟩ := h.rs_cell rfl rfl i hi
  obtain ⟨Ar, cr, rfl, h2, h3⟩ := h1.rs_form
  refine ⟨ad, Ar, cr, rfl, q, h2, h3, fun hp => ?_, h1⟩
  obtain ⟨ar, rfl⟩ := h1.rsN_ad rfl hp
  exact ⟨ar, rfl, fun k hk => h1.rsI_at hk⟩
end Go.Proofs.Fw
