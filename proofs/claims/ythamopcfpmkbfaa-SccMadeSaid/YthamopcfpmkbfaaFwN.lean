/- The walk: slices whose elements own memory; structs and arrays in variables. No condition. -/
import Derived.Test.YthamopcfpmkbfaaFwH
import Derived.Laws.Tables
set_option linter.unusedVariables false
set_option linter.unusedSimpArgs false
namespace Go.Proofs.Fw
variable {P : Program} {n : Nat} {env : Env} {a : Act} {w w' : World} {ops : Array Oper} {K : Env → World → Prop} {rest : List Oper} {d : Nat} {ty : TypeId} {pos : String} {after : Array Edge}
variable {w0 : World} {L L' : List Res} {α : Type} {Kx : Kd α} {e : TypeId} {v u : Value} {x : α} {xs ys : List α}

/-! ### one element is lent -/
/-- A slice that is owned, but for what its element i owns. -/
def hole (e : TypeId) (Kx : Kd α) (v : Value) (xs : List α) (i : Nat) : Res := {
  p I h := ∃ b cap cells g1 g2, v = .slice (some ⟨b, 0, none⟩) xs.length cap ∧ h b = some (.cells cells e (0, 0)) ∧ g1 b = none ∧ g2 b = none ∧ PH.disj g1 g2 ∧ PH.sub g1 h ∧ PH.sub g2 h ∧ xs.length ≤ cap ∧ cap ≤ maxLen ∧ cells.size = cap * Kx.sz ∧
    Elems Kx I cells.toList g1 0 (xs.take i) ∧ Elems Kx I cells.toList g2 ((i + 1) * Kx.sz) (xs.drop (i + 1))
  mono s := fun ⟨b, cap, cells, g1, g2, k1, k2, k3, k4, k5, k6, k7, k8, k9, k10, k11, k12⟩ => ⟨b, cap, cells, g1, g2, k1, k2, k3, k4, k5, k6, k7, k8, k9, k10, k11.mono s, k12.mono s⟩
  up s := fun ⟨b, cap, cells, g1, g2, k1, k2, k3, k4, k5, k6, k7, k8, k9, k10, k11, k12⟩ => ⟨b, cap, cells, g1, g2, k1, s _ _ k2, k3, k4, k5, PH.sub_trans k6 s, PH.sub_trans k7 s, k8, k9, k10, k11, k12⟩ }
theorem split_at {xs : List α} {i : Nat} (hi : i < xs.length) : xs = xs.take i ++ xs[i] :: xs.drop (i + 1) := by
  rw [← List.drop_eq_getElem_cons hi, List.take_append_drop]
theorem St.os_take (h : St w0 (pt (os e Kx) v xs :: L) w) (hs : Kx.sz = 1) {A : Option Addr} {l c : Nat} (hv : v = .slice A l c) (i : Nat) (hi : i < xs.length) :
    ∃ ad u, A = some ad ∧ w.cell? (ad.add i) = some u ∧ St w0 (pt Kx u xs[i] :: hole e Kx v xs i :: L) w := by
  obtain ⟨I, g, dg, aI, cg, h1, h2, d2, s1, s2, r, l'⟩ := h.mem
  rcases r with ⟨r1, r2⟩ | ⟨b, cap, cells, h', k1, k2, k3, k4, k5, k6, k7, k8⟩
  · subst r2; simp at hi
  · subst hv
    simp at k1
    obtain ⟨rfl, rfl, rfl⟩ := k1
    have k8' := k8
    rw [split_at hi] at k8
    obtain ⟨g1, g2, dd, t1, t2, e1, e2⟩ := Elems.split k8
    obtain ⟨g3, g4, dd', t3, t4, ru, e3⟩ := e2
    have hlen : (xs.take i).length = i := by rw [List.length_take]; omega
    rw [hlen] at ru e3
    have hl1 := Kx.len ru
    simp only [hs, Nat.mul_one, Nat.zero_add] at ru hl1 e3
    obtain ⟨u, hu⟩ := take_one hl1
    rw [hu] at ru
    have sub3 : PH.sub g3 h1 := PH.sub_trans (PH.sub_trans t3 t2) k4
    have hb1 : g1 b = none := by
      cases hh : g1 b with
      | none => rfl
      | some o => rw [t1 b o hh] at k3; cases k3
    have hb4 : g4 b = none := by
      cases hh : g4 b with
      | none => rfl
      | some o => rw [t2 b o (t4 b o hh)] at k3; cases k3
    have hb3 : g3 b = none := by
      cases hh : g3 b with
      | none => rfl
      | some o => rw [t2 b o (t3 b o hh)] at k3; cases k3
    have d14 : PH.disj g1 g4 := PH.disj_sub dd t4
    have d3_14 : PH.disj g3 (PH.un g1 g4) := PH.disj_un (PH.disj_symm (PH.disj_sub dd t3)) dd'
    have d3b : PH.disj g3 (PH.one b (.cells cells e (0, 0))) := PH.disj_symm (PH.one_disj hb3)
    have db14 : PH.disj (PH.one b (.cells cells e (0, 0))) (PH.un g1 g4) := PH.one_disj (by simp [PH.un, hb1, hb4])
    have hn : PH.un (PH.one b (.cells cells e (0, 0))) (PH.un g1 g4) |>.disj h2 := PH.disj_sub2 d2 (PH.un_sub (PH.one_sub k2) (PH.un_sub (PH.sub_trans t1 k4) (PH.sub_trans (PH.sub_trans t4 t2) k4))) (PH.sub_refl _)
    refine ⟨_, u, rfl, ?_, ⟨h.b1, h.b2, h.b3, I, g, dg, aI, cg, g3, PH.un (PH.un (PH.one b (.cells cells e (0, 0))) (PH.un g1 g4)) h2, PH.disj_un (PH.disj_un d3b d3_14) (PH.disj_sub2 d2 sub3 (PH.sub_refl _)),
      PH.sub_trans sub3 s1, PH.un_sub (PH.sub_trans (PH.un_sub (PH.one_sub k2) (PH.un_sub (PH.sub_trans t1 k4) (PH.sub_trans (PH.sub_trans t4 t2) k4))) s1) s2, ru, ?_⟩⟩
    · rw [addr_add, Nat.zero_add, cell_le (PH.le_sub cg s1) k2]
      have := cell_of_take hu
      simpa using this
    · refine ⟨PH.un (PH.one b (.cells cells e (0, 0))) (PH.un g1 g4), h2, hn, PH.un_left _ _, PH.un_right hn, ?_, l'⟩
      refine ⟨b, c, cells, g1, g4, rfl, PH.un_left _ _ _ _ (PH.one_at _ _), hb1, hb4, d14, PH.sub_trans (PH.un_left _ _) (PH.un_right db14), PH.sub_trans (PH.un_right d14) (PH.un_right db14), k5, k6, k7, e1, ?_⟩
      rw [hs, Nat.mul_one]; exact e3
/-- The element is given back, or another one for it. -/
theorem St.os_give {i : Nat} (h : St w0 (hole e Kx v xs i :: pt Kx u x :: L) w) (hs : Kx.sz = 1) {A : Option Addr} {l c : Nat} (hv : v = .slice A l c) (hi : i < xs.length) :
    ∃ ad y, A = some ad ∧ w.cell? (ad.add i) = some y ∧ w.frozen? (ad.add i) = false ∧ St w0 (pt (os e Kx) v (xs.set i x) :: L) (w.setCell (ad.add i) u) := by
  obtain ⟨I, g, dg, aI, cg, h1, h2, d2, s1, s2, r, h3, h4, d3, s3, s4, ru, l'⟩ := h.mem
  obtain ⟨b, cap, cells, g1, g2, k1, k2, k3, k4, k5, k6, k7, k8, k9, k10, k11, k12⟩ := r
  subst hv
  simp at k1
  obtain ⟨rfl, rfl, rfl⟩ := k1
  have hgb : g b = some (.cells cells e (0, 0)) := s1 b _ k2
  have hwb : w.heap[b]? = some (.cells cells e (0, 0)) := cg b _ hgb
  have hlt : i < cells.size := by rw [k10, hs]; omega
  have none_of : ∀ {k : PH}, PH.sub k h2 → k b = none := fun {k} hk => by
    rcases d2 b with e' | e'
    · rw [k2] at e'; cases e'
    · cases hh : k b with
      | none => rfl
      | some o => rw [hk b o hh] at e'; cases e'
  have hIb : I b = none := by
    rcases dg b with e' | e'
    · exact e'
    · rw [hgb] at e'; cases e'
  have h3b : h3 b = none := none_of s3
  have h4b : h4 b = none := none_of s4
  -- what the elements own
  have d13 : PH.disj g1 h3 := PH.disj_sub2 d2 k6 s3
  have d23 : PH.disj g2 h3 := PH.disj_sub2 d2 k7 s3
  have d32 : PH.disj h3 g2 := PH.disj_symm d23
  have dE : PH.disj g1 (PH.un h3 g2) := PH.disj_un d13 k5
  have hEb : PH.un g1 (PH.un h3 g2) b = none := by simp [PH.un, k3, k4, h3b]
  have subE : PH.sub (PH.un g1 (PH.un h3 g2)) g := PH.un_sub (PH.sub_trans k6 s1) (PH.un_sub (PH.sub_trans s3 s2) (PH.sub_trans k7 s1))
  have dE4 : PH.disj (PH.un g1 (PH.un h3 g2)) h4 := PH.un_disj (PH.disj_sub2 d2 k6 s4) (PH.un_disj d3 (PH.disj_sub2 d2 k7 s4))
  have keep : ∀ {k : PH}, k b = none → PH.le k w → PH.le k (w.setCell ⟨b, i, none⟩ u) := fun {k} hk hl y o e' => by
    have hy : y ≠ b := fun e'' => by subst e''; rw [hk] at e'; cases e'
    rw [setCell_other hy]; exact hl y o e'
  have dN : PH.disj (PH.one b (.cells (cells.setIfInBounds i u) e (0, 0))) (PH.un g1 (PH.un h3 g2)) := PH.one_disj hEb
  have dN4 : PH.disj (PH.un (PH.one b (.cells (cells.setIfInBounds i u) e (0, 0))) (PH.un g1 (PH.un h3 g2))) h4 := PH.un_disj (PH.one_disj h4b) dE4
  refine ⟨_, (cells[i]?).getD undef, rfl, ?_, ?_, ⟨h.b1, h.b2, h.b3, I, PH.un (PH.un (PH.one b (.cells (cells.setIfInBounds i u) e (0, 0))) (PH.un g1 (PH.un h3 g2))) h4,
    PH.disj_un (PH.disj_un (PH.disj_symm (PH.one_disj hIb)) (PH.disj_sub dg subE)) (PH.disj_sub dg (PH.sub_trans s4 s2)), ?_, ?_, PH.un (PH.one b (.cells (cells.setIfInBounds i u) e (0, 0))) (PH.un g1 (PH.un h3 g2)), h4, dN4, PH.un_left _ _, PH.un_right dN4, ?_, l'⟩⟩
  · rw [addr_add, Nat.zero_add, cell_le cg hgb]; simp [hlt]
  · rw [addr_add]; simp [World.frozen?, hwb]
  · rw [addr_add, Nat.zero_add]; exact keep hIb aI
  · rw [addr_add, Nat.zero_add]
    have big : PH.le (PH.un (PH.un g1 (PH.un h3 g2)) h4) (w.setCell ⟨b, i, none⟩ u) := keep (by simp only [PH.un] at hEb ⊢; rw [hEb]; exact h4b) (PH.le_sub cg (PH.un_sub subE (PH.sub_trans s4 s2)))
    intro y o hy
    unfold PH.un at hy
    cases ho : PH.one b (.cells (cells.setIfInBounds i u) e (0, 0)) y with
    | some o' =>
      simp only [ho] at hy
      cases hy
      unfold PH.one at ho
      split at ho
      · rename_i hh; subst hh; cases ho; exact setCell_heap hwb
      · cases ho
    | none =>
      simp only [ho] at hy
      exact big y o (by unfold PH.un; exact hy)
  · refine .inr ⟨b, c, cells.setIfInBounds i u, PH.un g1 (PH.un h3 g2), by simp, PH.un_left _ _ _ _ (PH.one_at _ _), hEb, PH.un_right dN, by simpa using k8, k9, by simpa using k10, ?_⟩
    have hx : xs.set i x = xs.take i ++ x :: xs.drop (i + 1) := by
      rw [List.set_eq_take_append_cons_drop, if_pos hi]
    have hlen : (xs.take i).length = i := by rw [List.length_take]; omega
    rw [hx]
    have hcl : (cells.setIfInBounds i u).toList = cells.toList.set i u := by simp
    rw [hcl]
    refine Elems.append (g := PH.un h3 g2) dE (PH.un_left _ _) (PH.un_right dE) (Elems.congr (fun j hj => ?_) k11) ?_
    · rw [hs, take_one_eq, take_one_eq, List.getElem?_set_ne (by omega)]
    · rw [hlen, hs, Nat.mul_one, Nat.zero_add]
      refine ⟨h3, g2, d32, PH.un_left _ _, PH.un_right d32, ?_, ?_⟩
      · rw [hs, take_one_eq, List.getElem?_set_self (by simpa using hlt)]; exact ru
      · have := k12
        rw [hs, Nat.mul_one] at this
        rw [hs]
        refine Elems.congr (fun j hj => ?_) this
        rw [hs, take_one_eq, take_one_eq, List.getElem?_set_ne (by omega)]

/-! ### a variable of several cells -/
theorem setRow_other' {g k : Nat} {cs : Array Value} (h : k ≠ g) : (w.setRow g cs).heap[k]? = w.heap[k]? := setRow_other w g k cs h
/-- A whole variable is written. -/
theorem l_storeB {x y : Operand} {t t' : TypeId} {b : Nat} {old cells : Array Value} (hi : (P.info? t).map (·.size) = some cells.size) (ho : old.size = cells.size) (h1 : cells.toList.all (·.oneCell') = true) (hx : ev env x = some (.pointer (some ⟨b, 0, none⟩))) (hy : ev env y = some (.agg cells))
    (hs : St w0 (blk b (.cells old t' (0, 0)) :: L) w) (h : ∀ w', St w0 (blk b (.cells cells t' (0, 0)) :: L) w' → WpL P ops n K rest env w') : WpL P ops n K (⟨none, .store t x y, ty, pos, after, none⟩ :: rest) env w := by
  have hb := hs.blk_at
  refine l_unit (w' := w.setRow b cells) (fun a hf => ?_) (h _ (hs.change rfl rfl rfl (setRow_heap w b old cells t' (0, 0) hb) fun c hc u hu => by rw [setRow_other' hc]; exact hu))
  simp only [execOp, hf.eval hx, hf.eval hy, Instr.storeAt, Instr.sureAddr, Sem.run_bind, Sem.run_pure, Result.andThen_ok, run_storeVar_row w b t' t old cells hb hi ho (by simpa using h1)]
def aggB (P : Program) (t : TypeId) : Bool := match P.underlying t with
  | some (.struct _) | some (.array _ _) => true
  | _ => false
theorem run_isAgg {t : TypeId} (h : aggB P t = true) : (isAgg t).run P w = .ok true w := by
  unfold aggB at h
  cases hu : P.underlying t with
  | none => rw [hu] at h; cases h
  | some td =>
    simp only [isAgg, Sem.run_bind, run_underlying hu, Result.andThen_ok]
    rw [hu] at h
    cases td <;> first | rfl | cases h
theorem run_loadN {t : TypeId} {ad : Addr} {cs : List Value} (ht : aggB P t = true) (hs : (P.info? t).map (·.size) = some cs.length) (hc : ∀ j v, cs[j]? = some v → w.cell? (ad.add j) = some v) : (loadVar t ad).run P w = .ok (.agg cs.toArray) w := by
  obtain ⟨i, hi, he⟩ := Option.map_eq_some_iff.1 hs
  have hsz : SzIs P t cs.length := ⟨i, hi, he⟩
  simp [loadVar, Sem.run_bind, run_isAgg ht, hsz.run, run_loadCells_list w ad cs hc, Result.andThen_ok, Sem.run_pure]
/-- Some cells, read as one value. -/
theorem l_loadN {x : Operand} {t : TypeId} {ad : Addr} {cs : List Value} (hd : Nat.ble (d + 1) n = true) (ht : aggB P t = true) (hs : (P.info? t).map (·.size) = some cs.length) (hx : ev env x = some (.pointer (some ad))) (hc : ∀ j v, cs[j]? = some v → w.cell? (ad.add j) = some v)
    (h : WpL P ops n K rest ((d, .agg cs.toArray) :: env) w) : WpL P ops n K (⟨some d, .load t x, ty, pos, after, none⟩ :: rest) env w :=
  l_val _ hd (fun a hf => by simp [execOp, hf.eval hx, Instr.loadAt, Instr.sureAddr, Sem.run_bind, Sem.run_pure, Result.andThen_ok, run_loadN ht hs hc]) h
theorem St.blk_cells {b : Nat} {cs : Array Value} (h : St w0 (blk b (.cells cs e (0, 0)) :: L) w) : ∀ j v, cs.toList[j]? = some v → w.cell? ((⟨b, 0, none⟩ : Addr).add j) = some v := by
  intro j v hv
  rw [addr_add, Nat.zero_add, h.blk_cell]
  simpa using hv
/-- A whole variable is read. -/
theorem l_loadB {x : Operand} {t t' : TypeId} {b : Nat} {cells : Array Value} (hd : Nat.ble (d + 1) n = true) (ht : aggB P t = true) (hi : (P.info? t).map (·.size) = some cells.toList.length) (hx : ev env x = some (.pointer (some ⟨b, 0, none⟩)))
    (hs : St w0 (blk b (.cells cells t' (0, 0)) :: L) w) (h : WpL P ops n K rest ((d, .agg cells) :: env) w) : WpL P ops n K (⟨some d, .load t x, ty, pos, after, none⟩ :: rest) env w :=
  l_loadN (cs := cells.toList) hd ht hi hx hs.blk_cells (by simpa using h)
theorem zip_parts (f : Operand → Value) : ∀ (l : List (Nat × Operand)), l.map (fun p => (p.1, f p.2)) = (l.map Prod.fst).zip ((l.map Prod.snd).map f)
  | [] => rfl
  | p :: l => by simp only [List.map_cons, List.zip_cons_cons]; rw [zip_parts f l]
/-- A struct or an array out of its parts. -/
theorem e_build {t : TypeId} {parts : Array (Nat × Operand)} {vs : List Value} (cells : Array Value) (hp : evs env (parts.toList.map Prod.snd) = some vs) (hb : P.built t ((parts.toList.map Prod.fst).zip vs) = some cells) : Ev P n env ⟨some d, .build t parts, ty, pos, after, none⟩ (.agg cells) :=
  fun a w hf => by
    have e1 : (parts.map fun (i, x) => (i, a.eval x)).toList = (parts.toList.map Prod.fst).zip vs := by
      rw [Array.toList_map]
      have := zip_parts a.eval parts.toList
      rw [hf.evals hp] at this
      exact this
    have := run_build (P := P) w t (parts.map fun (i, x) => (i, a.eval x)) cells (by rw [e1]; exact hb)
    simp only [execOp, Sem.run_bind, this, Result.andThen_ok, Sem.run_pure]
theorem l_build {t : TypeId} {parts : Array (Nat × Operand)} {vs : List Value} (cells : Array Value) (hd : Nat.ble (d + 1) n = true) (hp : evs env (parts.toList.map Prod.snd) = some vs) (hb : P.built t ((parts.toList.map Prod.fst).zip vs) = some cells)
    (h : WpL P ops n K rest ((d, .agg cells) :: env) w) : WpL P ops n K (⟨some d, .build t parts, ty, pos, after, none⟩ :: rest) env w :=
  l_val _ hd (fun a hf => e_build cells hp hb a w hf) h
/-- One result, in a variable. -/
theorem f_cell {f : FuncId} {fn : Func} {c : Code} {vs : List Value} {r m : Nat} {t : TypeId} {R : Ending → World → Prop} (hf : P.funcs[f]? = some fn) (hb : fn.body = some c) (hr : fn.results = #[.cell r t]) (hm : fn.ntmps = m) (hn : Nat.ble vs.length m = true)
    (h : WpC P m (fun e env w => (e = .normal ∨ e = .ret) ∧ ∃ ad v, lk env r = some (.pointer (some ad)) ∧ (loadVar t ad).run P w = .ok v w ∧ R (.returned v) w) c (argsEnv 0 vs) w) : Calls P f vs.toArray w R := by
  subst hm
  refine calls_of_wp hf hb (h.go _ _ (fits_args vs (Nat.le_of_ble_eq_true hn)) ?_)
  rintro e env' a' w' hf' ⟨he, ad, v, hv, hl, hR⟩
  have hres : (results fn a'.tmps).run P w' = .ok v w' := by
    have : (a'.tmps[r]?).getD undef = .pointer (some ad) := by rw [hf'.at_ r _ hv]; rfl
    simp [results, hr, this, asAddr, hl, Sem.run_bind, Sem.run_pure, Result.andThen_ok]
  rcases he with rfl | rfl
  · exact ⟨hf'.defers, _, hres, hR⟩
  · exact ⟨hf'.defers, _, hres, hR⟩
end Go.Proofs.Fw
