/- The walk: append of what is read alone. No condition. -/
import Derived.Test.YthamopcfpmkbfaaFC
set_option linter.unusedVariables false
set_option linter.unusedSimpArgs false
namespace Go.Proofs.Fw
variable {P : Program} {n : Nat} {env : Env} {a : Act} {w w' : World} {ops : Array Oper} {K : Env → World → Prop} {rest : List Oper} {d : Nat} {ty : TypeId} {pos : String} {after : Array Edge}
variable {w0 : World} {L L' : List Res} {α : Type} {Kx : Kd α} {e : TypeId} {v u : Value} {x : α} {xs ys : List α}
/-- append(v, u...), u being read alone. -/
theorem run_appendR {T ty : TypeId} {i : TypeInfo} {z : Value} {bytes : Nat} (hT : P.underlying T = some (.slice e)) (hi : (P.info? e).map (fun i => (i.zero, i.size, i.bytes)) = some (some z, Kx.sz, bytes)) (hz : z.cells.size = Kx.sz) (hsz : 0 < Kx.sz) (pers : Kx.Pers)
    (h : St w0 (pt (os e Kx) v xs :: pt (rs Kx) u ys :: L) w) (hb : (xs.length + ys.length) * bytes ≤ 140737488355328) (hm : xs.length + ys.length ≤ maxLen) :
    ∃ v' w', (Builtin.append_ #[T, T] ty #[v, u]).run P w = .ok v' w' ∧ St w0 (pt (os e Kx) v' (xs ++ ys) :: pt (rs Kx) u ys :: L) w' := by
  obtain ⟨I, g, dg, aI, cg, h1, h4, d2, s1, s4, r, l4⟩ := h.mem
  have l4' := l4
  obtain ⟨i0, hi0, hzz⟩ := Option.map_eq_some_iff.1 hi
  simp only [Prod.mk.injEq] at hzz
  obtain ⟨hz0, hz1, hz2⟩ := hzz
  obtain ⟨h3, h5, d3, s3, s5, ru, l'⟩ := l4
  obtain ⟨A, ucap, u1, u5, u6, ru⟩ := ru
  simp at u1
  subst u1
  cases A with
  | none =>
    have y0 : ys = [] := by
      rcases ru with e | ⟨b, off, cells, e', fr, k1, k2, k3⟩
      · exact e
      · cases k1
    subst y0
    refine ⟨v, w, ?_, ?_⟩
    · obtain ⟨A, c, hv, hc, _⟩ := h.os_form
      subst hv
      cases A with
      | none => simp [Builtin.append_, run_underlying hT, sizeOf, typeInfo, hi0, Builtin.lenOf, hc, Builtin.firstCells]
      | some ad => simp [Builtin.append_, run_underlying hT, sizeOf, typeInfo, hi0, Builtin.lenOf, hc, Builtin.firstCells, storeCells]
    · rw [List.append_nil]; exact h
  | some ad =>
    obtain ⟨news, hnl, hncell, hn1, hel⟩ : ∃ news : List Value, news.length = ys.length * Kx.sz ∧ (∀ j y, news[j]? = some y → w.cell? (ad.add j) = some y) ∧ (∀ y ∈ news, y.oneCell' = true) ∧
        ∀ l : List Value, (l.drop (xs.length * Kx.sz)).take (ys.length * Kx.sz) = news → Elems Kx I l PH.empty (xs.length * Kx.sz) ys := by
      rcases ru with e | ⟨b, off, cells, e', fr, k1, k2, k3⟩
      · subst e; exact ⟨[], by simp, (fun j y hy => by simp at hy), (fun y hy => by simp at hy), fun _ _ => trivial⟩
      · cases k1
        refine ⟨(cells.toList.drop off).take (ys.length * Kx.sz), ?_, ?_, elems_one k3, fun l hl => ?_⟩
        · rcases Elems.fits hsz k3 with e | h6
          · subst e; simp
          · rw [List.length_take, List.length_drop]; omega
        · intro j y hy
          rw [addr_add, cell_le aI k2]
          rw [List.getElem?_take] at hy
          split at hy
          · rw [List.getElem?_drop] at hy; simpa using hy
          · cases hy
        · refine Elems.congr (fun i hi => ?_) k3
          have h1 := window (o := 0 + i * Kx.sz) (s := Kx.sz) (A := l.drop (xs.length * Kx.sz)) (B := cells.toList.drop off) (N := ys.length * Kx.sz) hl (size_fits (A := l) hi)
          rw [List.drop_drop, List.drop_drop, Nat.zero_add] at h1
          exact h1.symm
    -- what it is appended to
    have hv0 : ∃ cv hv', w.ownsRow 0 e Kx.sz v xs.length cv ∧ PH.sub hv' h1 ∧ (∀ b, v.ownBlock = some b → hv' b = none ∧ h1 b = w.heap[b]? ∧ (h1 b).isSome) ∧
        (∀ l : List Value, l.take (xs.length * Kx.sz) = cv → Elems Kx I l hv' 0 xs) ∧ cv.length = xs.length * Kx.sz := by
      rcases r with ⟨r1, r2⟩ | ⟨b, cap, cells, h', k1, k2, k3, k4, k5, k6, k7, k8⟩
      · simp at r1
        subst r1 r2
        exact ⟨[], PH.empty, World.ownsRow_nil w 0 e Kx.sz, PH.empty_sub _, fun b hb => by simp [Value.ownBlock] at hb, fun _ _ => trivial, by simp⟩
      · simp at k1
        subst k1
        have hgb : g b = some (.cells cells e (0, 0)) := s1 _ _ k2
        have hwb := cg _ _ hgb
        have hfit : xs.length * Kx.sz ≤ cells.size := by rw [k7]; exact Nat.mul_le_mul_right _ k5
        refine ⟨cells.toList.take (xs.length * Kx.sz), h', ⟨by have hl : cells.toList.length = cells.size := Array.length_toList; rw [List.length_take, hl]; omega, .inr ⟨b, cap, cells, rfl, Nat.zero_le _, hwb, k5, k6, k7, rfl⟩⟩, k4, ?_, ?_, by have hl : cells.toList.length = cells.size := Array.length_toList; rw [List.length_take, hl]; omega⟩
        · intro c hc
          simp [Value.ownBlock] at hc
          subst hc
          exact ⟨k3, by rw [k2, hwb], by rw [k2]; rfl⟩
        · intro l hl
          exact Elems.congr (fun i hi => window hl.symm (size_fits (A := l) hi)) k8
    obtain ⟨cv, hv', hown, hvs, hvb, hvE, hcvl⟩ := hv0
    obtain ⟨v', w', hrun, hown', hgr, _, hat⟩ := run_append_own_at (P := P) w 0 T ty e i0 z Kx.sz bytes hT hi0 hz0 hz1 hz2 hz hsz v xs.length cv hown ad ys.length ucap news hnl hncell hn1 hm hb (Nat.zero_le _)
    refine ⟨v', w', hrun, ?_⟩
    have hIw : ∀ b, I b ≠ none → b < w.heap.size := fun b hb => by
      cases hI : I b with
      | none => exact absurd hI hb
      | some o => exact (Array.getElem?_eq_some_iff.1 (aI b o hI)).1
    have hgw : ∀ b, g b ≠ none → b < w.heap.size := fun b hb => by
      cases hI : g b with
      | none => exact absurd hI hb
      | some o => exact (Array.getElem?_eq_some_iff.1 (cg b o hI)).1
    -- a part of the heap that does not hold v's block lives on
    have keep : ∀ {k : PH}, PH.le k w → (∀ b, v.ownBlock = some b → k b = none) → PH.le k w' := fun {k} hk hne b o hb => by
      have hwb := hk b o hb
      rw [hgr.block b (Array.getElem?_eq_some_iff.1 hwb).1 (fun e' => by rw [hne b e'.symm] at hb; cases hb)]
      exact hwb
    have hIv : ∀ b, v.ownBlock = some b → I b = none := fun b hb => by
      obtain ⟨_, _, hsome⟩ := hvb b hb
      rcases dg b with e' | e'
      · exact e'
      · cases hh : h1 b with
        | none => rw [hh] at hsome; cases hsome
        | some o => rw [s1 b o hh] at e'; cases e'
    have h4v : ∀ b, v.ownBlock = some b → h4 b = none := fun b hb => by
      obtain ⟨_, _, hsome⟩ := hvb b hb
      rcases d2 b with e' | e'
      · rw [e'] at hsome; cases hsome
      · exact e'
    have dvu : PH.disj hv' PH.empty := PH.disj_empty _
    have dE4 : PH.disj (PH.un hv' PH.empty) h4 := PH.un_disj (PH.disj_sub2 d2 hvs (PH.sub_refl _)) (PH.empty_disj _)
    rcases hown'.2 with ⟨e1, e2⟩ | ⟨nb, ncap, cur, e1, _, hcur, hn2, hn3, hn4, hn5⟩
    · -- nothing at all
      have x0 : xs = [] := List.eq_nil_of_length_eq_zero (by omega)
      have y0 : ys = [] := List.eq_nil_of_length_eq_zero (by omega)
      subst x0 y0 e1
      exact ⟨(hgr.os).trans h.b1, (hgr.tape).trans h.b2, (hgr.output).trans h.b3, I, h4, PH.disj_sub dg s4, keep aI hIv, keep (PH.le_sub cg s4) h4v, PH.empty, h4, PH.empty_disj _, PH.empty_sub _, PH.sub_refl _, .inl ⟨rfl, rfl⟩, l4'⟩
    · subst e1
      have hnb : nb = w.heap.size ∨ v.ownBlock = some nb := by
        rcases hat with hat | hat
        · exact .inr (by rw [← hat]; rfl)
        · exact .inl (by simpa [Value.ownBlock] using hat)
      have away : ∀ {k : PH}, PH.le k w → (∀ b, v.ownBlock = some b → k b = none) → k nb = none := fun {k} hk hne => by
        rcases hnb with hnb | hnb
        · subst hnb
          cases hh : k w.heap.size with
          | none => rfl
          | some o => have := hk _ _ hh; simp at this
        · exact hne nb hnb
      have hle4 : PH.le h4 w := PH.le_sub cg s4
      have hleU : PH.le PH.empty w := fun _ _ e => nomatch e
      have hUv : ∀ b, v.ownBlock = some b → PH.empty b = none := fun b hb => rfl
      have hleV : PH.le hv' w := PH.le_sub cg (PH.sub_trans hvs s1)
      have hVv : ∀ b, v.ownBlock = some b → hv' b = none := fun b hb => (hvb b hb).1
      have hE : PH.un hv' PH.empty nb = none := by simp [PH.un, away hleV hVv, away hleU hUv]
      have h4n : h4 nb = none := away hle4 h4v
      have hIn : I nb = none := away aI hIv
      have dN : PH.disj (PH.one nb (.cells cur e (0, 0))) (PH.un hv' PH.empty) := PH.one_disj hE
      have dN4 : PH.disj (PH.un (PH.one nb (.cells cur e (0, 0))) (PH.un hv' PH.empty)) h4 := PH.un_disj (PH.one_disj h4n) dE4
      have dIE : PH.disj I (PH.un hv' PH.empty) := PH.disj_un (PH.disj_sub dg (PH.sub_trans hvs s1)) (PH.disj_empty _)
      refine ⟨(hgr.os).trans h.b1, (hgr.tape).trans h.b2, (hgr.output).trans h.b3, I, PH.un (PH.un (PH.one nb (.cells cur e (0, 0))) (PH.un hv' PH.empty)) h4,
        PH.disj_un (PH.disj_un (PH.disj_symm (PH.one_disj hIn)) dIE) (PH.disj_sub dg s4), keep aI hIv, ?_,
        PH.un (PH.one nb (.cells cur e (0, 0))) (PH.un hv' PH.empty), h4, dN4, PH.un_left _ _, PH.un_right dN4, ?_, l4'⟩
      · have big : PH.le (PH.un (PH.un hv' PH.empty) h4) w' := by
          have : PH.le (PH.un (PH.un hv' PH.empty) h4) w := PH.le_sub cg (PH.un_sub (PH.un_sub (PH.sub_trans hvs s1) (PH.empty_sub _)) s4)
          exact keep this (fun b hb => by simp [PH.un, hVv b hb, hUv b hb, h4v b hb])
        intro b o hb
        unfold PH.un at hb
        cases ho : PH.one nb (.cells cur e (0, 0)) b with
        | some o' =>
          simp only [ho] at hb
          cases hb
          unfold PH.one at ho
          split at ho
          · rename_i hy; subst hy; cases ho; exact hcur
          · cases ho
        | none =>
          simp only [ho] at hb
          exact big b o (by unfold PH.un; exact hb)
      · refine .inr ⟨nb, ncap, cur, PH.un hv' PH.empty, by simp, PH.un_left _ _ _ _ (PH.one_at _ _), hE, PH.un_right dN, by simpa using hn2, hn3, hn4, ?_⟩
        have hx : cur.toList.take (xs.length * Kx.sz) = cv := by
          have := congrArg (List.take (xs.length * Kx.sz)) hn5
          rw [List.take_take, Nat.min_eq_left (Nat.mul_le_mul_right _ (by omega)), List.take_left' hcvl] at this
          exact this
        have hy : (cur.toList.drop (xs.length * Kx.sz)).take (ys.length * Kx.sz) = news := by
          have := congrArg (List.drop (xs.length * Kx.sz)) hn5
          rw [List.drop_left' hcvl, List.drop_take] at this
          rw [show (xs.length + ys.length) * Kx.sz - xs.length * Kx.sz = ys.length * Kx.sz from by rw [Nat.add_mul]; omega] at this
          exact this
        refine Elems.append dvu (PH.un_left _ _) (PH.un_right dvu) (hvE _ hx) ?_
        rw [Nat.zero_add]
        exact hel _ hy
theorem l_appendR {s t : Operand} {T : TypeId} {z : Value} {bytes : Nat} (hd : Nat.ble (d + 1) n = true) (hT : P.underlying T = some (.slice e)) (hi : (P.info? e).map (fun i => (i.zero, i.size, i.bytes)) = some (some z, Kx.sz, bytes)) (hz : z.cells.size = Kx.sz) (hsz : 0 < Kx.sz) (pers : Kx.Pers)
    (hs : ev env s = some v) (ht : ev env t = some u) (h : St w0 (pt (os e Kx) v xs :: pt (rs Kx) u ys :: L) w) (hb : (xs.length + ys.length) * bytes ≤ 140737488355328) (hm : xs.length + ys.length ≤ maxLen)
    (k : ∀ v' w', St w0 (pt (os e Kx) v' (xs ++ ys) :: pt (rs Kx) u ys :: L) w' → WpL P ops n K rest ((d, v') :: env) w') :
    WpL P ops n K (⟨some d, .call { callee := .builtin .append, args := #[s, t], argTypes := #[T, T] }, ty, pos, after, none⟩ :: rest) env w := by
  obtain ⟨v', w', hrun, hst⟩ := run_appendR (P := P) (ty := ty) (i := default) hT hi hz hsz pers h hb hm
  refine l_val v' hd (fun a hf => ?_) (k v' w' hst)
  simp only [execOp, resolve, invoke, builtin, Sem.run_bind, Sem.run_pure, Result.andThen_ok, List.map_toArray, List.map_cons, List.map_nil, hf.eval hs, hf.eval ht, hrun]
/-- A cell that nobody changes. -/
def cellR (ad : Addr) (v : Value) : Res := ⟨fun I _ => ad.spot = none ∧ ∃ cells e fr, I ad.block = some (.cells cells e fr) ∧ cells[ad.off]? = some v, fun s ⟨h0, cells, e, fr, h1, h2⟩ => ⟨h0, cells, e, fr, s _ _ h1, h2⟩, fun _ h => h⟩
theorem St.cellR_at {ad : Addr} (h : St w0 (cellR ad v :: L) w) : w.cell? ad = some v := by
  obtain ⟨I, g, d, a, c, h1, h2, d2, s1, s2, ⟨h0, cells, e, fr, r1, r2⟩, l⟩ := h.mem
  obtain ⟨b, off, sp⟩ := ad
  simp only [] at h0 r1 r2
  subst h0
  rw [show off = off from rfl]
  rw [cell_le a r1]
  exact r2
theorem St.rs_cellR (h : St w0 (pt (rs Kx) v xs :: L) w) (hs : Kx.sz = 1) {A : Option Addr} {l c : Nat} (hv : v = .slice A l c) (i : Nat) (hi : i < xs.length) :
    ∃ ad u, A = some ad ∧ St w0 (cellR (ad.add i) u :: pt Kx u xs[i] :: pt (rs Kx) v xs :: L) w := by
  obtain ⟨I, g, d, a, cc, h1, h2, d2, s1, s2, r, l⟩ := h.mem
  obtain ⟨A', c', r1, r2, r3, r4⟩ := r
  rcases r4 with r4 | ⟨b, off, cells, e, fr, k1, k2, k3⟩
  · subst r4; simp at hi
  · subst hv
    simp at r1
    obtain ⟨rfl, rfl, rfl⟩ := r1
    obtain ⟨h', s', r'⟩ := Elems.get i hi k3
    have hlen := Kx.len r'
    rw [hs] at hlen
    simp only [hs, Nat.mul_one] at r' hlen
    obtain ⟨u, hu⟩ := take_one hlen
    rw [hu] at r'
    subst k1
    refine ⟨_, u, rfl, h.b1, h.b2, h.b3, I, g, d, a, cc, PH.empty, g, PH.empty_disj _, PH.empty_sub _, PH.sub_refl _, ?_, PH.empty, g, PH.empty_disj _, PH.empty_sub _, PH.sub_refl _, Kx.up s' r', h1, h2, d2, s1, s2, ⟨_, c, rfl, r2, r3, .inr ⟨b, off, cells, e, fr, rfl, k2, k3⟩⟩, l⟩
    rw [addr_add]
    exact ⟨rfl, cells, e, fr, k2, by simpa using cell_of_take hu⟩
/-- A row that is read, its place told once for all. -/
theorem St.row_at {A : Option Addr} {l c : Nat} {gs : List (List α)} (h : St w0 (pt (rs (rs Kx)) (.slice A l c) gs :: L) w) {i : Nat} (hi : i < gs.length) :
    ∃ ad Ar cr, A = some ad ∧ gs[i].length ≤ cr ∧ cr ≤ maxLen ∧ St w0 (cellR (ad.add i) (.slice Ar gs[i].length cr) :: pt (rs Kx) (.slice Ar gs[i].length cr) gs[i] :: pt (rs (rs Kx)) (.slice A l c) gs :: L) w := by
  obtain ⟨ad, u, rfl, h1⟩ := h.rs_cellR rfl rfl i hi
  obtain ⟨Ar, cr, rfl, h2, h3⟩ := (h1.re [1]).rs_form
  exact ⟨ad, Ar, cr, rfl, h2, h3, h1⟩
theorem Sub.more {env : Env} {d : Nat} {v : Value} : ∀ {small : Env}, Fw.Sub env small → Fw.lk small d = none → Fw.Sub ((d, v) :: env) small
  | [], _, _ => trivial
  | (i, u) :: r, h, hd => by
    rw [lk_cons] at hd
    split at hd
    · cases hd
    · rename_i hne
      refine ⟨?_, Sub.more h.2 hd⟩
      rw [lk_cons, if_neg (fun e => hne e.symm)]
      exact h.1
theorem lk_more {env : Env} {d i : Nat} {v u : Value} (h : lk env i = some u) (hne : d ≠ i) : lk ((d, v) :: env) i = some u := by rw [lk_cons, if_neg hne]; exact h
theorem St.suffix {L1 L2 : List Res} (h : St w0 (L1 ++ L2) w) : St w0 L2 w := by
  induction L1 with
  | nil => exact h
  | cons r l ih => exact ih h.drop
/-- A cut of what is read: its first elements. -/
theorem St.rs_cut {A : Option Addr} {l c : Nat} (h : St w0 (pt (rs Kx) (.slice A l c) xs :: L) w) (i : Nat) (hi : i ≤ xs.length) : St w0 (pt (rs Kx) (.slice A i c) (xs.take i) :: L) w := by
  refine h.mapHead fun I g r => ?_
  obtain ⟨A', c', k1, k2, k3, k4⟩ := r
  simp at k1
  obtain ⟨rfl, rfl, rfl⟩ := k1
  refine ⟨A, c, by rw [List.length_take, Nat.min_eq_left hi], by rw [List.length_take]; omega, k3, ?_⟩
  rcases k4 with k4 | ⟨b, off, cells, e, fr, m1, m2, m3⟩
  · subst k4; exact .inl (by simp)
  · rw [← List.take_append_drop i xs] at m3
    obtain ⟨g1, g2, dd, t1, t2, e1, e2⟩ := Elems.split m3
    have : g1 = PH.empty := by
      funext b
      cases hg : g1 b with
      | none => rfl
      | some o => exact absurd (t1 b o hg) (by simp [PH.empty])
    subst this
    exact .inr ⟨b, off, cells, e, fr, m1, m2, e1⟩
end Go.Proofs.Fw
