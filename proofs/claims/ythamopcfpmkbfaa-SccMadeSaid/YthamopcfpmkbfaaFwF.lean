/- The walk: stores into what is owned, append, cuts, calls. No condition. -/
import Derived.Test.YthamopcfpmkbfaaFwE
set_option linter.unusedVariables false
set_option linter.unusedSimpArgs false
namespace Go.Proofs.Fw
variable {P : Program} {n : Nat} {env : Env} {a : Act} {w w' : World} {ops : Array Oper} {K : Env → World → Prop} {rest : List Oper} {d : Nat} {ty : TypeId} {pos : String} {after : Array Edge}
variable {w0 : World} {L L' : List Res} {α : Type} {Kx : Kd α} {e : TypeId} {v u : Value} {x : α} {xs ys : List α}

theorem take_one_eq (l : List Value) (j : Nat) : (l.drop j).take 1 = l[j]?.toList := by
  rcases Nat.lt_or_ge j l.length with h | h
  · rw [List.drop_eq_getElem_cons h, List.getElem?_eq_getElem h]; rfl
  · rw [List.drop_eq_nil_of_le h, List.getElem?_eq_none h]; rfl
theorem Elems.set {I : PH} (hs : Kx.sz = 1) : ∀ {xs : List α} {l : List Value} {h h' hv : PH} {off : Nat} (i : Nat), i < xs.length → PH.disj h hv → PH.sub h h' → PH.sub hv h' → Elems Kx I l h off xs → Kx.rep I hv [v] x → Elems Kx I (l.set (off + i) v) h' off (xs.set i x)
  | y :: xs, l, h, h', hv, off, 0, hi, dj, s, t, ⟨h1, h2, d, s1, s2, r, e⟩, rv => by
    have hl : off < l.length := by
      have := Kx.len r
      simp only [List.length_take, List.length_drop, hs] at this
      omega
    refine ⟨hv, h2, PH.disj_symm (PH.disj_symm (PH.disj_sub (PH.disj_symm dj) s2)), t, PH.sub_trans s2 s, ?_, ?_⟩
    · rw [hs, take_one_eq, Nat.add_zero, List.getElem?_set_self hl]; exact rv
    · refine Elems.congr (fun j hj => ?_) e
      rw [hs, take_one_eq, take_one_eq, List.getElem?_set_ne (by omega)]
  | y :: xs, l, h, h', hv, off, i + 1, hi, dj, s, t, ⟨h1, h2, d, s1, s2, r, e⟩, rv => by
    have d2v : PH.disj h2 hv := PH.disj_symm (PH.disj_sub (PH.disj_symm dj) s2)
    have d1v : PH.disj h1 hv := PH.disj_symm (PH.disj_sub (PH.disj_symm dj) s1)
    refine ⟨h1, PH.un h2 hv, PH.disj_un d d1v, PH.sub_trans s1 s, PH.un_sub (PH.sub_trans s2 s) t, ?_, ?_⟩
    · rw [hs, take_one_eq, List.getElem?_set_ne (by omega), ← take_one_eq, ← hs]; exact r
    · have := Elems.set (h' := PH.un h2 hv) hs i (by simpa using hi) d2v (PH.un_left _ _) (PH.un_right d2v) e rv
      rw [hs] at this ⊢
      rw [show off + (i + 1) = off + 1 + i from by omega]
      exact this
/-- A store into what is owned. -/
theorem St.os_set (h : St w0 (pt (os e Kx) u xs :: pt Kx v x :: L) w) (hs : Kx.sz = 1) {A : Option Addr} {l c : Nat} (hu : u = .slice A l c) (i : Nat) (hi : i < xs.length) :
    ∃ ad y, A = some ad ∧ w.cell? (ad.add i) = some y ∧ w.frozen? (ad.add i) = false ∧ St w0 (pt (os e Kx) u (xs.set i x) :: L) (w.setCell (ad.add i) v) := by
  obtain ⟨I, g, dg, aI, cg, h1, h2, d2, s1, s2, r, h3, h4, d3, s3, s4, rv, l'⟩ := h.mem
  rcases r with ⟨r1, r2⟩ | ⟨b, cap, cells, h', k1, k2, k3, k4, k5, k6, k7, k8⟩
  · subst r2; simp at hi
  · subst hu
    simp at k1
    obtain ⟨rfl, rfl, rfl⟩ := k1
    have hgb : g b = some (.cells cells e (0, 0)) := s1 b _ k2
    have hwb : w.heap[b]? = some (.cells cells e (0, 0)) := cg b _ hgb
    have hlt : i < cells.size := by rw [k7, hs]; omega
    have hv : v.oneCell' = true := Kx.one rv v (by simp)
    have hIb : I b = none := by
      rcases dg b with e' | e'
      · exact e'
      · rw [hgb] at e'; cases e'
    have h2b : h2 b = none := by
      rcases d2 b with e' | e'
      · rw [k2] at e'; cases e'
      · exact e'
    have hb' : PH.disj (PH.one b (.cells (cells.setIfInBounds i v) e (0, 0))) h2 := PH.one_disj h2b
    have d'3 : PH.disj h' h3 := PH.disj_sub2 d2 k4 s3
    have hn : PH.un h' h3 b = none := by
      have : h3 b = none := by
        cases hh : h3 b with
        | none => rfl
        | some o => rw [s3 b o hh] at h2b; cases h2b
      simp [PH.un, k3, this]
    have dn4 : PH.disj (PH.un h' h3) h4 := PH.un_disj (PH.disj_sub2 d2 k4 s4) d3
    have keep : ∀ {k : PH}, k b = none → PH.le k w → PH.le k (w.setCell ⟨b, i, none⟩ v) := fun {k} hk hl y o e' => by
      have hy : y ≠ b := fun e'' => by subst e''; rw [hk] at e'; cases e'
      rw [setCell_other hy]; exact hl y o e'
    have dI : PH.disj I (PH.un (PH.one b (.cells (cells.setIfInBounds i v) e (0, 0))) (PH.un (PH.un h' h3) h4)) := by
      refine PH.disj_un (PH.disj_symm (PH.one_disj hIb)) (PH.disj_un (PH.disj_un ?_ ?_) ?_)
      · exact PH.disj_sub dg (PH.sub_trans k4 s1)
      · exact PH.disj_sub dg (PH.sub_trans s3 s2)
      · exact PH.disj_sub dg (PH.sub_trans s4 s2)
    have h4b : h4 b = none := by
      cases hh : h4 b with
      | none => rfl
      | some o => rw [s4 b o hh] at h2b; cases h2b
    have dbn : PH.disj (PH.one b (.cells (cells.setIfInBounds i v) e (0, 0))) (PH.un h' h3) := PH.one_disj hn
    refine ⟨_, (cells[i]?).getD undef, rfl, ?_, ?_, ⟨h.b1, h.b2, h.b3, I, PH.un (PH.one b (.cells (cells.setIfInBounds i v) e (0, 0))) (PH.un (PH.un h' h3) h4), dI, ?_, ?_,
      PH.un (PH.one b (.cells (cells.setIfInBounds i v) e (0, 0))) (PH.un h' h3), h4, PH.un_disj (PH.one_disj h4b) dn4, ?_, ?_, ?_, l'⟩⟩
    · rw [addr_add, Nat.zero_add, cell_le (PH.le_sub cg s1) k2]
      simp [hlt]
    · rw [addr_add]
      simp [World.frozen?, hwb]
    · rw [addr_add, Nat.zero_add]; exact keep hIb aI
    · rw [addr_add, Nat.zero_add]
      intro y o e'
      unfold PH.un at e'
      split at e'
      · rename_i oo hoo
        cases e'
        unfold PH.one at hoo
        split at hoo
        · rename_i hy; subst hy; cases hoo; exact setCell_heap hwb
        · cases hoo
      · rename_i hoo
        have hy : y ≠ b := fun e'' => by subst e''; simp [PH.one] at hoo
        rw [setCell_other hy]
        have : PH.sub (PH.un (PH.un h' h3) h4) g := PH.un_sub (PH.un_sub (PH.sub_trans k4 s1) (PH.sub_trans s3 s2)) (PH.sub_trans s4 s2)
        exact cg y o (this y o e')
    · refine PH.un_sub (PH.un_left _ _) (PH.sub_trans (PH.un_left _ _) (PH.un_right ?_))
      exact PH.disj_un dbn (PH.one_disj h4b)
    · refine PH.sub_trans (PH.un_right dn4) (PH.un_right ?_)
      exact PH.disj_un dbn (PH.one_disj h4b)
    · refine .inr ⟨b, c, cells.setIfInBounds i v, PH.un h' h3, by simp, PH.un_left _ _ _ _ (PH.one_at _ _), hn, PH.un_right dbn, by simpa using k5, k6, by simpa using k7, ?_⟩
      have := Elems.set (h' := PH.un h' h3) hs i hi d'3 (PH.un_left _ _) (PH.un_right d'3) k8 rv
      simpa using this

/-! ### append -/
theorem window {A B : List Value} {N o s : Nat} (h : A.take N = B.take N) (ho : o + s ≤ N) : (A.drop o).take s = (B.drop o).take s := by
  have key : ∀ C : List Value, ((C.take N).drop o).take s = (C.drop o).take s := fun C => by
    rw [List.drop_take, List.take_take, Nat.min_eq_left (by omega)]
  rw [← key A, ← key B, h]
theorem size_fits {A : List Value} {m s : Nat} {i : Nat} (hi : i < m) : 0 + i * s + s ≤ m * s := by
  have : (i + 1) * s ≤ m * s := Nat.mul_le_mul_right s hi
  rw [Nat.add_mul, Nat.one_mul] at this
  omega
theorem elems_one {I h : PH} {l : List Value} {off : Nat} (e : Elems Kx I l h off xs) : ∀ u ∈ (l.drop off).take (xs.length * Kx.sz), u.oneCell' = true := by
  induction xs generalizing h off with
  | nil => intro u hu; simp at hu
  | cons x xs ih =>
    obtain ⟨h1, h2, d, s1, s2, r, e⟩ := e
    intro u hu
    rw [List.length_cons, Nat.add_mul, Nat.one_mul, Nat.add_comm, List.take_add] at hu
    rcases List.mem_append.1 hu with hu | hu
    · exact Kx.one r u hu
    · rw [List.drop_drop] at hu
      exact ih e u hu
/-- append(v, u...), both owned; what u's elements own goes over. -/
theorem run_append {T ty : TypeId} {i : TypeInfo} {z : Value} {bytes : Nat} (hT : P.underlying T = some (.slice e)) (hi : (P.info? e).map (fun i => (i.zero, i.size, i.bytes)) = some (some z, Kx.sz, bytes)) (hz : z.cells.size = Kx.sz) (hsz : 0 < Kx.sz)
    (h : St w0 (pt (os e Kx) v xs :: pt (os e Kx) u ys :: L) w) (hb : (xs.length + ys.length) * bytes ≤ 140737488355328) (hm : xs.length + ys.length ≤ maxLen) :
    ∃ v' w', (Builtin.append_ #[T, T] ty #[v, u]).run P w = .ok v' w' ∧ St w0 (pt (os e Kx) v' (xs ++ ys) :: L) w' := by
  obtain ⟨I, g, dg, aI, cg, h1, h2, d2, s1, s2, r, h3, h4, d3, s3, s4, ru, l'⟩ := h.mem
  obtain ⟨i0, hi0, hzz⟩ := Option.map_eq_some_iff.1 hi
  simp only [Prod.mk.injEq] at hzz
  obtain ⟨hz0, hz1, hz2⟩ := hzz
  rcases ru with ⟨u1, u2⟩ | ⟨ub, ucap, ucells, uh, u1, u2, u3, u4, u5, u6, u7, u8⟩
  · -- nothing is appended
    simp at u1
    subst u1 u2
    refine ⟨v, w, ?_, ?_⟩
    · obtain ⟨A, c, hv, hc, _⟩ := h.os_form
      subst hv
      cases A with
      | none => simp [Builtin.append_, run_underlying hT, sizeOf, typeInfo, hi0, Builtin.lenOf, hc, Builtin.firstCells]
      | some ad => simp [Builtin.append_, run_underlying hT, sizeOf, typeInfo, hi0, Builtin.lenOf, hc, Builtin.firstCells, storeCells]
    · rw [List.append_nil]
      exact (h.perm (List.Perm.swap _ _ _)).drop
  · simp at u1
    subst u1
    have hgu : g ub = some (.cells ucells e (0, 0)) := s2 _ _ (s3 _ _ u2)
    have hwu := cg _ _ hgu
    have hufit : ys.length * Kx.sz ≤ ucells.size := by rw [u7]; exact Nat.mul_le_mul_right _ u5
    -- what is appended
    obtain ⟨news, hnews⟩ : ∃ l, l = ucells.toList.take (ys.length * Kx.sz) := ⟨_, rfl⟩
    have hnl : news.length = ys.length * Kx.sz := by have hl : ucells.toList.length = ucells.size := Array.length_toList; rw [hnews, List.length_take, hl]; omega
    have hncell : ∀ j y, news[j]? = some y → w.cell? ((⟨ub, 0, none⟩ : Addr).add j) = some y := by
      intro j y hy
      rw [addr_add, Nat.zero_add, cell_le cg hgu]
      rw [hnews, List.getElem?_take] at hy
      split at hy
      · simpa using hy
      · cases hy
    have hn1 : ∀ y ∈ news, y.oneCell' = true := by
      have := elems_one u8
      rw [List.drop_zero, ← hnews] at this
      exact this
    -- what it is appended to
    have hv0 : ∃ cv hv', w.ownsRow 0 e Kx.sz v xs.length cv ∧ PH.sub hv' h1 ∧ (∀ b, v.ownBlock = some b → hv' b = none ∧ h1 b = w.heap[b]? ∧ (h1 b).isSome) ∧
        (∀ l : List Value, l.take (xs.length * Kx.sz) = cv → Elems Kx I l hv' 0 xs) ∧ cv.length = xs.length * Kx.sz := by
      rcases r with ⟨r1, r2⟩ | ⟨b, cap, cells, h', k1, k2, k3, k4, k5, k6, k7, k8⟩
      · simp at r1
        subst r1 r2
        exact ⟨[], PH.empty, World.ownsRow_nil w 0 e Kx.sz, PH.empty_sub _, fun b hb => by simp [Value.ownBlock] at hb, fun _ _ => trivial, by simp⟩
      · simp at k1
        subst k1
        have hgb : g b = some (.cells cells e (0, 0)) := s1 _ _ k2
        have hwb := cg _ _ hgb
        have hfit : xs.length * Kx.sz ≤ cells.size := by rw [k7]; exact Nat.mul_le_mul_right _ k5
        refine ⟨cells.toList.take (xs.length * Kx.sz), h', ⟨by have hl : cells.toList.length = cells.size := Array.length_toList; rw [List.length_take, hl]; omega, .inr ⟨b, cap, cells, rfl, Nat.zero_le _, hwb, k5, k6, k7, rfl⟩⟩, k4, ?_, ?_, by have hl : cells.toList.length = cells.size := Array.length_toList; rw [List.length_take, hl]; omega⟩
        · intro c hc
          simp [Value.ownBlock] at hc
          subst hc
          exact ⟨k3, by rw [k2, hwb], by rw [k2]; rfl⟩
        · intro l hl
          exact Elems.congr (fun i hi => window hl.symm (size_fits (A := l) hi)) k8
    obtain ⟨cv, hv', hown, hvs, hvb, hvE, hcvl⟩ := hv0
    obtain ⟨v', w', hrun, hown', hgr, _, hat⟩ := run_append_own_at (P := P) w 0 T ty e i0 z Kx.sz bytes hT hi0 hz0 hz1 hz2 hz hsz v xs.length cv hown ⟨ub, 0, none⟩ ys.length ucap news hnl hncell hn1 hm hb (Nat.zero_le _)
    refine ⟨v', w', hrun, ?_⟩
    have hIw : ∀ b, I b ≠ none → b < w.heap.size := fun b hb => by
      cases hI : I b with
      | none => exact absurd hI hb
      | some o => exact (Array.getElem?_eq_some_iff.1 (aI b o hI)).1
    have hgw : ∀ b, g b ≠ none → b < w.heap.size := fun b hb => by
      cases hI : g b with
      | none => exact absurd hI hb
      | some o => exact (Array.getElem?_eq_some_iff.1 (cg b o hI)).1
    -- a part of the heap that does not hold v's block lives on
    have keep : ∀ {k : PH}, PH.le k w → (∀ b, v.ownBlock = some b → k b = none) → PH.le k w' := fun {k} hk hne b o hb => by
      have hwb := hk b o hb
      rw [hgr.block b (Array.getElem?_eq_some_iff.1 hwb).1 (fun e' => by rw [hne b e'.symm] at hb; cases hb)]
      exact hwb
    have hIv : ∀ b, v.ownBlock = some b → I b = none := fun b hb => by
      obtain ⟨_, _, hsome⟩ := hvb b hb
      rcases dg b with e' | e'
      · exact e'
      · cases hh : h1 b with
        | none => rw [hh] at hsome; cases hsome
        | some o => rw [s1 b o hh] at e'; cases e'
    have h2v : ∀ b, v.ownBlock = some b → h2 b = none := fun b hb => by
      obtain ⟨_, _, hsome⟩ := hvb b hb
      rcases d2 b with e' | e'
      · rw [e'] at hsome; cases hsome
      · exact e'
    have dvu : PH.disj hv' uh := PH.disj_sub2 d2 hvs (PH.sub_trans u4 s3)
    have dE4 : PH.disj (PH.un hv' uh) h4 := PH.un_disj (PH.disj_sub2 d2 hvs s4) (PH.disj_symm (PH.disj_sub (PH.disj_symm d3) u4))
    rcases hown'.2 with ⟨e1, e2⟩ | ⟨nb, ncap, cur, e1, _, hcur, hn2, hn3, hn4, hn5⟩
    · -- nothing at all
      have x0 : xs = [] := List.eq_nil_of_length_eq_zero (by omega)
      have y0 : ys = [] := List.eq_nil_of_length_eq_zero (by omega)
      subst x0 y0 e1
      refine ⟨(hgr.os).trans h.b1, (hgr.tape).trans h.b2, (hgr.output).trans h.b3, I, h4, PH.disj_sub dg (PH.sub_trans s4 s2), keep aI hIv, keep (PH.le_sub cg (PH.sub_trans s4 s2)) (fun b hb => ?_), PH.empty, h4, PH.empty_disj _, PH.empty_sub _, PH.sub_refl _, .inl ⟨rfl, rfl⟩, l'⟩
      cases hh : h4 b with
      | none => rfl
      | some o => have := h2v b hb; rw [s4 b o hh] at this; cases this
    · subst e1
      have hnb : nb = w.heap.size ∨ v.ownBlock = some nb := by
        rcases hat with hat | hat
        · exact .inr (by rw [← hat]; rfl)
        · exact .inl (by simpa [Value.ownBlock] using hat)
      have away : ∀ {k : PH}, PH.le k w → (∀ b, v.ownBlock = some b → k b = none) → k nb = none := fun {k} hk hne => by
        rcases hnb with hnb | hnb
        · subst hnb
          cases hh : k w.heap.size with
          | none => rfl
          | some o => have := hk _ _ hh; simp at this
        · exact hne nb hnb
      have hle4 : PH.le h4 w := PH.le_sub cg (PH.sub_trans s4 s2)
      have h4v : ∀ b, v.ownBlock = some b → h4 b = none := fun b hb => by
        cases hh : h4 b with
        | none => rfl
        | some o => have := h2v b hb; rw [s4 b o hh] at this; cases this
      have hleU : PH.le uh w := PH.le_sub cg (PH.sub_trans (PH.sub_trans u4 s3) s2)
      have hUv : ∀ b, v.ownBlock = some b → uh b = none := fun b hb => by
        cases hh : uh b with
        | none => rfl
        | some o => have := h2v b hb; rw [s3 b o (u4 b o hh)] at this; cases this
      have hleV : PH.le hv' w := PH.le_sub cg (PH.sub_trans hvs s1)
      have hVv : ∀ b, v.ownBlock = some b → hv' b = none := fun b hb => (hvb b hb).1
      have hE : PH.un hv' uh nb = none := by simp [PH.un, away hleV hVv, away hleU hUv]
      have h4n : h4 nb = none := away hle4 h4v
      have hIn : I nb = none := away aI hIv
      have dN : PH.disj (PH.one nb (.cells cur e (0, 0))) (PH.un hv' uh) := PH.one_disj hE
      have dN4 : PH.disj (PH.un (PH.one nb (.cells cur e (0, 0))) (PH.un hv' uh)) h4 := PH.un_disj (PH.one_disj h4n) dE4
      have dIE : PH.disj I (PH.un hv' uh) := PH.disj_un (PH.disj_sub dg (PH.sub_trans hvs s1)) (PH.disj_sub dg (PH.sub_trans (PH.sub_trans u4 s3) s2))
      refine ⟨(hgr.os).trans h.b1, (hgr.tape).trans h.b2, (hgr.output).trans h.b3, I, PH.un (PH.un (PH.one nb (.cells cur e (0, 0))) (PH.un hv' uh)) h4,
        PH.disj_un (PH.disj_un (PH.disj_symm (PH.one_disj hIn)) dIE) (PH.disj_sub dg (PH.sub_trans s4 s2)), keep aI hIv, ?_,
        PH.un (PH.one nb (.cells cur e (0, 0))) (PH.un hv' uh), h4, dN4, PH.un_left _ _, PH.un_right dN4, ?_, l'⟩
      · have big : PH.le (PH.un (PH.un hv' uh) h4) w' := by
          have : PH.le (PH.un (PH.un hv' uh) h4) w := PH.le_sub cg (PH.un_sub (PH.un_sub (PH.sub_trans hvs s1) (PH.sub_trans (PH.sub_trans u4 s3) s2)) (PH.sub_trans s4 s2))
          exact keep this (fun b hb => by simp [PH.un, hVv b hb, hUv b hb, h4v b hb])
        intro b o hb
        unfold PH.un at hb
        cases ho : PH.one nb (.cells cur e (0, 0)) b with
        | some o' =>
          simp only [ho] at hb
          cases hb
          unfold PH.one at ho
          split at ho
          · rename_i hy; subst hy; cases ho; exact hcur
          · cases ho
        | none =>
          simp only [ho] at hb
          exact big b o (by unfold PH.un; exact hb)
      · refine .inr ⟨nb, ncap, cur, PH.un hv' uh, by simp, PH.un_left _ _ _ _ (PH.one_at _ _), hE, PH.un_right dN, by simpa using hn2, hn3, hn4, ?_⟩
        have hx : cur.toList.take (xs.length * Kx.sz) = cv := by
          have := congrArg (List.take (xs.length * Kx.sz)) hn5
          rw [List.take_take, Nat.min_eq_left (Nat.mul_le_mul_right _ (by omega)), List.take_left' hcvl] at this
          exact this
        have hy : (cur.toList.drop (xs.length * Kx.sz)).take (ys.length * Kx.sz) = ucells.toList.take (ys.length * Kx.sz) := by
          have := congrArg (List.drop (xs.length * Kx.sz)) hn5
          rw [List.drop_left' hcvl, List.drop_take, hnews] at this
          rw [show (xs.length + ys.length) * Kx.sz - xs.length * Kx.sz = ys.length * Kx.sz from by rw [Nat.add_mul]; omega] at this
          exact this
        refine Elems.append dvu (PH.un_left _ _) (PH.un_right dvu) (hvE _ hx) (Elems.congr (fun i hi => ?_) u8)
        have h1 := window (o := 0 + i * Kx.sz) (s := Kx.sz) hy (size_fits (A := cur.toList) hi)
        rw [List.drop_drop, Nat.zero_add] at h1
        rw [Nat.zero_add, Nat.zero_add, h1]
theorem l_append {s t : Operand} {T : TypeId} {z : Value} {bytes : Nat} (hd : Nat.ble (d + 1) n = true) (hT : P.underlying T = some (.slice e)) (hi : (P.info? e).map (fun i => (i.zero, i.size, i.bytes)) = some (some z, Kx.sz, bytes)) (hz : z.cells.size = Kx.sz) (hsz : 0 < Kx.sz)
    (hs : ev env s = some v) (ht : ev env t = some u) (h : St w0 (pt (os e Kx) v xs :: pt (os e Kx) u ys :: L) w) (hb : (xs.length + ys.length) * bytes ≤ 140737488355328) (hm : xs.length + ys.length ≤ maxLen)
    (k : ∀ v' w', St w0 (pt (os e Kx) v' (xs ++ ys) :: L) w' → WpL P ops n K rest ((d, v') :: env) w') :
    WpL P ops n K (⟨some d, .call { callee := .builtin .append, args := #[s, t], argTypes := #[T, T] }, ty, pos, after, none⟩ :: rest) env w := by
  obtain ⟨v', w', hrun, hst⟩ := run_append (P := P) (ty := ty) (i := default) hT hi hz hsz h hb hm
  refine l_val v' hd (fun a hf => ?_) (k v' w' hst)
  simp only [execOp, resolve, invoke, builtin, Sem.run_bind, Sem.run_pure, Result.andThen_ok, List.map_toArray, List.map_cons, List.map_nil, hf.eval hs, hf.eval ht, hrun]

/-! ### calls -/
def evs (env : Env) : List Operand → Option (List Value)
  | [] => some []
  | x :: r => match ev env x with
    | none => none
    | some v => (evs env r).map (v :: ·)
theorem Fits.evals (h : Fits n env a) : ∀ {l : List Operand} {vs : List Value}, evs env l = some vs → l.map a.eval = vs
  | [], vs, hv => by simp [evs] at hv; subst hv; rfl
  | x :: r, vs, hv => by
    unfold evs at hv
    cases hx : ev env x with
    | none => simp [hx] at hv
    | some v =>
      simp only [hx] at hv
      obtain ⟨us, hu, rfl⟩ := Option.map_eq_some_iff.1 hv
      rw [List.map_cons, h.eval hx, h.evals hu]
theorem run_call {f : FuncId} {fn : Func} {ρ : Operand → Value} {args : List Operand} {ts : Array TypeId} {vs : List Value} {dst : Option Nat} {cal : Operand} (hf : P.funcs[f]? = some fn) (hb : fn.body.isSome = true) (hn : (fn.name == "runtime.NumGoroutine") = false)
    {caps : List Value} (hcal : ρ cal = .func (.func f) #[] caps.toArray) (hargs : args.map ρ = vs) :
    (execOp ρ ⟨dst, .call { callee := .value cal, args := args.toArray, argTypes := ts }, ty, pos, after, none⟩).run P w = .ok (.enter f (vs ++ caps).toArray) w := by
  have hn' : ¬ fn.name = "runtime.NumGoroutine" := by simpa using hn
  have hb' : ¬ fn.body = none := by intro h; rw [h] at hb; cases hb
  simp [execOp, resolve, hcal, Deferred.ofValue, invoke, callFunc, Sem.run_bind, Sem.run_pure, Result.andThen_ok, program, Sem.run, hf, hn', hb', hargs]
/-- A call of a function of the program, by its name or by a value that bears what it caught. -/
theorem l_callv {f : FuncId} {fn : Func} {args : List Operand} {ts : Array TypeId} {vs caps : List Value} {R : Ending → World → Prop} {cal : Operand} (hd : Nat.ble (d + 1) n = true) (hf : P.funcs[f]? = some fn) (hb : fn.body.isSome = true) (hn : (fn.name == "runtime.NumGoroutine") = false)
    (hcal : ev env cal = some (.func (.func f) #[] caps.toArray)) (hargs : evs env args = some vs) (hc : Calls P f (vs ++ caps).toArray w R) (k : ∀ e w', R e w' → ∃ v, e = .returned v ∧ WpL P ops n K rest ((d, v) :: env) w') :
    WpL P ops n K (⟨some d, .call { callee := .value cal, args := args.toArray, argTypes := ts }, ty, pos, after, none⟩ :: rest) env w := by
  refine ⟨fun Q a hfit hQ => ?_⟩
  refine wpList_plain rfl fun KK hK => ?_
  unfold Oper.wp
  rw [run_call hf hb hn (hfit.eval hcal) (hfit.evals hargs)]
  refine hc.mono fun e w' hR => ?_
  obtain ⟨v, rfl, hw⟩ := k e w' hR
  exact hK _ _ (hw.go Q _ (hfit.put hd v) hQ)
theorem l_call {f : FuncId} {fn : Func} {args : List Operand} {ts : Array TypeId} {vs : List Value} {R : Ending → World → Prop} (hd : Nat.ble (d + 1) n = true) (hf : P.funcs[f]? = some fn) (hb : fn.body.isSome = true) (hn : (fn.name == "runtime.NumGoroutine") = false)
    (hargs : evs env args = some vs) (hc : Calls P f vs.toArray w R) (k : ∀ e w', R e w' → ∃ v, e = .returned v ∧ WpL P ops n K rest ((d, v) :: env) w') :
    WpL P ops n K (⟨some d, .call { callee := .value (.func f), args := args.toArray, argTypes := ts }, ty, pos, after, none⟩ :: rest) env w :=
  l_callv (caps := []) hd hf hb hn rfl hargs (by rw [List.append_nil]; exact hc) k
end Go.Proofs.Fw
