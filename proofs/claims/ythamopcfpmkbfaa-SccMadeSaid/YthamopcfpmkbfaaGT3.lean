/- Tarjan's groups, in plain words: a round that leaves a node. No condition. -/
import Derived.Test.YthamopcfpmkbfaaGT2
namespace Go.Proofs.Ythamopcfpmkbfaa
variable {n : Nat} {out : List (List Nat)} {r : List (Nat × Nat)} {s : Fnd} {x i : Nat}
/-- Of a node that is done, all edges have been looked at. -/
theorem prc_done {st : List (Nat × Nat)} {y z : Nat} (hi : ¬ i < (out.getD x []).length) (hx : x ∉ st.map Prod.fst) (h : Prc out st y z) : Prc out ((x, i) :: st) y z := by
  rcases h with ⟨h1, h2⟩ | ⟨k, h1, h2⟩
  · by_cases e : y = x
    · subst e
      exact .inr ⟨i, by simp, by rw [List.take_of_length_le (by omega)]; exact h2⟩
    · exact .inl ⟨by simp [e, h1], h2⟩
  · exact .inr ⟨k, by simp [h1], h2⟩
theorem Inv.top_out (h : Inv n out ((x, i) :: r) s) : x ∉ r.map Prod.fst := fun e => Nat.lt_irrefl _ ((List.pairwise_cons.1 h.sd).1 x e)
/-- It is not the first one of its group. -/
theorem Inv.up (h : Inv n out ((x, i) :: r) s) (hi : ¬ i < (out.getD x []).length) (hlt : s.lw x < s.nm x) : ∃ u j r', r = (u, j) :: r' ∧ Inv n out r (lowUp s u (s.lw x)) := by
  have hxo : x ∈ s.opn := h.so x (by simp)
  obtain ⟨-, w, hw, hwn, hxw⟩ := h.lwOk x (by simp)
  have low : ∀ q ∈ r.map Prod.fst, s.nm q < s.nm x := (List.pairwise_cons.1 h.sd).1
  have hso : ∀ p ∈ r.map Prod.fst, p ∈ s.opn := fun p hp => h.so p (List.mem_cons_of_mem _ hp)
  obtain ⟨a, ha, haw, hwa⟩ := h.anc w hw
  have har : a ∈ r.map Prod.fst := by
    rcases List.mem_cons.1 ha with e | ha'
    · rw [e] at haw
      exact absurd (Nat.lt_of_le_of_lt haw (by rw [hwn]; exact hlt)) (Nat.lt_irrefl _)
    · exact ha'
  cases r with
  | nil => cases har
  | cons p r' =>
  obtain ⟨u, j⟩ := p
  refine ⟨u, j, r', rfl, ?_⟩
  have hur : u ∈ ((u, j) :: r').map Prod.fst := by simp
  have huo := hso u hur
  have hux : s.nm u < s.nm x := low u hur
  have hul : u < s.low.length := by rw [h.ll]; exact h.on u huo
  have umax : ∀ q ∈ ((u, j) :: r').map Prod.fst, s.nm q ≤ s.nm u := fun q hq => by
    rcases List.mem_cons.1 hq with e | hq'
    · rw [e]; exact Nat.le_refl _
    · exact Nat.le_of_lt ((List.pairwise_cons.1 (List.pairwise_cons.1 h.sd).2).1 q hq')
  have lowu : (lowUp s u (s.lw x)).lw u = min (s.lw u) (s.lw x) := getD_set_same _ _ hul
  have lowne : ∀ p, p ≠ u → (lowUp s u (s.lw x)).lw p = s.lw p := fun p hp => getD_set_ne _ _ (Ne.symm hp)
  have lowle : ∀ p, (lowUp s u (s.lw x)).lw p ≤ s.lw p := fun p => by
    by_cases e : p = u
    · subst e; rw [lowu]; omega
    · rw [lowne p e]; omega
  have rux : Rch out u x := h.dn u (List.mem_cons_of_mem _ hur) x hxo (Nat.le_of_lt hux)
  exact {
    o := h.o, ol := h.ol, rows := h.rows, small := h.small, nl := h.nl, ll := by simp [lowUp, h.ll], il := h.il, on := h.on, fn := h.fn, nd := h.nd, vis := h.vis, cnt := h.cnt, is_ := h.is_, inc := h.inc, le := h.le
    so := hso
    sd := (List.pairwise_cons.1 h.sd).2
    anc := fun y hy => by
      obtain ⟨p, hp, k1, k2⟩ := h.anc y hy
      rcases List.mem_cons.1 hp with e | hp'
      · rw [e] at k1 k2
        refine ⟨a, har, ?_, k2.trans (hxw.trans hwa)⟩
        have k1' : s.nm x ≤ s.nm y := k1
        show s.nm a ≤ s.nm y
        omega
      · exact ⟨p, hp', k1, k2⟩
    dn := fun p hp => h.dn p (List.mem_cons_of_mem _ hp)
    cl := h.cl
    gr := h.gr
    pv := fun y hy z hz => h.pv y hy z (prc_done hi h.top_out hz)
    lwOk := fun p hp => by
      obtain ⟨k1, v, k2, k3, k4⟩ := h.lwOk p (List.mem_cons_of_mem _ hp)
      by_cases e : p = u
      · subst e
        rw [lowu]
        refine ⟨by show min _ _ ≤ s.nm p; omega, ?_⟩
        rcases Nat.le_total (s.lw p) (s.lw x) with hle | hle
        · rw [Nat.min_eq_left hle]; exact ⟨v, k2, k3, k4⟩
        · rw [Nat.min_eq_right hle]; exact ⟨w, hw, hwn, rux.trans hxw⟩
      · rw [lowne p e]
        exact ⟨k1, v, k2, k3, k4⟩
    lo := fun p hp y hy h2 h3 z hz hpz => by
      have hpz' := prc_done hi h.top_out hpz
      by_cases hxy : s.nm x ≤ s.nm y
      · have hup : s.nm u ≤ s.nm p := h3 u hur (by show s.nm u ≤ s.nm y; omega)
        have : p = u := h.inj (hso p hp) huo (Nat.le_antisymm (umax p hp) hup)
        subst this
        have hz2 := h.lo x (by simp) y hy hxy (fun q hq _ => by
          rcases List.mem_cons.1 hq with e | hq'
          · rw [e]; exact Nat.le_refl _
          · exact Nat.le_of_lt (low q hq')) z hz hpz'
        rw [lowu]
        show min _ _ ≤ s.nm z
        omega
      · refine Nat.le_trans (lowle p) (h.lo p (List.mem_cons_of_mem _ hp) y hy h2 (fun q hq hqy => ?_) z hz hpz')
        rcases List.mem_cons.1 hq with e | hq'
        · rw [e] at hqy; exact absurd hqy hxy
        · exact h3 q hq' hqy }
def closeF (s : Fnd) (x : Nat) : Fnd := { s with opn := s.opn.take (s.opn.idxOf x), is := offF (s.opn.drop (s.opn.idxOf x)) s.is, groups := s.groups ++ [sortF (s.opn.drop (s.opn.idxOf x))] }
theorem offF_len : ∀ (l : List Nat) (is : List Bool), (offF l is).length = is.length
  | [], is => rfl
  | y :: l, is => by simp [offF, offF_len l]
theorem offF_getD : ∀ (l : List Nat) (is : List Bool) (z : Nat), (∀ y ∈ l, y < is.length) → (offF l is).getD z false = if z ∈ l then false else is.getD z false
  | [], is, z, _ => by simp [offF]
  | y :: l, is, z, h => by
    rw [offF, offF_getD l _ z (fun u hu => by simpa using h u (by simp [hu])), getD_set]
    have hy := h y (by simp)
    by_cases e : z = y
    · subst e; simp [hy]
    · have e' : ¬ (y = z ∧ y < is.length) := fun k => e k.1.symm
      rw [if_neg e']
      simp [e]
/-- It is the first one of its group. -/
theorem Inv.close (h : Inv n out ((x, i) :: r) s) (hi : ¬ i < (out.getD x []).length) (hlt : ¬ s.lw x < s.nm x) : Inv n out r (closeF s x) := by
  have hxo : x ∈ s.opn := h.so x (by simp)
  have low : ∀ q ∈ r.map Prod.fst, s.nm q < s.nm x := (List.pairwise_cons.1 h.sd).1
  have hso : ∀ p ∈ r.map Prod.fst, p ∈ s.opn := fun p hp => h.so p (List.mem_cons_of_mem _ hp)
  have hlx : s.lw x = s.nm x := Nat.le_antisymm (h.lwOk x (by simp)).1 (Nat.le_of_not_lt hlt)
  obtain ⟨k, hk⟩ : ∃ k, k = s.opn.idxOf x := ⟨_, rfl⟩
  have hkl : k < s.opn.length := by rw [hk]; exact List.idxOf_lt_length_iff.2 hxo
  have hkx : s.opn[k] = x := by subst hk; exact List.getElem_idxOf hkl
  obtain ⟨A, hA⟩ : ∃ A, A = s.opn.take k := ⟨_, rfl⟩
  obtain ⟨B, hB⟩ : ∃ B, B = s.opn.drop k := ⟨_, rfl⟩
  have hAB : s.opn = A ++ B := by rw [hA, hB, List.take_append_drop]
  have hBx : B = x :: s.opn.drop (k + 1) := by rw [hB, List.drop_eq_getElem_cons hkl, hkx]
  have hinc := h.inc
  rw [hAB, List.pairwise_append] at hinc
  obtain ⟨incA, incB, incAB⟩ := hinc
  have hxB : x ∈ B := by rw [hBx]; simp
  have ltA : ∀ y ∈ A, s.nm y < s.nm x := fun y hy => incAB y hy x hxB
  have geB : ∀ y ∈ B, s.nm x ≤ s.nm y := fun y hy => by
    rw [hBx] at hy incB
    rcases List.mem_cons.1 hy with e | hy'
    · rw [e]; exact Nat.le_refl _
    · exact Nat.le_of_lt ((List.pairwise_cons.1 incB).1 y hy')
  have memAB : ∀ y, y ∈ s.opn ↔ y ∈ A ∨ y ∈ B := fun y => by rw [hAB, List.mem_append]
  have inA : ∀ y ∈ s.opn, s.nm y < s.nm x → y ∈ A := fun y hy hl => by
    rcases (memAB y).1 hy with h1 | h1
    · exact h1
    · have := geB y h1; omega
  have inB : ∀ y ∈ s.opn, s.nm x ≤ s.nm y → y ∈ B := fun y hy hl => by
    rcases (memAB y).1 hy with h1 | h1
    · have := ltA y h1; omega
    · exact h1
  have oB : ∀ y ∈ B, y ∈ s.opn := fun y hy => (memAB y).2 (.inr hy)
  have oA : ∀ y ∈ A, y ∈ s.opn := fun y hy => (memAB y).2 (.inl hy)
  -- what is done
  have done : ∀ y ∈ B, ∀ z, Edg out y z → Prc out ((x, i) :: r) y z := fun y hy z hz => by
    by_cases e : y = x
    · subst e
      exact .inr ⟨i, by simp, by rw [List.take_of_length_le (by omega)]; exact hz⟩
    · refine .inl ⟨fun hm => ?_, hz⟩
      rcases List.mem_cons.1 hm with e' | hm
      · exact e e'
      · have := low y hm; have := geB y hy; omega
  have step : ∀ y ∈ B, ∀ z, Edg out y z → z ∈ B ∨ z ∈ s.flat := fun y hy z hz => by
    have hp := done y hy z hz
    have hv := h.pv y (oB y hy) z hp
    rcases (h.vis z (h.edge_lt hz)).1 hv with hz1 | hz1
    · have := h.lo x (by simp) y (oB y hy) (geB y hy) (fun q hq _ => by
        rcases List.mem_cons.1 hq with e | hq'
        · rw [e]; exact Nat.le_refl _
        · exact Nat.le_of_lt (low q hq')) z hz1 hp
      rw [hlx] at this
      exact .inl (inB z hz1 this)
    · exact .inr hz1
  have flatR : ∀ y z, Rch out y z → y ∈ s.flat → z ∈ s.flat := fun y z hr => by
    induction hr with
    | refl => exact id
    | tail _ e ih => exact fun hy => h.cl _ (ih hy) _ e
  have reach : ∀ y z, Rch out y z → y ∈ B → z ∈ B ∨ z ∈ s.flat := fun y z hr => by
    induction hr with
    | refl => exact .inl
    | tail _ e ih =>
      intro hy
      rcases ih hy with h1 | h1
      · exact step _ h1 _ e
      · exact .inr (h.cl _ h1 _ e)
  have fromx : ∀ y ∈ B, Rch out x y := fun y hy => h.dn x (by simp) y (oB y hy) (geB y hy)
  have tox : ∀ y ∈ B, Rch out y x := fun y hy => by
    obtain ⟨p, hp, -, k2⟩ := h.anc y (oB y hy)
    rcases List.mem_cons.1 hp with e | hp'
    · rw [e] at k2; exact k2
    · rcases reach y p k2 hy with h1 | h1
      · have := geB p h1; have := low p hp'; omega
      · exact absurd h1 (fun h1 => h.not_both (hso p hp') h1)
  have nB : ∀ y ∈ B, y ∉ s.flat := fun y hy hf => h.not_both (oB y hy) hf
  have hperm : (sortF B).Perm B := List.mergeSort_perm _ _
  have memS : ∀ y, y ∈ sortF B ↔ y ∈ B := fun y => hperm.mem_iff
  have ndB : B.Nodup := by
    have := h.nodup_opn
    rw [hAB] at this
    exact (List.nodup_append.1 this).2.1
  have eo : (closeF s x).opn = A := by show s.opn.take (s.opn.idxOf x) = A; rw [hA, hk]
  have eg : (closeF s x).groups = s.groups ++ [sortF B] := by show s.groups ++ [sortF (s.opn.drop (s.opn.idxOf x))] = _; rw [hB, hk]
  have ei : (closeF s x).is = offF B s.is := by show offF (s.opn.drop (s.opn.idxOf x)) s.is = _; rw [hB, hk]
  have ef : (closeF s x).flat = s.flat ++ sortF B := by
    show (closeF s x).groups.flatten = _
    rw [eg, List.flatten_append]
    simp
  have memF : ∀ y, y ∈ (closeF s x).flat ↔ y ∈ s.flat ∨ y ∈ B := fun y => by rw [ef, List.mem_append, memS]
  have prcA : ∀ y ∈ A, ∀ z, Prc out r y z → Prc out ((x, i) :: r) y z := fun y hy z hz => prc_done hi h.top_out hz
  exact {
    o := h.o, ol := h.ol, rows := h.rows, small := h.small, nl := h.nl, ll := h.ll
    il := by rw [ei, offF_len]; exact h.il
    on := fun y hy => by rw [eo] at hy; exact h.on y (oA y hy)
    fn := fun y hy => by
      rcases (memF y).1 hy with h1 | h1
      · exact h.fn y h1
      · exact h.on y (oB y h1)
    nd := by
      rw [eo, ef]
      have h1 := h.nd
      rw [hAB, List.append_assoc] at h1
      refine (List.Perm.nodup_iff ?_).1 h1
      refine List.Perm.append_left A ?_
      exact (List.Perm.append_right s.flat hperm.symm).trans List.perm_append_comm
    vis := fun y hy => by
      show s.nm y ≠ 0 ↔ _
      rw [h.vis y hy, eo, memF, memAB]
      constructor
      · rintro ((h1 | h1) | h1)
        · exact .inl h1
        · exact .inr (.inr h1)
        · exact .inr (.inl h1)
      · rintro (h1 | h1 | h1)
        · exact .inl (.inl h1)
        · exact .inr h1
        · exact .inl (.inr h1)
    cnt := by
      show s.count = _
      rw [h.cnt, eo, ef, hAB, List.length_append, List.length_append, hperm.length_eq]
      omega
    is_ := fun y hy => by
      rw [ei, eo, offF_getD B s.is y (fun u hu => by rw [h.il]; exact h.on u (oB u hu))]
      by_cases hb : y ∈ B
      · rw [if_pos hb]
        constructor
        · intro h1; cases h1
        · intro h1
          have := ltA y h1; have := geB y hb; omega
      · rw [if_neg hb, h.is_ y hy, memAB]
        simp [hb]
    inc := by rw [eo]; exact incA
    le := h.le
    so := fun p hp => by rw [eo]; exact inA p (hso p hp) (low p hp)
    sd := (List.pairwise_cons.1 h.sd).2
    anc := fun y hy => by
      rw [eo] at hy
      obtain ⟨p, hp, k1, k2⟩ := h.anc y (oA y hy)
      rcases List.mem_cons.1 hp with e | hp'
      · rw [e] at k1
        have k1' : s.nm x ≤ s.nm y := k1
        have := ltA y hy; omega
      · exact ⟨p, hp', k1, k2⟩
    dn := fun p hp y hy => by rw [eo] at hy; exact h.dn p (List.mem_cons_of_mem _ hp) y (oA y hy)
    cl := fun y hy z hz => by
      rw [memF]
      rcases (memF y).1 hy with h1 | h1
      · exact .inl (h.cl y h1 z hz)
      · rcases step y h1 z hz with h2 | h2
        · exact .inr h2
        · exact .inl h2
    gr := fun g hg => by
      rw [eg] at hg
      rcases List.mem_append.1 hg with h1 | h1
      · exact h.gr g h1
      · simp at h1
        subst h1
        refine ⟨fun e => ?_, ?_, fun y hy z => ?_⟩
        · have := (memS x).2 hxB
          rw [e] at this
          cases this
        · have h1 : (sortF B).Pairwise fun a b => decide (a ≤ b) = true := List.pairwise_mergeSort (by intro a b c; simp; omega) (by intro a b; simp; omega) B
          have h2 : (sortF B).Nodup := hperm.nodup_iff.2 ndB
          exact (h1.and h2).imp fun {a b} hab => by
            have := hab.1
            have := hab.2
            simp at *
            omega
        · rw [memS] at hy ⊢
          constructor
          · intro hz
            exact ⟨(tox y hy).trans (fromx z hz), (tox z hz).trans (fromx y hy)⟩
          · rintro ⟨h1, h2⟩
            rcases reach y z h1 hy with h3 | h3
            · exact h3
            · exact absurd (flatR z y h2 h3) (nB y hy)
    pv := fun y hy z hz => by rw [eo] at hy; exact h.pv y (oA y hy) z (prcA y hy z hz)
    lwOk := fun p hp => by
      obtain ⟨k1, w, k2, k3, k4⟩ := h.lwOk p (List.mem_cons_of_mem _ hp)
      refine ⟨k1, w, ?_, k3, k4⟩
      rw [eo]
      have := low p hp
      exact inA w k2 (by omega)
    lo := fun p hp y hy h2 h3 z hz hpz => by
      rw [eo] at hy hz
      refine h.lo p (List.mem_cons_of_mem _ hp) y (oA y hy) h2 (fun q hq hqy => ?_) z (oA z hz) (prcA y hy z hpz)
      rcases List.mem_cons.1 hq with e | hq'
      · rw [e] at hqy
        have hqy' : s.nm x ≤ s.nm y := hqy
        have := ltA y hy; omega
      · exact h3 q hq' hqy }
end Go.Proofs.Ythamopcfpmkbfaa
