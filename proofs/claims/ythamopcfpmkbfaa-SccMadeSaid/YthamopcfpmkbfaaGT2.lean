/- Tarjan's groups, in plain words: a round that goes on from a node. No condition. -/
import Derived.Test.YthamopcfpmkbfaaGT1
namespace Go.Proofs.Ythamopcfpmkbfaa
variable {n : Nat} {out : List (List Nat)} {r : List (Nat × Nat)} {s : Fnd} {x i : Nat}
theorem prc_next {y z : Nat} (hi : i < (out.getD x []).length) (h : Prc out ((x, i + 1) :: r) y z) : Prc out ((x, i) :: r) y z ∨ (y = x ∧ z = (out.getD x []).getD i 0) := by
  rcases h with ⟨h1, h2⟩ | ⟨k, h1, h2⟩
  · exact .inl (.inl ⟨h1, h2⟩)
  · rcases List.mem_cons.1 h1 with e | h1
    · cases e
      rw [List.take_succ_eq_append_getElem hi] at h2
      rcases List.mem_append.1 h2 with h2 | h2
      · exact .inl (.inr ⟨i, by simp, h2⟩)
      · refine .inr ⟨rfl, ?_⟩
        rw [List.getD_eq_getElem?_getD, List.getElem?_eq_getElem hi]
        simpa using h2
    · exact .inl (.inr ⟨k, by simp [h1], h2⟩)
theorem edge_at (hi : i < (out.getD x []).length) : Edg out x ((out.getD x []).getD i 0) := by
  unfold Edg
  rw [List.getD_eq_getElem?_getD (l := out.getD x []), List.getElem?_eq_getElem hi]
  exact List.getElem_mem hi
theorem Inv.cross (h : Inv n out ((x, i) :: r) s) (hi : i < (out.getD x []).length) (h0 : s.nm ((out.getD x []).getD i 0) ≠ 0) (h1 : s.is.getD ((out.getD x []).getD i 0) false = false) : Inv n out ((x, i + 1) :: r) s := by
  have hy := h.edge_lt (edge_at hi)
  have hno : (out.getD x []).getD i 0 ∉ s.opn := fun e => by rw [(h.is_ _ hy).2 e] at h1; cases h1
  exact { h with
    so := h.so
    sd := h.sd
    anc := h.anc
    dn := h.dn
    lwOk := h.lwOk
    pv := fun y hy z hz => by
      rcases prc_next hi hz with hz | ⟨rfl, rfl⟩
      · exact h.pv y hy z hz
      · exact h0
    lo := fun p hp y hy h2 h3 z hz hpz => by
      rcases prc_next hi hpz with hpz | ⟨rfl, rfl⟩
      · exact h.lo p hp y hy h2 h3 z hz hpz
      · exact absurd hz hno }
theorem Inv.back (h : Inv n out ((x, i) :: r) s) (hi : i < (out.getD x []).length) (h1 : s.is.getD ((out.getD x []).getD i 0) false = true) : Inv n out ((x, i + 1) :: r) (lowUp s x (s.nm ((out.getD x []).getD i 0))) := by
  have hy := h.edge_lt (edge_at hi)
  have hyo := (h.is_ _ hy).1 h1
  obtain ⟨y0, hy0⟩ : ∃ y0, y0 = (out.getD x []).getD i 0 := ⟨_, rfl⟩
  have hed := edge_at hi
  rw [← hy0] at hy hyo h1 hed ⊢
  have hxo : x ∈ s.opn := h.so x (by simp)
  have hxl : x < s.low.length := by rw [h.ll]; exact h.on x hxo
  have lowx : (lowUp s x (s.nm y0)).lw x = min (s.lw x) (s.nm y0) := getD_set_same _ _ hxl
  have lowne : ∀ p, p ≠ x → (lowUp s x (s.nm y0)).lw p = s.lw p := fun p hp => getD_set_ne _ _ (Ne.symm hp)
  have lowle : ∀ p, (lowUp s x (s.nm y0)).lw p ≤ s.lw p := fun p => by
    by_cases e : p = x
    · subst e; rw [lowx]; omega
    · rw [lowne p e]; omega
  exact { o := h.o, ol := h.ol, rows := h.rows, small := h.small, nl := h.nl, ll := by simp [lowUp, h.ll], il := h.il, on := h.on, fn := h.fn, nd := h.nd, vis := h.vis, cnt := h.cnt, is_ := h.is_, inc := h.inc, le := h.le, so := h.so, sd := h.sd, anc := h.anc, dn := h.dn, cl := h.cl, gr := h.gr
          pv := fun y hy z hz => by
            rcases prc_next hi hz with hz | ⟨rfl, rfl⟩
            · exact h.pv y hy z hz
            · rw [← hy0]
              exact (h.vis _ (h.on _ hyo)).2 (.inl hyo)
          lwOk := fun p hp => by
            obtain ⟨k1, w, k2, k3, k4⟩ := h.lwOk p hp
            by_cases e : p = x
            · subst e
              rw [lowx]
              refine ⟨by show min _ _ ≤ s.nm p; omega, ?_⟩
              rcases Nat.le_total (s.lw p) (s.nm y0) with hle | hle
              · rw [Nat.min_eq_left hle]; exact ⟨w, k2, k3, k4⟩
              · rw [Nat.min_eq_right hle]; exact ⟨y0, hyo, rfl, .edge hed⟩
            · rw [lowne p e]
              exact ⟨k1, w, k2, k3, k4⟩
          lo := fun p hp y hy h2 h3 z hz hpz => by
            rcases prc_next hi hpz with hpz | ⟨rfl, rfl⟩
            · exact Nat.le_trans (lowle p) (h.lo p hp y hy h2 h3 z hz hpz)
            · rw [← hy0]
              have hpo := h.so p hp
              have h4 := h3 y (by simp) (Nat.le_refl _)
              have : p = y := h.inj hpo hy (Nat.le_antisymm h2 h4)
              subst this
              rw [lowx]
              show min _ _ ≤ s.nm y0
              omega }
theorem Inv.new (h : Inv n out ((x, i) :: r) s) (hi : i < (out.getD x []).length) (h0 : s.nm ((out.getD x []).getD i 0) = 0) : Inv n out (((out.getD x []).getD i 0, 0) :: (x, i + 1) :: r) (enterF s ((out.getD x []).getD i 0)) := by
  have hy := h.edge_lt (edge_at hi)
  obtain ⟨y0, hy0⟩ : ∃ y0, y0 = (out.getD x []).getD i 0 := ⟨_, rfl⟩
  have hed := edge_at hi
  rw [← hy0] at hy h0 hed ⊢
  have hno := fun e => (h.vis y0 hy).2 e h0
  have hno1 : y0 ∉ s.opn := fun e => hno (.inl e)
  have hno2 : y0 ∉ s.flat := fun e => hno (.inr e)
  have nmy : (enterF s y0).nm y0 = s.count + 1 := getD_set_same _ _ (by rw [h.nl]; exact hy)
  have nmne : ∀ z, z ≠ y0 → (enterF s y0).nm z = s.nm z := fun z hz => getD_set_ne _ _ (Ne.symm hz)
  have lwy : (enterF s y0).lw y0 = s.count + 1 := getD_set_same _ _ (by rw [h.ll]; exact hy)
  have lwne : ∀ z, z ≠ y0 → (enterF s y0).lw z = s.lw z := fun z hz => getD_set_ne _ _ (Ne.symm hz)
  have nmo : ∀ z ∈ s.opn, (enterF s y0).nm z = s.nm z := fun z hz => nmne z fun e => hno1 (by rw [← e]; exact hz)
  have lwo : ∀ z ∈ s.opn, (enterF s y0).lw z = s.lw z := fun z hz => lwne z fun e => hno1 (by rw [← e]; exact hz)
  have mem : ∀ z, z ∈ (enterF s y0).opn ↔ z ∈ s.opn ∨ z = y0 := fun z => by simp [enterF]
  have hxo : x ∈ s.opn := h.so x (by simp)
  have hso : ∀ p ∈ x :: r.map Prod.fst, p ∈ s.opn := h.so
  have hst : ∀ p ∈ x :: r.map Prod.fst, p ≠ y0 := fun p hp e => hno1 (by rw [← e]; exact hso p hp)
  have prc : ∀ y, y ≠ y0 → ∀ z, Prc out ((y0, 0) :: (x, i + 1) :: r) y z → Prc out ((x, i) :: r) y z ∨ (y = x ∧ z = y0) := fun y hy z hz => by
    have : Prc out ((x, i + 1) :: r) y z := by
      rcases hz with ⟨k1, k2⟩ | ⟨k, k1, k2⟩
      · exact .inl ⟨fun e => k1 (List.mem_cons_of_mem _ e), k2⟩
      · rcases List.mem_cons.1 k1 with e | k1
        · cases e; exact absurd rfl hy
        · exact .inr ⟨k, k1, k2⟩
    rw [hy0]
    exact prc_next hi this
  have prc0 : ∀ z, ¬ Prc out ((y0, 0) :: (x, i + 1) :: r) y0 z := fun z hz => by
    rcases hz with ⟨k1, -⟩ | ⟨k, k1, k2⟩
    · exact k1 (by simp)
    · rcases List.mem_cons.1 k1 with e | k1
      · cases e; simp at k2
      · exact hst y0 (List.mem_map.2 ⟨(y0, k), k1, rfl⟩ : y0 ∈ ((x, i + 1) :: r).map Prod.fst) rfl
  exact {
    o := h.o, ol := h.ol, rows := h.rows, small := h.small, nl := by simp [enterF, h.nl], ll := by simp [enterF, h.ll], il := by simp [enterF, h.il]
    on := fun y hy' => by
      rcases (mem y).1 hy' with hy' | rfl
      · exact h.on y hy'
      · exact hy
    fn := h.fn
    nd := by
      show ((s.opn ++ [y0]) ++ s.flat).Nodup
      rw [List.append_assoc, List.singleton_append]
      have : (y0 :: (s.opn ++ s.flat)).Nodup := List.nodup_cons.2 ⟨fun e => hno (List.mem_append.1 e), h.nd⟩
      exact (List.perm_middle.nodup_iff).2 this
    vis := fun z hz => by
      by_cases e : z = y0
      · subst e; rw [nmy]; simp [mem]
      · rw [nmne z e, h.vis z hz, mem]
        show _ ↔ (_ ∨ _) ∨ z ∈ s.flat
        simp [e]
    cnt := by
      show s.count + 1 = (s.opn ++ [y0]).length + s.flat.length
      rw [h.cnt]; simp; omega
    is_ := fun z hz => by
      show (s.is.set y0 true).getD z false = true ↔ _
      rw [getD_set, mem]
      by_cases e : y0 = z
      · subst e; rw [if_pos ⟨rfl, by rw [h.il]; exact hy⟩]; simp
      · rw [if_neg (fun k => e k.1), h.is_ z hz]
        simp [Ne.symm e]
    inc := by
      show (s.opn ++ [y0]).Pairwise _
      rw [List.pairwise_append]
      refine ⟨h.inc.imp_of_mem fun {a b} ha hb hab => by rw [nmo a ha, nmo b hb]; exact hab, by simp, fun a ha b hb => ?_⟩
      simp at hb
      subst hb
      rw [nmo a ha, nmy]
      have := h.le a
      omega
    le := fun z => by
      show _ ≤ s.count + 1
      by_cases e : z = y0
      · subst e; rw [nmy]; omega
      · rw [nmne z e]; have := h.le z; omega
    so := fun p hp => by
      rw [mem]
      rcases List.mem_cons.1 hp with e | hp
      · exact .inr e
      · exact .inl (hso p hp)
    sd := by
      show (y0 :: x :: r.map Prod.fst).Pairwise _
      rw [List.pairwise_cons]
      refine ⟨fun p hp => ?_, ?_⟩
      · rw [nmy, nmo p (hso p hp)]; have := h.le p; omega
      · exact h.sd.imp_of_mem fun {a b} ha hb hab => by rw [nmo a (hso a ha), nmo b (hso b hb)]; exact hab
    anc := fun y hy' => by
      rcases (mem y).1 hy' with hy' | rfl
      · obtain ⟨p, hp, k1, k2⟩ := h.anc y hy'
        refine ⟨p, List.mem_cons_of_mem _ hp, ?_, k2⟩
        rw [nmo y hy', nmo p (hso p hp)]; exact k1
      · exact ⟨y, by simp, Nat.le_refl _, .refl y⟩
    dn := fun p hp y hy' hle => by
      rcases List.mem_cons.1 hp with e | hpp
      · subst e
        rcases (mem y).1 hy' with hy' | rfl
        · rw [nmy, nmo y hy'] at hle; have := h.le y; omega
        · exact .refl _
      · rcases (mem y).1 hy' with hy' | rfl
        · rw [nmo y hy', nmo p (hso p hpp)] at hle
          exact h.dn p hpp y hy' hle
        · have hpx : s.nm p ≤ s.nm x := by
            rcases List.mem_cons.1 hpp with e | hp'
            · rw [e]; exact Nat.le_refl _
            · exact Nat.le_of_lt ((List.pairwise_cons.1 h.sd).1 p hp')
          exact .tail (h.dn p hpp x hxo hpx) hed
    cl := h.cl
    gr := h.gr
    pv := fun y hy' z hz => by
      rcases (mem y).1 hy' with hy' | rfl
      · have hne : y ≠ y0 := fun e => hno1 (by rw [← e]; exact hy')
        rcases prc y hne z hz with k | ⟨-, rfl⟩
        · have := h.pv y hy' z k
          by_cases e : z = y0
          · subst e; rw [nmy]; omega
          · rw [nmne z e]; exact this
        · rw [nmy]; omega
      · exact absurd hz (prc0 z)
    lwOk := fun p hp => by
      rcases List.mem_cons.1 hp with e | hp
      · subst e
        rw [lwy, nmy]
        exact ⟨Nat.le_refl _, _, (mem _).2 (.inr rfl), nmy, .refl _⟩
      · obtain ⟨k1, w, k2, k3, k4⟩ := h.lwOk p hp
        rw [lwo p (hso p hp), nmo p (hso p hp)]
        exact ⟨k1, w, (mem w).2 (.inl k2), by rw [nmo w k2]; exact k3, k4⟩
    lo := fun p hp y hy' h2 h3 z hz hpz => by
      rcases (mem y).1 hy' with hyo | rfl
      · have hne : y ≠ y0 := fun e => hno1 (by rw [← e]; exact hyo)
        have hp' : p ∈ x :: r.map Prod.fst := by
          rcases List.mem_cons.1 hp with e | hp
          · subst e
            rw [nmy, nmo y hyo] at h2
            have := h.le y; omega
          · exact hp
        have hpo := hso p hp'
        rw [nmo p hpo, nmo y hyo] at h2
        have h3' : ∀ q ∈ ((x, i) :: r).map Prod.fst, s.nm q ≤ s.nm y → s.nm q ≤ s.nm p := fun q hq hqy => by
          have := h3 q (List.mem_cons_of_mem _ hq)
          rw [nmo q (hso q hq), nmo y hyo, nmo p hpo] at this
          exact this hqy
        rw [lwo p hpo]
        rcases (mem z).1 hz with hzo | rfl
        · rw [nmo z hzo]
          rcases prc y hne z hpz with k | ⟨-, rfl⟩
          · exact h.lo p hp' y hyo h2 h3' z hzo k
          · exact absurd hzo hno1
        · rw [nmy]
          have := (h.lwOk p hp').1
          have := h.le p
          omega
      · exact absurd hpz (prc0 z) }
/-- A new search from a node that nobody has come to. -/
theorem Inv.begin (h : Inv n out [] s) {x : Nat} (hx : x < n) (h0 : s.nm x = 0) : Inv n out [(x, 0)] (enterF s x) ∧ s.opn = [] := by
  have hop : s.opn = [] := by
    cases e : s.opn with
    | nil => rfl
    | cons a l =>
      obtain ⟨p, hp, -⟩ := h.anc a (by rw [e]; simp)
      cases hp
  have hno := fun e => (h.vis x hx).2 e h0
  have nmy : (enterF s x).nm x = s.count + 1 := getD_set_same _ _ (by rw [h.nl]; exact hx)
  have nmne : ∀ z, z ≠ x → (enterF s x).nm z = s.nm z := fun z hz => getD_set_ne _ _ (Ne.symm hz)
  have lwy : (enterF s x).lw x = s.count + 1 := getD_set_same _ _ (by rw [h.ll]; exact hx)
  have hopn : (enterF s x).opn = [x] := by show s.opn ++ [x] = [x]; rw [hop]; rfl
  have prc0 : ∀ z, ¬ Prc out [(x, 0)] x z := fun z hz => by
    rcases hz with ⟨k1, -⟩ | ⟨k, k1, k2⟩
    · exact k1 (by simp)
    · simp at k1; subst k1; simp at k2
  refine ⟨?_, hop⟩
  exact {
    o := h.o, ol := h.ol, rows := h.rows, small := h.small, nl := by simp [enterF, h.nl], ll := by simp [enterF, h.ll], il := by simp [enterF, h.il]
    on := fun y hy => by rw [hopn] at hy; simp at hy; subst hy; exact hx
    fn := h.fn
    nd := by
      rw [hopn]
      exact List.nodup_cons.2 ⟨fun e => hno (.inr e), (List.nodup_append.1 h.nd).2.1⟩
    vis := fun z hz => by
      rw [hopn]
      by_cases e : z = x
      · subst e; rw [nmy]; simp
      · rw [nmne z e, h.vis z hz, hop]
        show _ ↔ _ ∨ z ∈ s.flat
        simp [e]
    cnt := by
      rw [hopn]
      show s.count + 1 = 1 + s.flat.length
      rw [h.cnt, hop]; simp; omega
    is_ := fun z hz => by
      show (s.is.set x true).getD z false = true ↔ _
      rw [getD_set, hopn]
      by_cases e : x = z
      · subst e; rw [if_pos ⟨rfl, by rw [h.il]; exact hx⟩]; simp
      · rw [if_neg (fun k => e k.1), h.is_ z hz, hop]
        simp [Ne.symm e]
    inc := by rw [hopn]; simp
    le := fun z => by
      show _ ≤ s.count + 1
      by_cases e : z = x
      · subst e; rw [nmy]; omega
      · rw [nmne z e]; have := h.le z; omega
    so := fun p hp => by rw [hopn]; simpa using hp
    sd := by simp
    anc := fun y hy => by rw [hopn] at hy; simp at hy; subst hy; exact ⟨y, by simp, Nat.le_refl _, .refl y⟩
    dn := fun p hp y hy hle => by rw [hopn] at hy; simp at hy hp; subst hy hp; exact .refl _
    cl := h.cl
    gr := h.gr
    pv := fun y hy z hz => by rw [hopn] at hy; simp at hy; subst hy; exact absurd hz (prc0 z)
    lwOk := fun p hp => by
      simp at hp; subst hp
      rw [lwy, nmy]
      exact ⟨Nat.le_refl _, p, by rw [hopn]; simp, nmy, .refl _⟩
    lo := fun p hp y hy h2 h3 z hz hpz => by rw [hopn] at hy; simp at hy; subst hy; exact absurd hpz (prc0 z) }
end Go.Proofs.Ythamopcfpmkbfaa
