/- Groups in plain words: there is but one way to part a graph's nodes. No condition. -/
import Derived.Test.YthamopcfpmkbfaaGT4
namespace Go.Proofs.Ythamopcfpmkbfaa
theorem rising_eq {l m : List Nat} (hl : l.Pairwise (· < ·)) (hm : m.Pairwise (· < ·)) (h : ∀ a, a ∈ l ↔ a ∈ m) : l = m := by
  have h1 : l.Nodup := hl.imp fun {a b} hab e => by omega
  have h2 : m.Nodup := hm.imp fun {a b} hab e => by omega
  exact List.Perm.eq_of_pairwise (fun a b _ _ h3 h4 => by omega) hl hm ((List.perm_ext_iff_of_nodup h1 h2).2 h)
theorem flatten_apart {gs : List (List Nat)} (h : gs.flatten.Nodup) : gs.Pairwise fun a b => ∀ y ∈ a, y ∉ b := by
  induction gs with
  | nil => exact .nil
  | cons g gs ih =>
    rw [List.flatten_cons, List.nodup_append] at h
    rw [List.pairwise_cons]
    exact ⟨fun b hb y hy hyb => h.2.2 y hy y (List.mem_flatten.2 ⟨b, hb, hyb⟩) rfl, ih h.2.1⟩
variable {n : Nat} {R R' : Nat → Nat → Prop} {gs hs : List (List Nat)}
theorem head_mem {l : List Nat} (h : l ≠ []) : l.headD 0 ∈ l := by
  cases l with
  | nil => exact absurd rfl h
  | cons a l => simp
theorem Parts.heads (h : Parts n R gs) : (gs.map (·.headD 0)).Nodup := by
  rw [List.Nodup, List.pairwise_map]
  exact (flatten_apart h.nd).imp_of_mem fun {a b} ha hb hab e => hab _ (head_mem (h.ne a ha)) (by rw [e]; exact head_mem (h.ne b hb))
theorem Parts.nodup (h : Parts n R gs) : gs.Nodup := by
  have := h.heads
  rw [List.Nodup, List.pairwise_map] at this
  exact this.imp fun {a b} hab e => hab (by rw [e])
theorem Parts.sub (h : Parts n R gs) (k : Parts n R' hs) (hR : ∀ y z, y < n → z < n → (R y z ↔ R' y z)) {l : List Nat} (hl : l ∈ gs) : l ∈ hs := by
  have hy := head_mem (h.ne l hl)
  obtain ⟨y, hye⟩ : ∃ y, y = l.headD 0 := ⟨_, rfl⟩
  rw [← hye] at hy
  have hyn := (h.all y).1 (List.mem_flatten.2 ⟨l, hl, hy⟩)
  obtain ⟨m, hm, hym⟩ := List.mem_flatten.1 ((k.all y).2 hyn)
  have : l = m := rising_eq (h.up l hl) (k.up m hm) fun z => by
    constructor
    · intro hz
      have hzn := (h.all z).1 (List.mem_flatten.2 ⟨l, hl, hz⟩)
      have := (h.one l hl y hy z).1 hz
      exact (k.one m hm y hym z).2 ⟨(hR y z hyn hzn).1 this.1, (hR z y hzn hyn).1 this.2⟩
    · intro hz
      have hzn := (k.all z).1 (List.mem_flatten.2 ⟨m, hm, hz⟩)
      have := (k.one m hm y hym z).1 hz
      exact (h.one l hl y hy z).2 ⟨(hR y z hyn hzn).2 this.1, (hR z y hzn hyn).2 this.2⟩
  rw [this]
  exact hm
theorem Parts.perm (h : Parts n R gs) (k : Parts n R' hs) (hR : ∀ y z, y < n → z < n → (R y z ↔ R' y z)) : gs.Perm hs :=
  (List.perm_ext_iff_of_nodup h.nodup k.nodup).2 fun _ => ⟨fun hl => h.sub k hR hl, fun hl => k.sub h (fun y z hy hz => (hR y z hy hz).symm) hl⟩
theorem sortG_perm (gs : List (List Nat)) : (sortG gs).Perm gs := List.mergeSort_perm _ _
theorem sortG_rising (gs : List (List Nat)) : (sortG gs).Pairwise fun a b => a.headD 0 ≤ b.headD 0 := by
  have := List.pairwise_mergeSort (le := fun a b : List Nat => decide (a.headD 0 ≤ b.headD 0)) (by intro a b c; simp only [decide_eq_true_eq]; omega) (by intro a b; simp only [Bool.or_eq_true, decide_eq_true_eq]; omega) gs
  exact this.imp fun {a b} hab => by simpa using hab
theorem Parts.of_perm (h : Parts n R gs) (p : gs.Perm hs) : Parts n R hs := {
  ne := fun l hl => h.ne l (p.mem_iff.2 hl)
  up := fun l hl => h.up l (p.mem_iff.2 hl)
  nd := (p.flatten.nodup_iff).1 h.nd
  all := fun y => by rw [← p.flatten.mem_iff]; exact h.all y
  one := fun l hl => h.one l (p.mem_iff.2 hl) }
theorem Parts.sorted (h : Parts n R gs) : Parts n R (sortG gs) := h.of_perm (sortG_perm gs).symm
theorem Parts.rel (h : Parts n R gs) (hR : ∀ y z, y < n → z < n → (R y z ↔ R' y z)) (hb : ∀ y z, y < n → R' y z → R' z y → z < n) : Parts n R' gs := {
  ne := h.ne
  up := h.up
  nd := h.nd
  all := h.all
  one := fun l hl y hy z => by
    have hyn := (h.all y).1 (List.mem_flatten.2 ⟨l, hl, hy⟩)
    constructor
    · intro hz
      have hzn := (h.all z).1 (List.mem_flatten.2 ⟨l, hl, hz⟩)
      have := (h.one l hl y hy z).1 hz
      exact ⟨(hR y z hyn hzn).1 this.1, (hR z y hzn hyn).1 this.2⟩
    · rintro ⟨h1, h2⟩
      have hzn := hb y z hyn h1 h2
      exact (h.one l hl y hy z).2 ⟨(hR y z hyn hzn).2 h1, (hR z y hzn hyn).2 h2⟩ }
/-- Two that part the same nodes by the same relation, and rise by their first nodes, are one. -/
theorem Parts.unique (h : Parts n R gs) (k : Parts n R' hs) (hR : ∀ y z, y < n → z < n → (R y z ↔ R' y z)) (h1 : gs.Pairwise fun a b => a.headD 0 ≤ b.headD 0) (h2 : hs.Pairwise fun a b => a.headD 0 ≤ b.headD 0) : gs = hs := by
  refine List.Perm.eq_of_pairwise (fun a b ha hb h3 h4 => ?_) h1 h2 (h.perm k hR)
  have hb' : b ∈ gs := k.sub h (fun y z hy hz => (hR y z hy hz).symm) hb
  have he : a.headD 0 = b.headD 0 := by omega
  have hp := flatten_apart h.nd
  have ma := head_mem (h.ne a ha)
  have mb := head_mem (h.ne b hb')
  rw [← he] at mb
  exact rising_eq (h.up a ha) (h.up b hb') fun z => by rw [h.one a ha _ ma z, h.one b hb' _ mb z]
/-- The groups of a graph, in order. -/
theorem Rch.lt {g : List (List Int)} {y z : Nat} (h : Rch (nats (edgesF g)) y z) (hy : y < g.length) : z < g.length := by
  induction h with
  | refl => exact hy
  | tail _ e _ => exact ((nats_edge g _ _).1 e).2.1
end Go.Proofs.Ythamopcfpmkbfaa
