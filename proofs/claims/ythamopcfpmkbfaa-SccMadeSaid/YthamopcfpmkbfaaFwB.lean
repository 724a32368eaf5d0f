/- What memory holds, told as a list of resources; what is only read, and what is owned. No condition. -/
import Derived.Test.YthamopcfpmkbfaaFwA
import Derived.Deep.Draws
set_option linter.unusedVariables false
set_option linter.unusedSimpArgs false
namespace Go.Proofs.Fw

/-! ### parts of a heap -/
abbrev PH := Nat → Option Obj
namespace PH
def empty : PH := fun _ => none
def one (b : Nat) (o : Obj) : PH := fun c => if c = b then some o else none
def sub (h g : PH) : Prop := ∀ b o, h b = some o → g b = some o
def disj (h g : PH) : Prop := ∀ b, h b = none ∨ g b = none
def un (h g : PH) : PH := fun b => match h b with | some o => some o | none => g b
def le (h : PH) (w : World) : Prop := ∀ b o, h b = some o → w.heap[b]? = some o
theorem sub_refl (h : PH) : sub h h := fun _ _ e => e
theorem sub_trans {a b c : PH} (h : sub a b) (k : sub b c) : sub a c := fun x o e => k x o (h x o e)
theorem empty_sub (h : PH) : sub empty h := fun _ _ e => nomatch e
theorem disj_symm {h g : PH} (d : disj h g) : disj g h := fun b => (d b).symm
theorem disj_sub {h g k : PH} (d : disj h g) (s : sub k g) : disj h k := fun b => by
  rcases d b with e | e
  · exact .inl e
  · refine .inr ?_
    cases hk : k b with
    | none => rfl
    | some o => rw [s b o hk] at e; cases e
theorem disj_sub2 {h g h' g' : PH} (d : disj h g) (s : sub h' h) (t : sub g' g) : disj h' g' := disj_symm (disj_sub (disj_symm (disj_sub d t)) s)
theorem disj_empty (h : PH) : disj h empty := fun _ => .inr rfl
theorem empty_disj (h : PH) : disj empty h := fun _ => .inl rfl
theorem un_left (h g : PH) : sub h (un h g) := fun b o e => by simp [un, e]
theorem un_right {h g : PH} (d : disj h g) : sub g (un h g) := fun b o e => by
  rcases d b with k | k
  · simp [un, k, e]
  · rw [k] at e; cases e
theorem un_sub {h g k : PH} (a : sub h k) (b : sub g k) : sub (un h g) k := fun x o e => by
  unfold un at e
  cases hx : h x with
  | none => simp only [hx] at e; exact b x o e
  | some u => simp only [hx] at e; cases e; exact a x _ hx
theorem un_disj {h g k : PH} (a : disj h k) (b : disj g k) : disj (un h g) k := fun x => by
  rcases a x with e | e
  · rcases b x with f | f
    · exact .inl (by simp [un, e, f])
    · exact .inr f
  · exact .inr e
theorem disj_un {h g k : PH} (a : disj k h) (b : disj k g) : disj k (un h g) := disj_symm (un_disj (disj_symm a) (disj_symm b))
theorem one_at (b : Nat) (o : Obj) : one b o b = some o := by simp [one]
theorem one_sub {b : Nat} {o : Obj} {h : PH} (e : h b = some o) : sub (one b o) h := fun c u hc => by
  unfold one at hc
  split at hc
  · rename_i e'; subst e'; cases hc; exact e
  · cases hc
theorem one_disj {b : Nat} {o : Obj} {h : PH} (e : h b = none) : disj (one b o) h := fun c => by
  by_cases hc : c = b
  · subst hc; exact .inr e
  · exact .inl (by simp [one, hc])
theorem le_sub {h g : PH} {w : World} (l : le g w) (s : sub h g) : le h w := fun b o e => l b o (s b o e)
end PH

/-! ### resources -/
structure Res where
  p : PH → PH → Prop
  mono : ∀ {I I' h}, PH.sub I I' → p I h → p I' h
  /-- it may stand in more memory than it needs -/
  up : ∀ {I h h'}, PH.sub h h' → p I h → p I h'
def Sep (I : PH) : List Res → PH → Prop
  | [], _ => True
  | R :: L, h => ∃ h1 h2, PH.disj h1 h2 ∧ PH.sub h1 h ∧ PH.sub h2 h ∧ R.p I h1 ∧ Sep I L h2
theorem Sep.up {I : PH} {L : List Res} {h h' : PH} (s : Sep I L h) (e : PH.sub h h') : Sep I L h' := by
  cases L with
  | nil => trivial
  | cons R L => obtain ⟨h1, h2, d, s1, s2, r, l⟩ := s; exact ⟨h1, h2, d, PH.sub_trans s1 e, PH.sub_trans s2 e, r, l⟩
theorem Sep.mono {I I' : PH} (e : PH.sub I I') : ∀ {L : List Res} {h : PH}, Sep I L h → Sep I' L h
  | [], _, _ => trivial
  | R :: L, _, ⟨h1, h2, d, s1, s2, r, l⟩ => ⟨h1, h2, d, s1, s2, R.mono e r, l.mono e⟩
theorem Sep.swap {I : PH} {A B : Res} {L : List Res} {h : PH} (s : Sep I (A :: B :: L) h) : Sep I (B :: A :: L) h := by
  obtain ⟨h1, h2, d, s1, s2, ra, hb, hl, d2, s3, s4, rb, l⟩ := s
  exact ⟨hb, PH.un h1 hl, PH.disj_un (PH.disj_symm (PH.disj_sub d s3)) d2, PH.sub_trans s3 s2, PH.un_sub s1 (PH.sub_trans s4 s2), rb, h1, hl,
    PH.disj_sub d s4, PH.un_left _ _, PH.un_right (PH.disj_sub d s4), ra, l⟩
theorem Sep.perm {I : PH} {L L' : List Res} (p : L.Perm L') : ∀ {h : PH}, Sep I L h → Sep I L' h := by
  induction p with
  | nil => exact fun s => s
  | cons x _ ih => rintro h ⟨h1, h2, d, s1, s2, r, l⟩; exact ⟨h1, h2, d, s1, s2, r, ih l⟩
  | swap x y l => exact fun s => s.swap
  | trans _ _ ih1 ih2 => exact fun s => ih2 (ih1 s)

structure St (w0 : World) (L : List Res) (w : World) : Prop where
  b1 : w.os = w0.os
  b2 : w.tape = w0.tape
  b3 : w.output = w0.output
  mem : ∃ I h, PH.disj I h ∧ PH.le I w ∧ PH.le h w ∧ Sep I L h
variable {w0 w w' : World} {L L' : List Res} {R : Res}
theorem St.perm (h : St w0 L w) (p : L.Perm L') : St w0 L' w := by
  obtain ⟨I, g, d, a, b, s⟩ := h.mem
  exact ⟨h.b1, h.b2, h.b3, I, g, d, a, b, s.perm p⟩
theorem St.drop (h : St w0 (R :: L) w) : St w0 L w := by
  obtain ⟨I, g, d, a, b, h1, h2, _, _, s2, _, l⟩ := h.mem
  exact ⟨h.b1, h.b2, h.b3, I, g, d, a, b, l.up s2⟩
/-- What stands at place i, brought ahead. -/
theorem perm_pick : ∀ (L : List Res) (i : Nat) (h : i < L.length), L.Perm (L[i] :: L.eraseIdx i)
  | [], i, h => by simp at h
  | x :: L, 0, h => by simp
  | x :: L, i + 1, h => by
    have := perm_pick L i (by simpa using h)
    simp only [List.getElem_cons_succ, List.eraseIdx_cons_succ]
    exact (this.cons x).trans (List.Perm.swap _ _ _)
theorem St.pick (h : St w0 L w) (i : Nat) {R : Res} {L' : List Res} (hR : L[i]? = some R) (hL : L.eraseIdx i = L') : St w0 (R :: L') w := by
  obtain ⟨hi, hR⟩ := List.getElem?_eq_some_iff.1 hR
  subst hL hR
  exact h.perm (perm_pick L i hi)
/-- The resources at some places brought ahead; the rest behind. -/
def nth : List Res → Nat → Option Res
  | [], _ => none
  | x :: _, 0 => some x
  | _ :: r, i + 1 => nth r i
def del : List Res → Nat → List Res
  | [], _ => []
  | _ :: r, 0 => r
  | x :: r, i + 1 => x :: del r i
def lower (i : Nat) : List Nat → List Nat
  | [] => []
  | j :: r => (bif Nat.ble (i + 1) j then j - 1 else j) :: lower i r
def reL : Nat → List Nat → List Res → List Res
  | n + 1, i :: is, L => match nth L i with
    | some x => x :: reL n (lower i is) (del L i)
    | none => L
  | _, _, L => L
theorem perm_nth : ∀ (L : List Res) (i : Nat) (x : Res), nth L i = some x → L.Perm (x :: del L i)
  | [], _, _, h => by simp [nth] at h
  | y :: r, 0, x, h => by simp [nth] at h; subst h; exact List.Perm.refl _
  | y :: r, i + 1, x, h => ((perm_nth r i x h).cons y).trans (List.Perm.swap _ _ _)
theorem perm_re : ∀ (n : Nat) (is : List Nat) (L : List Res), L.Perm (reL n is L)
  | 0, [], L => List.Perm.refl _
  | 0, _ :: _, L => List.Perm.refl _
  | n + 1, [], L => List.Perm.refl _
  | n + 1, i :: is, L => by
    unfold reL
    cases h : nth L i with
    | none => exact List.Perm.refl _
    | some x => exact (perm_nth L i x h).trans ((perm_re n (lower i is) (del L i)).cons x)
theorem St.re (h : St w0 L w) (is : List Nat) : St w0 (reL is.length is L) w := h.perm (perm_re _ _ _)
theorem St.mapHead {R R' : Res} (h : St w0 (R :: L) w) (f : ∀ I g, R.p I g → R'.p I g) : St w0 (R' :: L) w := by
  obtain ⟨I, g, d, a, b, h1, h2, d2, s1, s2, r, l⟩ := h.mem
  exact ⟨h.b1, h.b2, h.b3, I, g, d, a, b, h1, h2, d2, s1, s2, f _ _ r, l⟩
theorem St.same (h : St w0 L w) (hh : w'.heap = w.heap) (e1 : w'.os = w.os) (e2 : w'.tape = w.tape) (e3 : w'.output = w.output) : St w0 L w' := by
  obtain ⟨I, g, d, a, b, s⟩ := h.mem
  exact ⟨e1.trans h.b1, e2.trans h.b2, e3.trans h.b3, I, g, d, fun x o e => by rw [hh]; exact a x o e, fun x o e => by rw [hh]; exact b x o e, s⟩
theorem St.drew (h : St w0 L w) : St w0 L w.drew := h.same rfl rfl rfl rfl
theorem St.drewN (h : St w0 L w) (m : Nat) : St w0 L (w.drewN m) := h.same rfl rfl rfl rfl

/-- Some resources as one. -/
def star (L1 : List Res) : Res := ⟨fun I h => Sep I L1 h, fun s r => r.mono s, fun s r => r.up s⟩
def ex {α : Type} (f : α → Res) : Res := ⟨fun I h => ∃ x, (f x).p I h, fun s ⟨x, r⟩ => ⟨x, (f x).mono s r⟩, fun s ⟨x, r⟩ => ⟨x, (f x).up s r⟩⟩
theorem Sep.append {I : PH} : ∀ {L1 L2 : List Res} {h1 h2 h : PH}, PH.disj h1 h2 → PH.sub h1 h → PH.sub h2 h → Sep I L1 h1 → Sep I L2 h2 → Sep I (L1 ++ L2) h
  | [], L2, h1, h2, h, d, s1, s2, _, b => b.up s2
  | R :: L1, L2, h1, h2, h, d, s1, s2, ⟨a1, a2, da, t1, t2, r, a⟩, b => by
    have d22 : PH.disj a2 h2 := PH.disj_symm (PH.disj_sub (PH.disj_symm d) t2)
    have d12 : PH.disj a1 h2 := PH.disj_symm (PH.disj_sub (PH.disj_symm d) t1)
    exact ⟨a1, PH.un a2 h2, PH.disj_un da d12, PH.sub_trans t1 s1, PH.un_sub (PH.sub_trans t2 s1) s2, r, Sep.append d22 (PH.un_left _ _) (PH.un_right d22) a b⟩
theorem Sep.split {I : PH} : ∀ {L1 L2 : List Res} {h : PH}, Sep I (L1 ++ L2) h → ∃ h1 h2, PH.disj h1 h2 ∧ PH.sub h1 h ∧ PH.sub h2 h ∧ Sep I L1 h1 ∧ Sep I L2 h2
  | [], L2, h, b => ⟨PH.empty, h, PH.empty_disj _, PH.empty_sub _, PH.sub_refl _, trivial, b⟩
  | R :: L1, L2, h, ⟨a1, a2, da, t1, t2, r, a⟩ => by
    obtain ⟨g1, g2, d, s1, s2, e1, e2⟩ := Sep.split a
    exact ⟨PH.un a1 g1, g2, PH.un_disj (PH.disj_sub da s2) d, PH.un_sub t1 (PH.sub_trans s1 t2), PH.sub_trans s2 t2, ⟨a1, g1, PH.disj_sub da s1, PH.un_left _ _, PH.un_right (PH.disj_sub da s1), r, e1⟩, e2⟩
theorem St.open {L1 : List Res} (h : St w0 (star L1 :: L) w) : St w0 (L1 ++ L) w := by
  obtain ⟨I, g, d, a, b, h1, h2, d2, s1, s2, r, l⟩ := h.mem
  exact ⟨h.b1, h.b2, h.b3, I, g, d, a, b, Sep.append d2 s1 s2 r l⟩
theorem St.shut (L1 : List Res) (h : St w0 (L1 ++ L) w) : St w0 (star L1 :: L) w := by
  obtain ⟨I, g, d, a, b, s⟩ := h.mem
  obtain ⟨h1, h2, d2, s1, s2, e1, e2⟩ := Sep.split s
  exact ⟨h.b1, h.b2, h.b3, I, g, d, a, b, h1, h2, d2, s1, s2, e1, e2⟩
theorem St.unex {α : Type} {f : α → Res} (h : St w0 (ex f :: L) w) : ∃ x, St w0 (f x :: L) w := by
  obtain ⟨I, g, d, a, b, h1, h2, d2, s1, s2, ⟨x, r⟩, l⟩ := h.mem
  exact ⟨x, h.b1, h.b2, h.b3, I, g, d, a, b, h1, h2, d2, s1, s2, r, l⟩
theorem St.mkex {α : Type} {f : α → Res} (x : α) (h : St w0 (f x :: L) w) : St w0 (ex f :: L) w := h.mapHead fun I g r => ⟨x, r⟩
/-- A fact, kept as a resource. -/
def fact (p : Prop) : Res := ⟨fun _ _ => p, fun _ h => h, fun _ h => h⟩
theorem St.fact {p : Prop} (h : St w0 (fact p :: L) w) : p := by
  obtain ⟨I, g, d, a, b, h1, h2, d2, s1, s2, r, l⟩ := h.mem
  exact r
theorem St.addFact {p : Prop} (h : St w0 L w) (hp : p) : St w0 (Fw.fact p :: L) w := by
  obtain ⟨I, g, d, a, b, s⟩ := h.mem
  exact ⟨h.b1, h.b2, h.b3, I, g, d, a, b, PH.empty, g, PH.empty_disj _, PH.empty_sub _, PH.sub_refl _, hp, s⟩
/-- A block that is owned. -/
def blk (b : Nat) (o : Obj) : Res := ⟨fun _ h => h b = some o, fun _ h => h, fun s h => s _ _ h⟩
/-- A block that nobody changes any more. -/
def frz (b : Nat) (o : Obj) : Res := ⟨fun I _ => I b = some o, fun s h => s _ _ h, fun _ h => h⟩
theorem St.blk_at {b : Nat} {o : Obj} (h : St w0 (blk b o :: L) w) : w.heap[b]? = some o := by
  obtain ⟨I, g, d, a, c, h1, h2, d2, s1, s2, r, l⟩ := h.mem
  exact c b o (s1 b o r)
theorem St.frz_at {b : Nat} {o : Obj} (h : St w0 (frz b o :: L) w) : w.heap[b]? = some o := by
  obtain ⟨I, g, d, a, c, h1, h2, d2, s1, s2, r, l⟩ := h.mem
  exact a b o r
/-- A new block. -/
theorem St.alloc (h : St w0 L w) (o : Obj) : St w0 (blk w.heap.size o :: L) (w.alloc o) := by
  obtain ⟨I, g, d, a, c, s⟩ := h.mem
  have hI : I w.heap.size = none := by
    cases e : I w.heap.size with
    | none => rfl
    | some u => have := a _ _ e; simp at this
  have hg : g w.heap.size = none := by
    cases e : g w.heap.size with
    | none => rfl
    | some u => have := c _ _ e; simp at this
  have old : ∀ {k : PH}, PH.le k w → PH.le k (w.alloc o) := fun hk b u e => by
    have hb := hk b u e
    have hlt := (Array.getElem?_eq_some_iff.1 hb).1
    have : (w.alloc o).heap[b]? = w.heap[b]? := by
      show (w.heap.push o)[b]? = _
      rw [Array.getElem?_push, if_neg (Nat.ne_of_lt hlt)]
    rw [this]; exact hb
  refine ⟨h.b1, h.b2, h.b3, I, PH.un (PH.one w.heap.size o) g, ?_, old a, ?_, PH.one w.heap.size o, g, PH.one_disj hg, PH.un_left _ _, PH.un_right (PH.one_disj hg), PH.one_at _ _, s⟩
  · exact PH.disj_un (PH.disj_symm (PH.one_disj hI)) d
  · intro b u e
    unfold PH.un PH.one at e
    split at e
    · rename_i v hv
      split at hv
      · rename_i hb; subst hb; cases hv; cases e; exact heap_alloc_new w o
      · cases hv
    · exact old c b u e
/-- A block that is owned is changed. -/
theorem St.change {b : Nat} {o o' : Obj} (h : St w0 (blk b o :: L) w) (hos : w'.os = w.os) (ht : w'.tape = w.tape) (ho : w'.output = w.output)
    (hb : w'.heap[b]? = some o') (hne : ∀ c, c ≠ b → ∀ u, w.heap[c]? = some u → w'.heap[c]? = some u) : St w0 (blk b o' :: L) w' := by
  obtain ⟨I, g, d, a, c, h1, h2, d2, s1, s2, r, l⟩ := h.mem
  have h2b : h2 b = none := by
    rcases d2 b with e | e
    · have r' : h1 b = some o := r
      rw [r'] at e; cases e
    · exact e
  have hIb : I b = none := by
    rcases d b with e | e
    · exact e
    · have r' : g b = some o := s1 b o r
      rw [r'] at e; cases e
  have keep : ∀ {k : PH}, k b = none → PH.le k w → PH.le k w' := fun {k} hk hl x u e => by
    have hx : x ≠ b := fun e' => by subst e'; rw [hk] at e; cases e
    exact hne x hx u (hl x u e)
  have dI2 : PH.disj I h2 := PH.disj_sub d s2
  refine ⟨hos.trans h.b1, ht.trans h.b2, ho.trans h.b3, I, PH.un (PH.one b o') h2, PH.disj_un (PH.disj_symm (PH.one_disj hIb)) dI2, keep hIb a, ?_,
    PH.one b o', h2, PH.one_disj h2b, PH.un_left _ _, PH.un_right (PH.one_disj h2b), PH.one_at _ _, l⟩
  intro x u e
  unfold PH.un PH.one at e
  split at e
  · rename_i v hv
    split at hv
    · rename_i hx; subst hx; cases hv; cases e; exact hb
    · cases hv
  · exact keep h2b (PH.le_sub c s2) x u e
/-- A block is owned no more: nobody will change it. -/
theorem St.freeze {b : Nat} {o : Obj} (h : St w0 (blk b o :: L) w) : St w0 (frz b o :: L) w := by
  obtain ⟨I, g, d, a, c, h1, h2, d2, s1, s2, r, l⟩ := h.mem
  have r' : h1 b = some o := r
  have gb : g b = some o := s1 b o r'
  have hIb : I b = none := by
    rcases d b with e | e
    · exact e
    · rw [gb] at e; cases e
  have h2b : h2 b = none := by
    rcases d2 b with e | e
    · rw [r'] at e; cases e
    · exact e
  have dIo : PH.disj I (PH.one b o) := PH.disj_symm (PH.one_disj hIb)
  have dI2 : PH.disj I h2 := PH.disj_sub d s2
  have sI : PH.sub I (PH.un I (PH.one b o)) := PH.un_left _ _
  refine ⟨h.b1, h.b2, h.b3, PH.un I (PH.one b o), h2, PH.un_disj dI2 (PH.one_disj h2b), ?_, PH.le_sub c s2, PH.empty, h2, PH.empty_disj _, PH.empty_sub _, PH.sub_refl _, ?_, l.mono sI⟩
  · intro x u e
    unfold PH.un at e
    split at e
    · rename_i v hv; cases e; exact a x _ hv
    · exact c x u (PH.one_sub gb x u e)
  · exact PH.un_right dIo b o (PH.one_at b o)
/-- All that there was: nobody changes it. -/
def old (w0 : World) : Res := ⟨fun I _ => ∀ b o, w0.heap[b]? = some o → I b = some o, fun s h b o e => s _ _ (h b o e), fun _ h => h⟩
theorem St.start (w : World) : St w [old w] w :=
  ⟨rfl, rfl, rfl, fun b => w.heap[b]?, PH.empty, PH.disj_empty _, fun _ _ e => e, fun _ _ e => (nomatch e), PH.empty, PH.empty, PH.disj_empty _, PH.empty_sub _, PH.empty_sub _, fun _ _ e => e, trivial⟩
theorem St.old_at {w1 : World} (h : St w0 (old w1 :: L) w) {b : Nat} {o : Obj} (e : w1.heap[b]? = some o) : w.heap[b]? = some o := by
  obtain ⟨I, g, d, a, c, h1, h2, d2, s1, s2, r, l⟩ := h.mem
  exact a b o (r b o e)
end Go.Proofs.Fw
