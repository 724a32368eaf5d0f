/- What values stand for: kinds of data, read or owned. No condition. -/
import Derived.Test.YthamopcfpmkbfaaFwB
set_option linter.unusedVariables false
set_option linter.unusedSimpArgs false
namespace Go.Proofs.Fw

/-- A kind of data: how many cells it takes, and what its cells stand for: by what nobody changes, and by what is owned. -/
structure Kd (α : Type) where
  sz : Nat
  rep : PH → PH → List Value → α → Prop
  mono : ∀ {I I' h cs x}, PH.sub I I' → rep I h cs x → rep I' h cs x
  up : ∀ {I h h' cs x}, PH.sub h h' → rep I h cs x → rep I h' cs x
  len : ∀ {I h cs x}, rep I h cs x → cs.length = sz
  one : ∀ {I h cs x}, rep I h cs x → ∀ v ∈ cs, v.oneCell' = true
def Kd.Pers {α : Type} (K : Kd α) : Prop := ∀ {I h cs x}, K.rep I h cs x → K.rep I PH.empty cs x
/-- What is owned by one kind is read by the other, once nobody changes it any more. -/
def Frz {α : Type} (K K' : Kd α) : Prop := ∀ {I h cs x}, PH.disj I h → K.rep I h cs x → K'.rep (PH.un I h) PH.empty cs x
theorem Kd.Pers.frz {α : Type} {K : Kd α} (p : K.Pers) : Frz K K := fun _ r => K.mono (PH.un_left _ _) (p r)
/-- These cells stand for x. -/
def pts {α : Type} (K : Kd α) (cs : List Value) (x : α) : Res := ⟨fun I h => K.rep I h cs x, fun s r => K.mono s r, fun s r => K.up s r⟩
/-- This value, of one cell, stands for x. -/
abbrev pt {α : Type} (K : Kd α) (v : Value) (x : α) : Res := pts K [v] x

def kInt (k : IntKind) : Kd Int := ⟨1, fun _ _ cs n => cs = [.int k n] ∧ k.min ≤ n ∧ n ≤ k.max, fun _ r => r, fun _ r => r, fun r => by rw [r.1]; rfl, fun r v hv => by rw [r.1] at hv; simp at hv; subst hv; rfl⟩
def kBool : Kd Bool := ⟨1, fun _ _ cs b => cs = [.bool b], fun _ r => r, fun _ r => r, fun r => by rw [r]; rfl, fun r v hv => by rw [r] at hv; simp at hv; subst hv; rfl⟩
def kStr : Kd ByteArray := ⟨1, fun _ _ cs s => cs = [.string s] ∧ s.size ≤ maxLen, fun _ r => r, fun _ r => r, fun r => by rw [r.1]; rfl, fun r v hv => by rw [r.1] at hv; simp at hv; subst hv; rfl⟩
theorem kInt_pers (k : IntKind) : (kInt k).Pers := fun r => r
theorem kBool_pers : kBool.Pers := fun r => r
theorem kStr_pers : kStr.Pers := fun r => r

/-- The elements of a row. -/
def Elems {α : Type} (K : Kd α) (I : PH) (l : List Value) : PH → Nat → List α → Prop
  | _, _, [] => True
  | h, off, x :: xs => ∃ h1 h2, PH.disj h1 h2 ∧ PH.sub h1 h ∧ PH.sub h2 h ∧ K.rep I h1 ((l.drop off).take K.sz) x ∧ Elems K I l h2 (off + K.sz) xs
section elems
variable {α : Type} {K K' : Kd α} {I I' h h' : PH} {l l' : List Value} {off : Nat} {xs ys : List α}
theorem Elems.mono (s : PH.sub I I') : ∀ {xs : List α} {h : PH} {off : Nat}, Elems K I l h off xs → Elems K I' l h off xs
  | [], _, _, _ => trivial
  | x :: xs, _, _, ⟨h1, h2, d, s1, s2, r, e⟩ => ⟨h1, h2, d, s1, s2, K.mono s r, e.mono s⟩
theorem Elems.up (s : PH.sub h h') (e : Elems K I l h off xs) : Elems K I l h' off xs := by
  cases xs with
  | nil => trivial
  | cons x xs => obtain ⟨h1, h2, d, s1, s2, r, e⟩ := e; exact ⟨h1, h2, d, PH.sub_trans s1 s, PH.sub_trans s2 s, r, e⟩
theorem Elems.get : ∀ {xs : List α} {h : PH} {off : Nat} (i : Nat) (hi : i < xs.length), Elems K I l h off xs → ∃ h', PH.sub h' h ∧ K.rep I h' ((l.drop (off + i * K.sz)).take K.sz) xs[i]
  | x :: xs, h, off, 0, _, ⟨h1, h2, d, s1, s2, r, e⟩ => ⟨h1, s1, by simpa using r⟩
  | x :: xs, h, off, i + 1, hi, ⟨h1, h2, d, s1, s2, r, e⟩ => by
    obtain ⟨h', s', r'⟩ := Elems.get i (by simpa using hi) e
    refine ⟨h', PH.sub_trans s' s2, ?_⟩
    rw [show off + (i + 1) * K.sz = off + K.sz + i * K.sz from by rw [Nat.add_mul]; omega]
    exact r'
/-- Only the cells count. -/
theorem Elems.congr : ∀ {xs : List α} {h : PH} {off off' : Nat}, (∀ i, i < xs.length → (l.drop (off + i * K.sz)).take K.sz = (l'.drop (off' + i * K.sz)).take K.sz) → Elems K I l h off xs → Elems K I l' h off' xs
  | [], _, _, _, _, _ => trivial
  | x :: xs, h, off, off', hc, ⟨h1, h2, d, s1, s2, r, e⟩ => by
    refine ⟨h1, h2, d, s1, s2, ?_, Elems.congr (fun i hi => ?_) e⟩
    · have := hc 0 (by simp)
      simp only [Nat.zero_mul, Nat.add_zero] at this
      rw [← this]; exact r
    · have := hc (i + 1) (by simpa using hi)
      rw [show off + (i + 1) * K.sz = off + K.sz + i * K.sz from by rw [Nat.add_mul]; omega, show off' + (i + 1) * K.sz = off' + K.sz + i * K.sz from by rw [Nat.add_mul]; omega] at this
      exact this
theorem Elems.fits : ∀ {xs : List α} {h : PH} {off : Nat}, 0 < K.sz → Elems K I l h off xs → xs = [] ∨ off + xs.length * K.sz ≤ l.length
  | [], _, _, _, _ => .inl rfl
  | x :: xs, h, off, hs, ⟨h1, h2, d, s1, s2, r, e⟩ => by
    refine .inr ?_
    have := K.len r
    simp only [List.length_take, List.length_drop] at this
    rcases Elems.fits hs e with h0 | h0
    · subst h0; simp; omega
    · simp only [List.length_cons, Nat.add_mul, Nat.one_mul]; omega
theorem Elems.append {g : PH} : ∀ {xs ys : List α} {h h' : PH} {off : Nat}, PH.disj h g → PH.sub h h' → PH.sub g h' → Elems K I l h off xs → Elems K I l g (off + xs.length * K.sz) ys → Elems K I l h' off (xs ++ ys)
  | [], ys, h, h', off, d, s, t, e, f => by simpa using Elems.up t (by simpa using f)
  | x :: xs, ys, h, h', off, d, s, t, ⟨h1, h2, d', s1, s2, r, e⟩, f => by
    have dg : PH.disj h2 g := PH.disj_symm (PH.disj_sub (PH.disj_symm d) s2)
    have dg1 : PH.disj h1 g := PH.disj_symm (PH.disj_sub (PH.disj_symm d) s1)
    refine ⟨h1, PH.un h2 g, PH.disj_un d' dg1, PH.sub_trans s1 s, PH.un_sub (PH.sub_trans s2 s) t, r, Elems.append (h' := PH.un h2 g) dg (PH.un_left _ _) (PH.un_right dg) e ?_⟩
    rw [show off + K.sz + xs.length * K.sz = off + (x :: xs).length * K.sz from by simp [Nat.add_mul]; omega]
    exact f
theorem Elems.split : ∀ {xs ys : List α} {h : PH} {off : Nat}, Elems K I l h off (xs ++ ys) → ∃ h1 h2, PH.disj h1 h2 ∧ PH.sub h1 h ∧ PH.sub h2 h ∧ Elems K I l h1 off xs ∧ Elems K I l h2 (off + xs.length * K.sz) ys
  | [], ys, h, off, e => ⟨PH.empty, h, PH.empty_disj _, PH.empty_sub _, PH.sub_refl _, trivial, by simpa using e⟩
  | x :: xs, ys, h, off, ⟨h1, h2, d, s1, s2, r, e⟩ => by
    obtain ⟨g1, g2, d', t1, t2, e1, e2⟩ := Elems.split e
    refine ⟨PH.un h1 g1, g2, PH.un_disj (PH.disj_sub d t2) d', PH.un_sub s1 (PH.sub_trans t1 s2), PH.sub_trans t2 s2, ⟨h1, g1, PH.disj_sub d t1, PH.un_left _ _, PH.un_right (PH.disj_sub d t1), r, e1⟩, ?_⟩
    rw [show off + (x :: xs).length * K.sz = off + K.sz + xs.length * K.sz from by simp [Nat.add_mul]; omega]
    exact e2
theorem Elems.frz (f : Frz K K') (hsz : K.sz = K'.sz) : ∀ {xs : List α} {h : PH} {off : Nat}, PH.disj I h → Elems K I l h off xs → Elems K' (PH.un I h) l PH.empty off xs
  | [], _, _, _, _ => trivial
  | x :: xs, h, off, d, ⟨h1, h2, d', s1, s2, r, e⟩ => by
    refine ⟨PH.empty, PH.empty, PH.disj_empty _, PH.empty_sub _, PH.empty_sub _, ?_, ?_⟩
    · have := f (PH.disj_sub d s1) r
      rw [← hsz]
      exact K'.mono (PH.un_sub (PH.un_left _ _) (PH.sub_trans s1 (PH.un_right d))) this
    · have := Elems.frz f hsz (PH.disj_sub d s2) e
      rw [← hsz]
      exact this.mono (PH.un_sub (PH.un_left _ _) (PH.sub_trans s2 (PH.un_right d)))
theorem Elems.pers (p : K.Pers) : ∀ {xs : List α} {h : PH} {off : Nat}, Elems K I l h off xs → Elems K I l PH.empty off xs
  | [], _, _, _ => trivial
  | x :: xs, h, off, ⟨h1, h2, d, s1, s2, r, e⟩ => ⟨PH.empty, PH.empty, PH.disj_empty _, PH.empty_sub _, PH.empty_sub _, p r, Elems.pers p e⟩
end elems

/-- A slice that is read. -/
def rs {α : Type} (K : Kd α) : Kd (List α) := {
  sz := 1
  rep I h cs xs := ∃ A c, cs = [.slice A xs.length c] ∧ xs.length ≤ c ∧ c ≤ maxLen ∧ (xs = [] ∨ ∃ b off cells e fr, A = some ⟨b, off, none⟩ ∧ I b = some (.cells cells e fr) ∧ Elems K I cells.toList PH.empty off xs)
  mono s := fun ⟨A, c, h1, h2, h3, h4⟩ => ⟨A, c, h1, h2, h3, h4.imp id fun ⟨b, off, cells, e, fr, k1, k2, k3⟩ => ⟨b, off, cells, e, fr, k1, s _ _ k2, k3.mono s⟩⟩
  up s r := r
  len := fun ⟨A, c, h1, _⟩ => by rw [h1]; rfl
  one := fun ⟨A, c, h1, _⟩ v hv => by rw [h1] at hv; simp at hv; subst hv; rfl }
theorem rs_pers {α : Type} (K : Kd α) : (rs K).Pers := fun r => r
/-- A slice that is owned, its elements' type being e. -/
def os {α : Type} (e : TypeId) (K : Kd α) : Kd (List α) := {
  sz := 1
  rep I h cs xs := (cs = [.slice none 0 0] ∧ xs = []) ∨ ∃ b cap cells h', cs = [.slice (some ⟨b, 0, none⟩) xs.length cap] ∧ h b = some (.cells cells e (0, 0)) ∧ h' b = none ∧ PH.sub h' h ∧ xs.length ≤ cap ∧ cap ≤ maxLen ∧ cells.size = cap * K.sz ∧ Elems K I cells.toList h' 0 xs
  mono s := fun r => r.imp id fun ⟨b, cap, cells, h', k1, k2, k3, k4, k5, k6, k7, k8⟩ => ⟨b, cap, cells, h', k1, k2, k3, k4, k5, k6, k7, k8.mono s⟩
  up s := fun r => r.imp id fun ⟨b, cap, cells, h', k1, k2, k3, k4, k5, k6, k7, k8⟩ => ⟨b, cap, cells, h', k1, s _ _ k2, k3, PH.sub_trans k4 s, k5, k6, k7, k8⟩
  len := fun r => by rcases r with ⟨h, _⟩ | ⟨b, cap, cells, h', h, _⟩ <;> rw [h] <;> rfl
  one := fun r v hv => by rcases r with ⟨h, _⟩ | ⟨b, cap, cells, h', h, _⟩ <;> rw [h] at hv <;> simp at hv <;> subst hv <;> rfl }
theorem os_frz {α : Type} {e : TypeId} {K K' : Kd α} (f : Frz K K') (hsz : K.sz = K'.sz) : Frz (os e K) (rs K') := by
  intro I h cs xs d r
  rcases r with ⟨h1, h2⟩ | ⟨b, cap, cells, h', k1, k2, k3, k4, k5, k6, k7, k8⟩
  · subst h2; exact ⟨none, 0, h1, Nat.le_refl _, Nat.zero_le _, .inl rfl⟩
  · refine ⟨_, cap, k1, k5, k6, .inr ⟨b, 0, cells, e, (0, 0), rfl, PH.un_right d _ _ k2, ?_⟩⟩
    exact (Elems.frz f hsz (PH.disj_sub d k4) k8).mono (PH.un_sub (PH.un_left _ _) (PH.sub_trans k4 (PH.un_right d)))

variable {w0 w w' : World} {L L' : List Res} {α : Type} {K K' : Kd α} {v u : Value} {cs : List Value} {x : α} {xs ys : List α} {e : TypeId}
theorem St.frz (f : Frz K K') (h : St w0 (pts K cs x :: L) w) : St w0 (pts K' cs x :: L) w := by
  obtain ⟨I, g, d, a, c, h1, h2, d2, s1, s2, r, l⟩ := h.mem
  have d1 : PH.disj I h1 := PH.disj_sub d s1
  refine ⟨h.b1, h.b2, h.b3, PH.un I h1, h2, PH.un_disj (PH.disj_sub d s2) d2, ?_, PH.le_sub c s2, PH.empty, h2, PH.empty_disj _, PH.empty_sub _, PH.sub_refl _, f d1 r, l.mono (PH.un_left _ _)⟩
  intro b o e
  unfold PH.un at e
  split at e
  · rename_i u hu; cases e; exact a b _ hu
  · exact c b o (s1 b o e)
theorem St.dup (p : K.Pers) (h : St w0 (pts K cs x :: L) w) : St w0 (pts K cs x :: pts K cs x :: L) w := by
  obtain ⟨I, g, d, a, c, h1, h2, d2, s1, s2, r, l⟩ := h.mem
  exact ⟨h.b1, h.b2, h.b3, I, g, d, a, c, PH.empty, g, PH.empty_disj _, PH.empty_sub _, PH.sub_refl _, p r, h1, h2, d2, s1, s2, r, l⟩
theorem St.add (h : St w0 L w) (r : K.rep PH.empty PH.empty cs x) : St w0 (pts K cs x :: L) w := by
  obtain ⟨I, g, d, a, c, s⟩ := h.mem
  exact ⟨h.b1, h.b2, h.b3, I, g, d, a, c, PH.empty, g, PH.empty_disj _, PH.empty_sub _, PH.sub_refl _, K.mono (PH.empty_sub _) r, s⟩
theorem St.addInt (h : St w0 L w) (k : IntKind) (n : Int) (h1 : k.min ≤ n) (h2 : n ≤ k.max) : St w0 (pt (kInt k) (.int k n) n :: L) w := h.add ⟨rfl, h1, h2⟩
theorem St.addBool (h : St w0 L w) (b : Bool) : St w0 (pt kBool (.bool b) b :: L) w := h.add rfl
theorem St.addStr (h : St w0 L w) (s : ByteArray) (hs : s.size ≤ maxLen) : St w0 (pt kStr (.string s) s :: L) w := h.add ⟨rfl, hs⟩
/-- What the memory says of the first resource. -/
theorem St.rep (h : St w0 (pts K cs x :: L) w) : ∃ I g, PH.le I w ∧ PH.le g w ∧ K.rep I g cs x := by
  obtain ⟨I, g, d, a, c, h1, h2, d2, s1, s2, r, l⟩ := h.mem
  exact ⟨I, h1, a, PH.le_sub c s1, r⟩
theorem St.int {k : IntKind} {n : Int} (h : St w0 (pt (kInt k) v n :: L) w) : v = .int k n ∧ k.min ≤ n ∧ n ≤ k.max := by
  obtain ⟨I, g, _, _, r⟩ := h.rep
  obtain ⟨r1, r2⟩ := r
  exact ⟨by simpa using r1, r2⟩
theorem St.bool {b : Bool} (h : St w0 (pt kBool v b :: L) w) : v = .bool b := by
  obtain ⟨I, g, _, _, r⟩ := h.rep
  have r' : [v] = [Value.bool b] := r
  simpa using r'
theorem St.str {s : ByteArray} (h : St w0 (pt kStr v s :: L) w) : v = .string s ∧ s.size ≤ maxLen := by
  obtain ⟨I, g, _, _, r⟩ := h.rep
  obtain ⟨r1, r2⟩ := r
  exact ⟨by simpa using r1, r2⟩
theorem St.rs_form (h : St w0 (pt (rs K) v xs :: L) w) : ∃ A c, v = .slice A xs.length c ∧ xs.length ≤ c ∧ c ≤ maxLen := by
  obtain ⟨I, g, _, _, r⟩ := h.rep
  obtain ⟨A, c, r1, r2, r3, _⟩ := r
  exact ⟨A, c, by simpa using r1, r2, r3⟩
theorem St.os_form (h : St w0 (pt (os e K) v xs :: L) w) : ∃ A c, v = .slice A xs.length c ∧ xs.length ≤ c ∧ c ≤ maxLen := by
  obtain ⟨I, g, _, _, r⟩ := h.rep
  rcases r with ⟨r1, r2⟩ | ⟨b, cap, cells, h', k1, k2, k3, k4, k5, k6, k7, k8⟩
  · subst r2; exact ⟨none, 0, by simpa using r1, by simp, Nat.zero_le _⟩
  · exact ⟨_, cap, by simpa using k1, k5, k6⟩
theorem cell_le {I : PH} {w : World} (hl : PH.le I w) {b : Nat} {cells : Array Value} {e : TypeId} {fr : Nat × Nat} (hb : I b = some (.cells cells e fr)) (j : Nat) : w.cell? ⟨b, j, none⟩ = cells[j]? := by
  simp [World.cell?, hl b _ hb]
theorem addr_add (b off j : Nat) : (⟨b, off, none⟩ : Addr).add j = ⟨b, off + j, none⟩ := by
  unfold Addr.add
  split <;> simp_all
theorem cell_of_take {l : List Value} {j : Nat} {v : Value} (h : (l.drop j).take 1 = [v]) : l[j]? = some v := by
  cases hd : l.drop j with
  | nil => rw [hd] at h; simp at h
  | cons x r =>
    rw [hd] at h
    simp at h
    subst h
    have := congrArg (·[0]?) hd
    simpa using this
theorem take_one {l : List Value} {j : Nat} (h : ((l.drop j).take 1).length = 1) : ∃ v, (l.drop j).take 1 = [v] := by
  match hl : (l.drop j).take 1, h with
  | [v], _ => exact ⟨v, rfl⟩
/-- An element that is read, of one cell. -/
theorem St.rs_cell (h : St w0 (pt (rs K) v xs :: L) w) (hs : K.sz = 1) {A : Option Addr} {l c : Nat} (hv : v = .slice A l c) (i : Nat) (hi : i < xs.length) :
    ∃ ad u, A = some ad ∧ w.cell? (ad.add i) = some u ∧ St w0 (pt K u xs[i] :: pt (rs K) v xs :: L) w := by
  obtain ⟨I, g, d, a, cc, h1, h2, d2, s1, s2, r, l⟩ := h.mem
  obtain ⟨A', c', r1, r2, r3, r4⟩ := r
  rcases r4 with r4 | ⟨b, off, cells, e, fr, k1, k2, k3⟩
  · subst r4; simp at hi
  · subst hv
    simp at r1
    obtain ⟨rfl, rfl, rfl⟩ := r1
    obtain ⟨h', s', r'⟩ := Elems.get i hi k3
    have hlen := K.len r'
    rw [hs] at hlen
    simp only [hs, Nat.mul_one] at r' hlen
    obtain ⟨u, hu⟩ := take_one hlen
    rw [hu] at r'
    refine ⟨_, u, k1, ?_, ⟨h.b1, h.b2, h.b3, I, g, d, a, cc, PH.empty, g, PH.empty_disj _, PH.empty_sub _, PH.sub_refl _, K.up s' r', h1, h2, d2, s1, s2, ⟨A, c, rfl, r2, r3, .inr ⟨b, off, cells, e, fr, k1, k2, k3⟩⟩, l⟩⟩
    rw [addr_add, cell_le a k2]
    have := cell_of_take hu
    simpa using this
/-- An element of what is owned, the element itself being read alone. -/
theorem St.os_cell (h : St w0 (pt (os e K) v xs :: L) w) (hs : K.sz = 1) (p : K.Pers) {A : Option Addr} {l c : Nat} (hv : v = .slice A l c) (i : Nat) (hi : i < xs.length) :
    ∃ ad u, A = some ad ∧ w.cell? (ad.add i) = some u ∧ St w0 (pt K u xs[i] :: pt (os e K) v xs :: L) w := by
  obtain ⟨I, g, d, a, cc, h1, h2, d2, s1, s2, r, l⟩ := h.mem
  have r0 := r
  rcases r with ⟨r1, r2⟩ | ⟨b, cap, cells, h', k1, k2, k3, k4, k5, k6, k7, k8⟩
  · subst r2; simp at hi
  · subst hv
    simp at k1
    obtain ⟨rfl, rfl, rfl⟩ := k1
    obtain ⟨g', s', r'⟩ := Elems.get i hi k8
    have hlen := K.len r'
    rw [hs] at hlen
    simp only [hs, Nat.mul_one] at r' hlen
    obtain ⟨u, hu⟩ := take_one hlen
    rw [hu] at r'
    refine ⟨_, u, rfl, ?_, ⟨h.b1, h.b2, h.b3, I, g, d, a, cc, PH.empty, g, PH.empty_disj _, PH.empty_sub _, PH.sub_refl _, p r', h1, h2, d2, s1, s2, r0, l⟩⟩
    rw [addr_add, cell_le (PH.le_sub cc s1) k2]
    have := cell_of_take hu
    simpa using this
end Go.Proofs.Fw
