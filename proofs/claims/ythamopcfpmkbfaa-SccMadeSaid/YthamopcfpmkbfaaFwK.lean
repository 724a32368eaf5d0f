/- More kinds of data: natural numbers, pairs of them; a slice read as another kind. No condition. -/
import Derived.Test.YthamopcfpmkbfaaFwN
set_option linter.unusedVariables false
set_option linter.unusedSimpArgs false
namespace Go.Proofs.Fw
variable {P : Program} {n : Nat} {env : Env} {a : Act} {w w' : World} {ops : Array Oper} {K : Env → World → Prop} {rest : List Oper} {d : Nat} {ty : TypeId} {pos : String} {after : Array Edge}
variable {w0 : World} {L L' : List Res} {α β : Type} {Kx : Kd α} {Ky : Kd β} {e : TypeId} {v u : Value} {x : α} {xs ys : List α}

def big : Nat := 1152921504606846976
def kN : Kd Nat := ⟨1, fun _ _ cs m => cs = [.int .i64 (m : Int)] ∧ m ≤ big, fun _ r => r, fun _ r => r, fun r => by rw [r.1]; rfl, fun r v hv => by rw [r.1] at hv; simp at hv; subst hv; rfl⟩
theorem kN_pers : kN.Pers := fun r => r
theorem St.nat {m : Nat} (h : St w0 (pt kN v m :: L) w) : v = .int .i64 (m : Int) ∧ m ≤ 1152921504606846976 := by
  obtain ⟨I, g, _, _, r⟩ := h.rep
  obtain ⟨r1, r2⟩ := r
  exact ⟨by simpa using r1, r2⟩
theorem St.addNat (h : St w0 L w) (m : Nat) (h1 : m ≤ 1152921504606846976) : St w0 (pt kN (.int .i64 (m : Int)) m :: L) w := h.add ⟨rfl, h1⟩
/-- A struct of two numbers. -/
def kPair : Kd (Nat × Nat) := ⟨2, fun _ _ cs p => cs = [.int .i64 (p.1 : Int), .int .i64 (p.2 : Int)] ∧ p.1 ≤ big ∧ p.2 ≤ big, fun _ r => r, fun _ r => r, fun r => by rw [r.1]; rfl, fun r v hv => by
  rw [r.1] at hv
  simp at hv
  rcases hv with rfl | rfl <;> rfl⟩
theorem kPair_pers : kPair.Pers := fun r => r

/-! ### one kind as another -/
/-- Where x is of s, what stands for x by Kx stands for f x by Ky. -/
def Turns (Kx : Kd α) (Ky : Kd β) (f : α → β) (s : α → Prop) : Prop := Kx.sz = Ky.sz ∧ ∀ I h cs x, s x → Kx.rep I h cs x → Ky.rep I h cs (f x)
theorem Elems.turn {f : α → β} {s : α → Prop} (t : Turns Kx Ky f s) {I : PH} {l : List Value} : ∀ {xs : List α} {h : PH} {off : Nat}, (∀ x ∈ xs, s x) → Elems Kx I l h off xs → Elems Ky I l h off (xs.map f)
  | [], _, _, _, _ => trivial
  | x :: xs, h, off, hs, ⟨h1, h2, d, s1, s2, r, e⟩ => by
    refine ⟨h1, h2, d, s1, s2, ?_, ?_⟩
    · rw [← t.1]; exact t.2 _ _ _ _ (hs x (by simp)) r
    · have := Elems.turn t (fun y hy => hs y (by simp [hy])) e
      rw [← t.1]; exact this
theorem os_turns {f : α → β} {s : α → Prop} (t : Turns Kx Ky f s) : Turns (os e Kx) (os e Ky) (List.map f) (fun xs => ∀ x ∈ xs, s x) := by
  refine ⟨rfl, fun I h cs xs hs r => ?_⟩
  rcases r with ⟨h1, h2⟩ | ⟨b, cap, cells, h', k1, k2, k3, k4, k5, k6, k7, k8⟩
  · subst h2; exact .inl ⟨h1, rfl⟩
  · exact .inr ⟨b, cap, cells, h', by simpa using k1, k2, k3, k4, by simpa using k5, k6, by rw [← t.1]; exact k7, k8.turn t hs⟩
theorem rs_turns {f : α → β} {s : α → Prop} (t : Turns Kx Ky f s) : Turns (rs Kx) (rs Ky) (List.map f) (fun xs => ∀ x ∈ xs, s x) := by
  refine ⟨rfl, fun I h cs xs hs r => ?_⟩
  obtain ⟨A, c, h1, h2, h3, h4⟩ := r
  refine ⟨A, c, by simpa using h1, by simpa using h2, h3, ?_⟩
  rcases h4 with h4 | ⟨b, off, cells, e, fr, k1, k2, k3⟩
  · subst h4; exact .inl rfl
  · exact .inr ⟨b, off, cells, e, fr, k1, k2, k3.turn t hs⟩
theorem kI_kN : Turns (kInt .i64) kN Int.toNat (fun x => 0 ≤ x ∧ x ≤ 1152921504606846976) := by
  refine ⟨rfl, fun I h cs x hx r => ?_⟩
  obtain ⟨r1, _⟩ := r
  have : ((x.toNat : Nat) : Int) = x := by omega
  exact ⟨by rw [this]; exact r1, by unfold big; omega⟩
theorem kN_kI : Turns kN (kInt .i64) (fun m => (m : Int)) (fun _ => True) := by
  refine ⟨rfl, fun I h cs x _ r => ?_⟩
  obtain ⟨r1, r2⟩ := r
  refine ⟨r1, ?_, ?_⟩
  · rw [i64_min]; show (-9223372036854775808 : Int) ≤ (x : Int); omega
  · rw [i64_max]; unfold big at r2; show (x : Int) ≤ 9223372036854775807; omega
theorem St.turn {f : α → β} {s : α → Prop} (t : Turns Kx Ky f s) {cs : List Value} (h : St w0 (pts Kx cs x :: L) w) (hs : s x) : St w0 (pts Ky cs (f x) :: L) w := h.mapHead fun I g r => t.2 I g cs x hs r

/-! ### elements of several cells -/
/-- The cells of an element of what is owned. -/
theorem St.os_cells (h : St w0 (pt (os e Kx) v xs :: L) w) (p : Kx.Pers) {A : Option Addr} {l c : Nat} (hv : v = .slice A l c) (i : Nat) (hi : i < xs.length) :
    ∃ ad cs, A = some ad ∧ (∀ j u, cs[j]? = some u → w.cell? (ad.add (i * Kx.sz + j)) = some u) ∧ St w0 (pts Kx cs xs[i] :: pt (os e Kx) v xs :: L) w := by
  obtain ⟨I, g, d, a, cc, h1, h2, d2, s1, s2, r, l⟩ := h.mem
  have r0 := r
  rcases r with ⟨r1, r2⟩ | ⟨b, cap, cells, h', k1, k2, k3, k4, k5, k6, k7, k8⟩
  · subst r2; simp at hi
  · subst hv
    simp at k1
    obtain ⟨rfl, rfl, rfl⟩ := k1
    obtain ⟨g', s', r'⟩ := Elems.get i hi k8
    refine ⟨_, _, rfl, ?_, ⟨h.b1, h.b2, h.b3, I, g, d, a, cc, PH.empty, g, PH.empty_disj _, PH.empty_sub _, PH.sub_refl _, p r', h1, h2, d2, s1, s2, r0, l⟩⟩
    intro j u hu
    rw [addr_add, Nat.zero_add, cell_le (PH.le_sub cc s1) k2]
    rw [List.getElem?_take] at hu
    split at hu
    · simpa using hu
    · cases hu
theorem St.pair {cs : List Value} {p : Nat × Nat} (h : St w0 (pts kPair cs p :: L) w) : cs = [.int .i64 (p.1 : Int), .int .i64 (p.2 : Int)] ∧ p.1 ≤ 1152921504606846976 ∧ p.2 ≤ 1152921504606846976 := by
  obtain ⟨I, g, _, _, r⟩ := h.rep
  exact r
theorem add_add (ad : Addr) (i j : Nat) (h : ad.spot = none) : (ad.add i).add j = ad.add (i + j) := by
  obtain ⟨b, o, s⟩ := ad
  simp at h
  subst h
  rw [addr_add, addr_add, addr_add, Nat.add_assoc]
/-- One cell of an element is written. -/
theorem St.os_setCell (h : St w0 (pt (os e Kx) v xs :: L) w) (flat : ∀ {I h cs x}, Kx.rep I h cs x → Kx.rep PH.empty PH.empty cs x) {A : Option Addr} {l c : Nat} (hv : v = .slice A l c) (i j : Nat) (hi : i < xs.length) (hj : j < Kx.sz) (x' : α) (u : Value)
    (hu : ∀ cs, Kx.rep PH.empty PH.empty cs xs[i] → Kx.rep PH.empty PH.empty (cs.set j u) x') :
    ∃ ad y, A = some ad ∧ ad.spot = none ∧ w.cell? (ad.add (i * Kx.sz + j)) = some y ∧ w.frozen? (ad.add (i * Kx.sz + j)) = false ∧ St w0 (pt (os e Kx) v (xs.set i x') :: L) (w.setCell (ad.add (i * Kx.sz + j)) u) := by
  have hmem := h.mem
  obtain ⟨I, g, dg, aI, cg, h1, h2, d2, s1, s2, r, l'⟩ := h.mem
  rcases r with ⟨r1, r2⟩ | ⟨b, cap, cells, h', k1, k2, k3, k4, k5, k6, k7, k8⟩
  · subst r2; simp at hi
  · subst hv
    simp at k1
    obtain ⟨rfl, rfl, rfl⟩ := k1
    have hblk : St w0 (blk b (.cells cells e (0, 0)) :: L) w := ⟨h.b1, h.b2, h.b3, I, g, dg, aI, cg, h1, h2, d2, s1, s2, k2, l'⟩
    have hfit : (i + 1) * Kx.sz ≤ cells.size := by rw [k7]; exact Nat.mul_le_mul_right _ (by omega)
    have hlt : i * Kx.sz + j < cells.size := by rw [Nat.add_mul, Nat.one_mul] at hfit; omega
    have hnew := hblk.setCell (off := i * Kx.sz + j) u
    refine ⟨_, (cells[i * Kx.sz + j]?).getD undef, rfl, rfl, ?_, ?_, ?_⟩
    · rw [addr_add, Nat.zero_add, hblk.blk_cell]; simp [hlt]
    · rw [addr_add]; exact hblk.blk_free
    · rw [addr_add, Nat.zero_add]
      refine hnew.mapHead fun I2 g2 r2 => ?_
      refine .inr ⟨b, c, cells.setIfInBounds (i * Kx.sz + j) u, PH.empty, by simp, r2, rfl, PH.empty_sub _, by simpa using k5, k6, by simpa using k7, ?_⟩
      have hE : Elems Kx PH.empty cells.toList PH.empty 0 xs := by
        clear hu hi k5 k7
        have : ∀ {xs : List α} {h : PH} {off : Nat}, Elems Kx I cells.toList h off xs → Elems Kx PH.empty cells.toList PH.empty off xs := by
          intro xs
          induction xs with
          | nil => intro h off e; trivial
          | cons y ys ih =>
            rintro h off ⟨g1, g2, dd, t1, t2, r, e⟩
            exact ⟨PH.empty, PH.empty, PH.disj_empty _, PH.sub_refl _, PH.sub_refl _, flat r, ih e⟩
        exact this k8
      have : ∀ (xs : List α) (off i : Nat) (hi : i < xs.length), off + xs.length * Kx.sz ≤ cells.toList.length → Elems Kx PH.empty cells.toList PH.empty off xs → (∀ cs, Kx.rep PH.empty PH.empty cs xs[i] → Kx.rep PH.empty PH.empty (cs.set j u) x') →
          Elems Kx PH.empty (cells.toList.set (off + (i * Kx.sz + j)) u) PH.empty off (xs.set i x') := by
        intro xs
        induction xs with
        | nil => intro off i hi; simp at hi
        | cons y ys ih =>
          intro off i hi hlen hE hset
          obtain ⟨g1, g2, dd, t1, t2, r, e⟩ := hE
          cases i with
          | zero =>
            refine ⟨g1, g2, dd, t1, t2, ?_, ?_⟩
            · have h0 := hset _ (flat r)
              have e1 : ((cells.toList.set (off + (0 * Kx.sz + j)) u).drop off).take Kx.sz = ((cells.toList.drop off).take Kx.sz).set j u := by
                rw [Nat.zero_mul, Nat.zero_add, List.drop_set, if_neg (by omega), Nat.add_sub_cancel_left, List.take_set]
              rw [e1]
              exact Kx.mono (PH.empty_sub _) (Kx.up (PH.empty_sub _) h0)
            · refine Elems.congr (fun k hk => ?_) e
              rw [List.drop_set, if_pos (by omega)]
          | succ i =>
            refine ⟨g1, g2, dd, t1, t2, ?_, ?_⟩
            · have e1 : ((cells.toList.set (off + ((i + 1) * Kx.sz + j)) u).drop off).take Kx.sz = (cells.toList.drop off).take Kx.sz := by
                rw [List.drop_set, if_neg (by omega), List.take_set_of_le (by rw [Nat.add_mul]; omega)]
              rw [e1]; exact r
            · have hi' : i < ys.length := by simpa using hi
              have hlen' : off + Kx.sz + ys.length * Kx.sz ≤ cells.toList.length := by simp only [List.length_cons, Nat.add_mul, Nat.one_mul] at hlen; omega
              have g2e : g2 = PH.empty := by
                funext b
                cases hg : g2 b with
                | none => rfl
                | some o => exact absurd (t2 b o hg) (by simp [PH.empty])
              subst g2e
              have := ih (off + Kx.sz) i hi' hlen' e (by simpa using hset)
              rw [show off + ((i + 1) * Kx.sz + j) = off + Kx.sz + (i * Kx.sz + j) from by rw [Nat.add_mul]; omega]
              exact this
      have hl : 0 + xs.length * Kx.sz ≤ cells.toList.length := by
        have : xs.length * Kx.sz ≤ c * Kx.sz := Nat.mul_le_mul_right _ k5
        have h3 : cells.toList.length = cells.size := Array.length_toList
        omega
      have fin := this xs 0 i hi hl hE hu
      rw [Nat.zero_add] at fin
      have hcl : (cells.setIfInBounds (i * Kx.sz + j) u).toList = cells.toList.set (i * Kx.sz + j) u := by simp
      rw [hcl]
      exact fin.mono (PH.empty_sub _)
/-- A cut of what is owned: its first elements. -/
theorem St.os_cut {ad : Addr} {l c : Nat} (h : St w0 (pt (os e Kx) (.slice (some ad) l c) xs :: L) w) (i : Nat) (hi : i ≤ xs.length) : St w0 (pt (os e Kx) (.slice (some ad) i c) (xs.take i) :: L) w := by
  refine h.mapHead fun I g r => ?_
  rcases r with ⟨r1, r2⟩ | ⟨b, cap, cells, h', k1, k2, k3, k4, k5, k6, k7, k8⟩
  · simp at r1
  · simp at k1
    obtain ⟨rfl, rfl, rfl⟩ := k1
    rw [← List.take_append_drop i xs] at k8
    obtain ⟨g1, g2, dd, t1, t2, e1, e2⟩ := Elems.split k8
    refine .inr ⟨b, c, cells, g1, ?_, k2, ?_, PH.sub_trans t1 k4, ?_, k6, k7, e1⟩
    · have : (xs.take i).length = i := by rw [List.length_take]; omega
      rw [this]
    · cases hh : g1 b with
      | none => rfl
      | some o => rw [t1 b o hh] at k3; cases k3
    · rw [List.length_take]; omega
end Go.Proofs.Fw
