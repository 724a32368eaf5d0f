/- The walk: an owned slice taken apart into its block and what its elements own, and put together again, in whatever order. No condition. -/
import Derived.Test.YthamopcfpmkbfaaFwQ
set_option linter.unusedVariables false
set_option linter.unusedSimpArgs false
namespace Go.Proofs.Fw
variable {P : Program} {w w' : World} {w0 : World} {L L' : List Res} {α : Type} {Kx : Kd α} {e : TypeId} {v u : Value} {x : α} {xs ys : List α}
/-- What each of some values stands for. -/
def each (Kx : Kd α) : List (Value × α) → List Res
  | [] => []
  | p :: r => pt Kx p.1 p.2 :: each Kx r
theorem each_eq (Kx : Kd α) : ∀ ps : List (Value × α), each Kx ps = ps.map fun p => pt Kx p.1 p.2
  | [] => rfl
  | p :: r => by simp [each, each_eq Kx r]
theorem each_perm (Kx : Kd α) {ps qs : List (Value × α)} (h : ps.Perm qs) : (each Kx ps).Perm (each Kx qs) := by
  rw [each_eq, each_eq]; exact h.map _
theorem elems_each {I : PH} {l : List Value} (hs : Kx.sz = 1) : ∀ {xs : List α} {h : PH} {off : Nat}, Elems Kx I l h off xs → ∃ vs : List Value, vs.length = xs.length ∧ (∀ i v, vs[i]? = some v → l[off + i]? = some v) ∧ Sep I (each Kx (vs.zip xs)) h
  | [], h, off, _ => ⟨[], rfl, fun i v hv => by simp at hv, trivial⟩
  | x :: xs, h, off, ⟨h1, h2, d, s1, s2, r, e⟩ => by
    rw [hs] at r e
    have hl := Kx.len r
    rw [hs] at hl
    obtain ⟨v, hv⟩ := take_one hl
    rw [hv] at r
    obtain ⟨vs, k1, k2, k3⟩ := elems_each hs e
    refine ⟨v :: vs, by simp [k1], fun i u hu => ?_, h1, h2, d, s1, s2, r, k3⟩
    cases i with
    | zero => simp at hu; subst hu; exact cell_of_take hv
    | succ i => simp at hu; have := k2 i u hu; rw [show off + (i + 1) = off + 1 + i by omega]; exact this
theorem each_elems {I : PH} {l : List Value} (hs : Kx.sz = 1) : ∀ {ps : List (Value × α)} {h : PH} {off : Nat}, (∀ i p, ps[i]? = some p → l[off + i]? = some p.1) → Sep I (each Kx ps) h → Elems Kx I l h off (ps.map Prod.snd)
  | [], h, off, _, _ => trivial
  | p :: ps, h, off, hc, ⟨h1, h2, d, s1, s2, r, e⟩ => by
    refine ⟨h1, h2, d, s1, s2, ?_, ?_⟩
    · rw [hs, take_one_eq, show l[off]? = some p.1 by simpa using hc 0 p rfl]
      exact r
    · rw [hs]
      refine each_elems hs (fun i q hq => ?_) e
      rw [show off + 1 + i = off + (i + 1) by omega]
      exact hc (i + 1) q (by simpa using hq)
/-- Apart. -/
theorem St.os_split (hs : Kx.sz = 1) {ad : Addr} {l c : Nat} (h : St w0 (pt (os e Kx) (.slice (some ad) l c) xs :: L) w) :
    ∃ (b : Nat) (cells : Array Value) (vs : List Value), ad = ⟨b, 0, none⟩ ∧ l = xs.length ∧ cells.size = c ∧ xs.length ≤ c ∧ c ≤ maxLen ∧ vs.length = xs.length ∧ (∀ (i : Nat) (v : Value), vs[i]? = some v → cells[i]? = some v) ∧ St w0 (blk b (.cells cells e (0, 0)) :: (each Kx (vs.zip xs) ++ L)) w := by
  obtain ⟨I, g, dg, aI, cg, h1, h2, d2, s1, s2, r, l'⟩ := h.mem
  rcases r with ⟨r1, r2⟩ | ⟨b, cap, cells, h', k1, k2, k3, k4, k5, k6, k7, k8⟩
  · simp at r1
  · simp at k1
    obtain ⟨rfl, rfl, rfl⟩ := k1
    obtain ⟨vs, m1, m2, m3⟩ := elems_each hs k8
    rw [hs, Nat.mul_one] at k7
    refine ⟨b, cells, vs, rfl, rfl, k7, k5, k6, m1, fun i v hv => by have := m2 i v hv; simpa using this, h.b1, h.b2, h.b3, I, g, dg, aI, cg, ?_⟩
    have hb2 : h2 b = none := by
      rcases d2 b with e | e
      · rw [k2] at e; cases e
      · exact e
    have hd : PH.disj h' h2 := PH.disj_symm (PH.disj_sub (PH.disj_symm d2) k4)
    refine ⟨PH.one b (.cells cells e (0, 0)), PH.un h' h2, PH.disj_un (PH.one_disj k3) (PH.one_disj hb2), PH.sub_trans (PH.one_sub k2) s1, PH.un_sub (PH.sub_trans k4 s1) s2, PH.one_at _ _, ?_⟩
    exact Sep.append hd (PH.un_left _ _) (PH.un_right hd) m3 l'
/-- Together. -/
theorem St.os_join (hs : Kx.sz = 1) {b c : Nat} {cells : Array Value} {ps : List (Value × α)} (h : St w0 (blk b (.cells cells e (0, 0)) :: (each Kx ps ++ L)) w) (h1 : cells.size = c) (h2 : ps.length ≤ c) (h3 : c ≤ maxLen) (h4 : ∀ (i : Nat) (p : Value × α), ps[i]? = some p → cells[i]? = some p.1) :
    St w0 (pt (os e Kx) (.slice (some ⟨b, 0, none⟩) ps.length c) (ps.map Prod.snd) :: L) w := by
  obtain ⟨I, g, dg, aI, cg, k1, k2, d2, s1, s2, r, l'⟩ := h.mem
  obtain ⟨g1, g2, dd, t1, t2, e1, e2⟩ := Sep.split l'
  have hb2 : k2 b = none := by
    have r' : k1 b = some (.cells cells e (0, 0)) := r
    rcases d2 b with e | e
    · rw [r'] at e; cases e
    · exact e
  have hg1 : g1 b = none := by
    cases hh : g1 b with
    | none => rfl
    | some o => have := t1 b o hh; rw [hb2] at this; cases this
  have hd1 : PH.disj k1 g2 := PH.disj_sub d2 t2
  refine ⟨h.b1, h.b2, h.b3, I, g, dg, aI, cg, PH.un k1 g1, g2, PH.un_disj hd1 dd, PH.un_sub s1 (PH.sub_trans t1 s2), PH.sub_trans t2 s2, ?_, e2⟩
  refine .inr ⟨b, c, cells, g1, by simp, PH.un_left _ _ _ _ r, hg1, PH.un_right (PH.disj_sub d2 t1), by simpa using h2, h3, by rw [hs, Nat.mul_one]; exact h1, ?_⟩
  exact each_elems hs (fun i p hp => by simpa using h4 i p hp) e1
end Go.Proofs.Fw
