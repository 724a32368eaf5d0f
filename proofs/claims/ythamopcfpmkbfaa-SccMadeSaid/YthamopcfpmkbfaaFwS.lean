/- The walk: what the kit's contracts of Go's library leave of the world. No condition. -/
import Derived.Test.YthamopcfpmkbfaaFwP
import Derived.Sort.Row
import Derived.Sort.Grow
import Derived.Below
set_option linter.unusedVariables false
set_option linter.unusedSimpArgs false
namespace Go.Proofs.Fw
variable {P : Program} {w w' : World} {w0 : World} {L L' : List Res} {α : Type} {Kx : Kd α} {e : TypeId} {v u : Value} {x : α} {xs ys : List α}
/-- Nothing of what is known has changed. -/
theorem St.keeps (h : St w0 L w) (hos : w'.os = w.os) (ht : w'.tape = w.tape) (ho : w'.output = w.output) (hk : ∀ (c : Nat) (u : Obj), w.heap[c]? = some u → w'.heap[c]? = some u) : St w0 L w' := by
  obtain ⟨I, g, d, a, c, s⟩ := h.mem
  exact ⟨hos.trans h.b1, ht.trans h.b2, ho.trans h.b3, I, g, d, fun b o e => hk _ _ (a b o e), fun b o e => hk _ _ (c b o e), s⟩
theorem St.below (h : St w0 L w) (hb : RowKit.Below w.heap.size w w') : St w0 L w' :=
  h.keeps hb.os hb.tape hb.output fun c u e => by rw [hb.block c (Array.getElem?_eq_some_iff.1 e).1]; exact e
/-- A block that was not there is owned. -/
theorem St.fresh (h : St w0 L w) (hb : RowKit.Below w.heap.size w w') {g : Nat} {o : Obj} (hg : w.heap.size ≤ g) (ho : w'.heap[g]? = some o) : St w0 (blk g o :: L) w' := by
  have h' := h.below hb
  obtain ⟨I, k, d, a, c, s⟩ := h.mem
  have none_at : ∀ {q : PH}, PH.le q w → q g = none := fun {q} hq => by
    cases e : q g with
    | none => rfl
    | some u =>
      have h1 := (Array.getElem?_eq_some_iff.1 (hq _ _ e)).1
      omega
  have keep : ∀ {q : PH}, PH.le q w → PH.le q w' := fun hq b o e => by
    have h1 := hq _ _ e
    rw [hb.block b (Array.getElem?_eq_some_iff.1 h1).1]
    exact h1
  have hI := none_at a
  have hk := none_at c
  refine ⟨h'.b1, h'.b2, h'.b3, I, PH.un (PH.one g o) k, PH.disj_un (PH.disj_symm (PH.one_disj hI)) d, keep a, ?_, PH.one g o, k, PH.one_disj hk, PH.un_left _ _, PH.un_right (PH.one_disj hk), PH.one_at _ _, s⟩
  intro b u e
  unfold PH.un PH.one at e
  split at e
  · rename_i v hv
    split at hv
    · rename_i hx; subst hx; cases hv; cases e; exact ho
    · cases hv
  · exact keep c b u e
/-- Of elements that need no memory of their own. -/
def Flat (Kx : Kd α) (enc : α → Value) (ok : α → Prop) : Prop := Kx.sz = 1 ∧ (∀ I h v x, Kx.rep I h [v] x → v = enc x ∧ ok x) ∧ ∀ x, ok x → Kx.rep PH.empty PH.empty [enc x] x
theorem flatN : Flat kN (fun m => .int .i64 (m : Int)) (· ≤ big) := ⟨rfl, fun I h v x r => ⟨by have := r.1; simpa using this, r.2⟩, fun x hx => ⟨rfl, hx⟩⟩
theorem flatB : Flat kBool (fun b => .bool b) (fun _ => True) := ⟨rfl, fun I h v x r => ⟨by have r' : [v] = [Value.bool x] := r; simpa using r', trivial⟩, fun x hx => rfl⟩
theorem flatI : Flat (kInt .i64) (fun n => .int .i64 n) (fun n => IntKind.i64.min ≤ n ∧ n ≤ IntKind.i64.max) := ⟨rfl, fun I h v x r => ⟨by have := r.1; simpa using this, r.2⟩, fun x hx => ⟨rfl, hx⟩⟩
theorem Elems.flat {enc : α → Value} {ok : α → Prop} (f : Flat Kx enc ok) {I : PH} {l : List Value} : ∀ {xs : List α} {h : PH} {off : Nat}, Elems Kx I l h off xs → ∀ i (hi : i < xs.length), l[off + i]? = some (enc xs[i]) ∧ ok xs[i] := by
  intro xs h off he i hi
  obtain ⟨h', _, r⟩ := he.get i hi
  rw [f.1, Nat.mul_one] at r
  have hl := Kx.len r
  rw [f.1] at hl
  obtain ⟨v, hv⟩ := take_one hl
  rw [hv] at r
  obtain ⟨rfl, hok⟩ := f.2.1 _ _ _ _ r
  exact ⟨cell_of_take hv, hok⟩
theorem Elems.ofFlat {enc : α → Value} {ok : α → Prop} (f : Flat Kx enc ok) {I : PH} {l : List Value} : ∀ {xs : List α} {off : Nat}, (∀ i (hi : i < xs.length), l[off + i]? = some (enc xs[i]) ∧ ok xs[i]) → Elems Kx I l PH.empty off xs
  | [], off, h => trivial
  | x :: r, off, h => by
    have h0 := h 0 (by simp)
    refine ⟨PH.empty, PH.empty, PH.disj_empty _, PH.sub_refl _, PH.sub_refl _, ?_, ?_⟩
    · have : (l.drop off).take Kx.sz = [enc x] := by
        rw [f.1, take_one_eq, show l[off]? = some (enc x) by simpa using h0.1]
        rfl
      rw [this]
      exact Kx.mono (PH.empty_sub _) (f.2.2 x h0.2)
    · rw [f.1]
      refine Elems.ofFlat f fun i hi => ?_
      have := h (i + 1) (by simpa using hi)
      rw [show off + 1 + i = off + (i + 1) by omega]
      simpa using this
/-- An owned slice of such elements is a block whose first cells they are. -/
theorem St.os_open {enc : α → Value} {ok : α → Prop} (f : Flat Kx enc ok) {ad : Addr} {l c : Nat} (h : St w0 (pt (os e Kx) (.slice (some ad) l c) xs :: L) w) :
    ∃ b cells, ad = ⟨b, 0, none⟩ ∧ l = xs.length ∧ St w0 (blk b (.cells cells e (0, 0)) :: L) w ∧ cells.size = c ∧ xs.length ≤ c ∧ c ≤ maxLen ∧ ∀ i (hi : i < xs.length), cells[i]? = some (enc xs[i]) ∧ ok xs[i] := by
  obtain ⟨I, g, dg, aI, cg, h1, h2, d2, s1, s2, r, l'⟩ := h.mem
  rcases r with ⟨r1, r2⟩ | ⟨b, cap, cells, h', k1, k2, k3, k4, k5, k6, k7, k8⟩
  · simp at r1
  · simp at k1
    obtain ⟨rfl, rfl, rfl⟩ := k1
    rw [f.1, Nat.mul_one] at k7
    refine ⟨b, cells, rfl, rfl, ⟨h.b1, h.b2, h.b3, I, g, dg, aI, cg, h1, h2, d2, s1, s2, k2, l'⟩, k7, k5, k6, fun i hi => ?_⟩
    have := k8.flat f i hi
    simpa using this
theorem St.os_shut {enc : α → Value} {ok : α → Prop} (f : Flat Kx enc ok) {b c : Nat} {cells : Array Value} (h : St w0 (blk b (.cells cells e (0, 0)) :: L) w) (h1 : cells.size = c) (h2 : xs.length ≤ c) (h3 : c ≤ maxLen)
    (h4 : ∀ i (hi : i < xs.length), cells[i]? = some (enc xs[i]) ∧ ok xs[i]) : St w0 (pt (os e Kx) (.slice (some ⟨b, 0, none⟩) xs.length c) xs :: L) w := by
  refine h.mapHead fun I g r => .inr ⟨b, c, cells, PH.empty, rfl, r, rfl, PH.empty_sub _, h2, h3, by rw [f.1, Nat.mul_one]; exact h1, Elems.ofFlat f fun i hi => ?_⟩
  simpa using h4 i hi
open Go.Sort in
/-- A row that is put into another order, or other elements, in place. -/
theorem St.os_row [Inhabited α] {enc : α → Value} {ok : α → Prop} (f : Flat Kx enc ok) {ad : Addr} {l c : Nat} (h : St w0 (pt (os e Kx) (.slice (some ad) l c) xs :: L) w) :
    ∃ b, ad = ⟨b, 0, none⟩ ∧ l = xs.length ∧ b < w.heap.size ∧ Holds enc w b 0 xs.toArray ∧ (∀ x ∈ xs, ok x) ∧
      ∀ (ys : List α) n obs, ys.length = xs.length → (∀ y ∈ ys, ok y) → St w0 (pt (os e Kx) (.slice (some ad) l c) ys :: L) (grow (putRow enc (Sort.ahead w n) b 0 ys.toArray) obs) := by
  obtain ⟨b, cells, rfl, rfl, h', k1, k2, k3, k4⟩ := h.os_open f
  have hb := h'.blk_at
  have hlt := (Array.getElem?_eq_some_iff.1 hb).1
  refine ⟨b, rfl, rfl, hlt, fun j hj => ?_, fun x hx => ?_, fun ys n obs hl hok => ?_⟩
  · have hj' : j < xs.length := by simpa using hj
    refine ⟨?_, h'.blk_free⟩
    have e1 : xs.toArray[j]! = xs[j] := by rw [getElem!_pos _ j hj]; simp
    rw [h'.blk_cell, Nat.zero_add, (k4 j hj').1, e1]
  · obtain ⟨i, hi, rfl⟩ := List.getElem_of_mem hx
    exact (k4 i hi).2
  · have hst : St w0 (blk b (.cells (putCells enc 0 ys.toArray cells) e (0, 0)) :: L) (grow (putRow enc (Sort.ahead w n) b 0 ys.toArray) obs) := by
      refine h'.change rfl rfl rfl ?_ fun c hc u hu => ?_
      · show ((putRow enc (Sort.ahead w n) b 0 ys.toArray).heap ++ obs)[b]? = _
        rw [Array.getElem?_append_left (by simpa [putRow, mapBlock] using hlt)]
        simp [putRow, mapBlock, Array.getElem?_modify, hb, onCells]
      · have hu' := (Array.getElem?_eq_some_iff.1 hu).1
        show ((putRow enc (Sort.ahead w n) b 0 ys.toArray).heap ++ obs)[c]? = _
        rw [Array.getElem?_append_left (by simpa [putRow, mapBlock] using hu')]
        simp [putRow, mapBlock, Array.getElem?_modify, hu, Ne.symm hc]
    rw [← hl]
    refine hst.os_shut f (by simp [putCells, k1]) (by omega) k3 fun i hi => ⟨?_, hok _ (List.getElem_mem hi)⟩
    have hic : i < cells.size := by omega
    have e1 : ys.toArray[i]! = ys[i] := by rw [getElem!_pos _ i (by simpa using hi)]; simp
    simp [putCells, Array.getElem?_mapIdx, hic, hi]
end Go.Proofs.Fw
