/- The walk: what stood in memory ahead of the call. No condition. -/
import Derived.Test.YthamopcfpmkbfaaFwV
import Derived.Deep.Matrix
import Derived.Deep.OwnRows
import Derived.ChangeSame
import Derived.ChangeSlices
import Derived.ChangeVars
import Derived.JoinedOf
import Derived.JoinedAt
import Derived.RowKit
import Derived.RowKit2
import Derived.RowKit3
import Derived.RowKitTokens
import Derived.WideKeyArgs
import Derived.SizedLaws
import Derived.ProofKit
import Derived.OpenShut
set_option linter.unusedVariables false
set_option linter.unusedSimpArgs false
namespace Go.Proofs.Fw
variable {P : Program} {w w' W : World} {w0 : World} {L L' : List Res} {α : Type} {Kx : Kd α} {e : TypeId} {v u : Value} {x : α} {xs ys : List α}
/-- The value stands for x by what W holds. -/
def Old (Kx : Kd α) (W : World) (v : Value) (x : α) : Prop := ∀ I : PH, (∀ b o, W.heap[b]? = some o → I b = some o) → Kx.rep I PH.empty [v] x
theorem St.addOld (h : St w0 (old W :: L) w) (ho : Old Kx W v x) : St w0 (pt Kx v x :: old W :: L) w := by
  obtain ⟨I, g, d, a, c, h1, h2, d2, s1, s2, r, l⟩ := h.mem
  exact ⟨h.b1, h.b2, h.b3, I, g, d, a, c, PH.empty, g, PH.empty_disj _, PH.empty_sub _, PH.sub_refl _, ho I r, h1, h2, d2, s1, s2, r, l⟩
theorem old_int {k : IntKind} {n : Int} (h : (Lit.int k n).wf = true) : Old (kInt k) W (.int k n) n := fun I _ => by
  unfold Lit.wf at h
  simp only [Bool.and_eq_true, decide_eq_true_eq] at h
  exact ⟨rfl, h.1, h.2⟩
theorem cell_spot {a : Addr} {v : Value} (h : W.cell? (a.add 0) = some v) : a.spot = none := by
  obtain ⟨b, off, sp⟩ := a
  unfold World.cell? at h
  simp only [Addr.add, if_true] at h
  cases ho : W.heap[b]? with
  | none => rw [ho] at h; cases h
  | some o =>
    rw [ho] at h
    cases o with
    | cells c e fr =>
      cases sp with
      | none => rfl
      | some s => simp at h
    | _ => cases h
theorem cell_obj {b off i : Nat} {v : Value} (h : W.cell? ((⟨b, off, none⟩ : Addr).add i) = some v) : ∃ cells e fr, W.heap[b]? = some (.cells cells e fr) ∧ cells[off + i]? = some v := by
  rw [addr_add] at h
  unfold World.cell? at h
  simp only [] at h
  cases ho : W.heap[b]? with
  | none => rw [ho] at h; cases h
  | some o =>
    rw [ho] at h
    cases o with
    | cells c e fr => exact ⟨c, e, fr, rfl, by simpa using h⟩
    | _ => cases h
theorem elems_old {I : PH} {l : List Value} (hs : Kx.sz = 1) : ∀ {xs : List α} {off : Nat}, (∀ i (hi : i < xs.length), ∃ v, l[off + i]? = some v ∧ Kx.rep I PH.empty [v] xs[i]) → Elems Kx I l PH.empty off xs
  | [], off, h => trivial
  | x :: r, off, h => by
    obtain ⟨v, h1, h2⟩ := h 0 (by simp)
    refine ⟨PH.empty, PH.empty, PH.disj_empty _, PH.sub_refl _, PH.sub_refl _, ?_, ?_⟩
    · rw [hs, take_one_eq, show l[off]? = some v by simpa using h1]
      exact h2
    · rw [hs]
      refine elems_old hs fun i hi => ?_
      have := h (i + 1) (by simpa using hi)
      rw [show off + 1 + i = off + (i + 1) by omega]
      simpa using this
theorem old_rs (hs : Kx.sz = 1) {A : Option Addr} {len c : Nat} (hl : xs.length = len) (hc : len ≤ c) (hm : c ≤ maxLen) (h : ∀ i (hi : i < xs.length), ∃ a v, A = some a ∧ W.cell? (a.add i) = some v ∧ Old Kx W v xs[i]) : Old (rs Kx) W (.slice A len c) xs := fun I hI => by
  subst hl
  refine ⟨A, c, rfl, hc, hm, ?_⟩
  cases hx : xs with
  | nil => exact .inl rfl
  | cons y r =>
    rw [← hx]
    have hpos : 0 < xs.length := by rw [hx]; simp
    obtain ⟨a, v, rfl, h1, -⟩ := h 0 hpos
    have hsp := cell_spot h1
    obtain ⟨b, off, sp⟩ := a
    simp only [] at hsp
    subst hsp
    obtain ⟨cells, e, fr, ho, -⟩ := cell_obj h1
    refine .inr ⟨b, off, cells, e, fr, rfl, hI _ _ ho, elems_old hs fun i hi => ?_⟩
    obtain ⟨a', v', ha, h2, h3⟩ := h i hi
    cases ha
    obtain ⟨cells', e', fr', ho', hv'⟩ := cell_obj h2
    rw [ho] at ho'
    cases ho'
    exact ⟨v', by simpa using hv', h3 I hI⟩
/-- The world has only grown. -/
theorem St.since (h : St W (old W :: L) w) : W.Since W.heap.size w := by
  have hk : ∀ b o, W.heap[b]? = some o → w.heap[b]? = some o := fun b o e => h.old_at e
  refine ⟨h.b1, h.b2, h.b3, ?_, fun k hk' => ?_⟩
  · rcases Nat.eq_zero_or_pos W.heap.size with h0 | h0
    · omega
    · have h1 : W.heap[W.heap.size - 1]? = some (W.heap[W.heap.size - 1]'(by omega)) := by simp
      have := (Array.getElem?_eq_some_iff.1 (hk _ _ h1)).1
      omega
  · have h1 : W.heap[k]? = some W.heap[k] := by simp [hk']
    rw [h1, hk _ _ h1]
open Go.ChangeShapes Go.WideShapes Go.RowKit in
theorem trodAll_stays {H : Type} {enc : TypeId × Value → H} (hl : laidOutB P = true) {W' : World} {sp' : Nat → Bool} : ∀ {ts : List TypeId} {vs : List Value} {ds : List (DataW H)} {ps : List MemPlace}, (∀ t ∈ ts, P.readableRec t = true ∧ t < P.types.size) →
    DataW.TrodAll enc P W 0 (fun _ => true) true ts vs ds ps → (∀ p ∈ ps, W.sameAt W' p) → (∀ p ∈ ps, sp' p.block = true) → DataW.TrodAll enc P W' 0 sp' true ts vs ds ps
  | [], vs, ds, ps, ht, h, h1, h2 => by
    obtain ⟨rfl, rfl, rfl⟩ := trodAll_nil h
    exact trodAll_mk0
  | t :: ts, vs, ds, ps, ht, h, h1, h2 => by
    obtain ⟨v, vs', d, ds', p, q, rfl, rfl, rfl, k1, k2⟩ := trodAll_cons h
    obtain ⟨r1, r2⟩ := ht t (by simp)
    exact trodAll_cons_mk (WideElems.Trod_stays hl r1 r2 k1 (fun x hx => h1 x (by simp [hx])) (fun x hx => h2 x (by simp [hx]))) (trodAll_stays hl (fun u hu => ht u (by simp [hu])) k2 (fun x hx => h1 x (by simp [hx])) (fun x hx => h2 x (by simp [hx])))
open Go.ChangeShapes Go.WideShapes Go.RowKit in
/-- A law that says yes and leaves what it was handed. -/
theorem law_post {H : Type} {enc : TypeId × Value → H} {fn : Func} {s : ChangeSpec} {W' : World} {args : Array Value} {ds : List (DataW H)} {before : List MemPlace} {tb : TypeId} (hl : laidOutB P = true) (hW : DataW.Whole enc P fn.params.toList s.vars false W args.toList ds [] before) (hv : s.vars = [])
    (hts : ∀ t ∈ fn.params.toList, P.readableRec t = true ∧ t < P.types.size) (hres : fn.resultTypes = #[tb]) (htb : P.underlying tb = some .bool) (hfn : s.fn H (ds ++ []) = { results := [.lit (.bool true)], args := ds }) (hs : W.Since W.heap.size W') :
    s.post enc P fn false true false false W args (.bool true) W' := by
  have hlt : ∀ p ∈ before, p.block < W.heap.size := fun p hp => hW.lt p hp
  have hW' := hW
  obtain ⟨p, q, hA, hV, rfl, -, -⟩ := hW
  rw [hv] at hV
  obtain ⟨-, rfl⟩ := trodVars_none hV
  rw [List.append_nil] at hW' hlt
  refine ⟨ds, [], p, [], p, [], hW', ?_, ?_, ?_, hs.frame _, fun h => by cases h⟩
  · rw [hfn, hres]
    exact trodAll_cons_mk (shut_bool htb _) trodAll_mk0
  · rw [hfn]
    exact trodAll_stays hl hts hA (fun x hx => hs.sameAt (hlt x hx)) (fun x hx => by simpa using hlt x hx)
  · rw [hfn, hv]
    simp [DataW.TrodVars]
end Go.Proofs.Fw
