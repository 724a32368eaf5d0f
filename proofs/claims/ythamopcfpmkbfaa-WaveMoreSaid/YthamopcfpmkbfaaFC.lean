/- The walk: what is handed over; an element lent. No condition. -/
import Derived.Test.YthamopcfpmkbfaaFB
import Derived.Deep.Matrix
import Derived.Deep.OwnRows
import Derived.ChangeSame
import Derived.ChangeSlices
import Derived.ChangeVars
import Derived.JoinedOf
import Derived.JoinedAt
import Derived.RowKit
import Derived.RowKit2
import Derived.RowKit3
import Derived.RowKitTokens
import Derived.WideKeyArgs
import Derived.SizedLaws
import Derived.ProofKit
import Derived.OpenShut
set_option linter.unusedVariables false
set_option linter.unusedSimpArgs false
namespace Go.Proofs.Fw
variable {P : Program} {w w' W : World} {w0 : World} {L L' : List Res} {α : Type} {Kx : Kd α} {e : TypeId} {v u : Value} {x : α} {xs ys : List α}
/-- The value stands for x by what W holds. -/
def Old (Kx : Kd α) (W : World) (v : Value) (x : α) : Prop := ∀ I : PH, (∀ b o, W.heap[b]? = some o → I b = some o) → Kx.rep I PH.empty [v] x
theorem St.addOld (h : St w0 (old W :: L) w) (ho : Old Kx W v x) : St w0 (pt Kx v x :: old W :: L) w := by
  obtain ⟨I, g, d, a, c, h1, h2, d2, s1, s2, r, l⟩ := h.mem
  exact ⟨h.b1, h.b2, h.b3, I, g, d, a, c, PH.empty, g, PH.empty_disj _, PH.empty_sub _, PH.sub_refl _, ho I r, h1, h2, d2, s1, s2, r, l⟩
theorem old_int {k : IntKind} {n : Int} (h : (Lit.int k n).wf = true) : Old (kInt k) W (.int k n) n := fun I _ => by
  unfold Lit.wf at h
  simp only [Bool.and_eq_true, decide_eq_true_eq] at h
  exact ⟨rfl, h.1, h.2⟩
theorem cell_spot {a : Addr} {v : Value} (h : W.cell? (a.add 0) = some v) : a.spot = none := by
  obtain ⟨b, off, sp⟩ := a
  unfold World.cell? at h
  simp only [Addr.add, if_true] at h
  cases ho : W.heap[b]? with
  | none => rw [ho] at h; cases h
  | some o =>
    rw [ho] at h
    cases o with
    | cells c e fr =>
      cases sp with
      | none => rfl
      | some s => simp at h
    | _ => cases h
theorem cell_obj {b off i : Nat} {v : Value} (h : W.cell? ((⟨b, off, none⟩ : Addr).add i) = some v) : ∃ cells e fr, W.heap[b]? = some (.cells cells e fr) ∧ cells[off + i]? = some v := by
  rw [addr_add] at h
  unfold World.cell? at h
  simp only [] at h
  cases ho : W.heap[b]? with
  | none => rw [ho] at h; cases h
  | some o =>
    rw [ho] at h
    cases o with
    | cells c e fr => exact ⟨c, e, fr, rfl, by simpa using h⟩
    | _ => cases h
theorem elems_old {I : PH} {l : List Value} (hs : Kx.sz = 1) : ∀ {xs : List α} {off : Nat}, (∀ i (hi : i < xs.length), ∃ v, l[off + i]? = some v ∧ Kx.rep I PH.empty [v] xs[i]) → Elems Kx I l PH.empty off xs
  | [], off, h => trivial
  | x :: r, off, h => by
    obtain ⟨v, h1, h2⟩ := h 0 (by simp)
    refine ⟨PH.empty, PH.empty, PH.disj_empty _, PH.sub_refl _, PH.sub_refl _, ?_, ?_⟩
    · rw [hs, take_one_eq, show l[off]? = some v by simpa using h1]
      exact h2
    · rw [hs]
      refine elems_old hs fun i hi => ?_
      have := h (i + 1) (by simpa using hi)
      rw [show off + 1 + i = off + (i + 1) by omega]
      simpa using this
theorem old_rs (hs : Kx.sz = 1) {A : Option Addr} {len c : Nat} (hl : xs.length = len) (hc : len ≤ c) (hm : c ≤ maxLen) (h : ∀ i (hi : i < xs.length), ∃ a v, A = some a ∧ W.cell? (a.add i) = some v ∧ Old Kx W v xs[i]) : Old (rs Kx) W (.slice A len c) xs := fun I hI => by
  subst hl
  refine ⟨A, c, rfl, hc, hm, ?_⟩
  cases hx : xs with
  | nil => exact .inl rfl
  | cons y r =>
    rw [← hx]
    have hpos : 0 < xs.length := by rw [hx]; simp
    obtain ⟨a, v, rfl, h1, -⟩ := h 0 hpos
    have hsp := cell_spot h1
    obtain ⟨b, off, sp⟩ := a
    simp only [] at hsp
    subst hsp
    obtain ⟨cells, e, fr, ho, -⟩ := cell_obj h1
    refine .inr ⟨b, off, cells, e, fr, rfl, hI _ _ ho, elems_old hs fun i hi => ?_⟩
    obtain ⟨a', v', ha, h2, h3⟩ := h i hi
    cases ha
    obtain ⟨cells', e', fr', ho', hv'⟩ := cell_obj h2
    rw [ho] at ho'
    cases ho'
    exact ⟨v', by simpa using hv', h3 I hI⟩
/-- The world has only grown. -/
theorem St.since (h : St W (old W :: L) w) : W.Since W.heap.size w := by
  have hk : ∀ b o, W.heap[b]? = some o → w.heap[b]? = some o := fun b o e => h.old_at e
  refine ⟨h.b1, h.b2, h.b3, ?_, fun k hk' => ?_⟩
  · rcases Nat.eq_zero_or_pos W.heap.size with h0 | h0
    · omega
    · have h1 : W.heap[W.heap.size - 1]? = some (W.heap[W.heap.size - 1]'(by omega)) := by simp
      have := (Array.getElem?_eq_some_iff.1 (hk _ _ h1)).1
      omega
  · have h1 : W.heap[k]? = some W.heap[k] := by simp [hk']
    rw [h1, hk _ _ h1]
open Go.ChangeShapes Go.WideShapes Go.RowKit in
theorem trodAll_stays {H : Type} {enc : TypeId × Value → H} (hl : laidOutB P = true) {W' : World} {sp' : Nat → Bool} : ∀ {ts : List TypeId} {vs : List Value} {ds : List (DataW H)} {ps : List MemPlace}, (∀ t ∈ ts, P.readableRec t = true ∧ t < P.types.size) →
    DataW.TrodAll enc P W 0 (fun _ => true) true ts vs ds ps → (∀ p ∈ ps, W.sameAt W' p) → (∀ p ∈ ps, sp' p.block = true) → DataW.TrodAll enc P W' 0 sp' true ts vs ds ps
  | [], vs, ds, ps, ht, h, h1, h2 => by
    obtain ⟨rfl, rfl, rfl⟩ := trodAll_nil h
    exact trodAll_mk0
  | t :: ts, vs, ds, ps, ht, h, h1, h2 => by
    obtain ⟨v, vs', d, ds', p, q, rfl, rfl, rfl, k1, k2⟩ := trodAll_cons h
    obtain ⟨r1, r2⟩ := ht t (by simp)
    exact trodAll_cons_mk (WideElems.Trod_stays hl r1 r2 k1 (fun x hx => h1 x (by simp [hx])) (fun x hx => h2 x (by simp [hx]))) (trodAll_stays hl (fun u hu => ht u (by simp [hu])) k2 (fun x hx => h1 x (by simp [hx])) (fun x hx => h2 x (by simp [hx])))
open Go.ChangeShapes Go.WideShapes Go.RowKit in
/-- A law that says yes and leaves what it was handed. -/
theorem law_post {H : Type} {enc : TypeId × Value → H} {fn : Func} {s : ChangeSpec} {W' : World} {args : Array Value} {ds : List (DataW H)} {before : List MemPlace} {tb : TypeId} (hl : laidOutB P = true) (hW : DataW.Whole enc P fn.params.toList s.vars false W args.toList ds [] before) (hv : s.vars = [])
    (hts : ∀ t ∈ fn.params.toList, P.readableRec t = true ∧ t < P.types.size) (hres : fn.resultTypes = #[tb]) (htb : P.underlying tb = some .bool) (hfn : s.fn H (ds ++ []) = { results := [.lit (.bool true)], args := ds }) (hs : W.Since W.heap.size W') :
    s.post enc P fn false true false false W args (.bool true) W' := by
  have hlt : ∀ p ∈ before, p.block < W.heap.size := fun p hp => hW.lt p hp
  have hW' := hW
  obtain ⟨p, q, hA, hV, rfl, -, -⟩ := hW
  rw [hv] at hV
  obtain ⟨-, rfl⟩ := trodVars_none hV
  rw [List.append_nil] at hW' hlt
  refine ⟨ds, [], p, [], p, [], hW', ?_, ?_, ?_, hs.frame _, fun h => by cases h⟩
  · rw [hfn, hres]
    exact trodAll_cons_mk (shut_bool htb _) trodAll_mk0
  · rw [hfn]
    exact trodAll_stays hl hts hA (fun x hx => hs.sameAt (hlt x hx)) (fun x hx => by simpa using hlt x hx)
  · rw [hfn, hv]
    simp [DataW.TrodVars]
end Go.Proofs.Fw
namespace Go.Proofs.Fw
variable {P : Program} {w w' W : World} {w0 : World} {L L' : List Res} {α : Type} {Kx : Kd α} {e : TypeId} {v u : Value} {x : α} {ps : List (Value × α)} {i : Nat}
theorem each_app (Kx : Kd α) : ∀ (ps qs : List (Value × α)), each Kx (ps ++ qs) = each Kx ps ++ each Kx qs
  | [], qs => rfl
  | p :: r, qs => by simp [each, each_app Kx r qs]
theorem St.each_out (h : St w0 (each Kx ps ++ L) w) (hi : i < ps.length) : St w0 (pt Kx ps[i].1 ps[i].2 :: (each Kx (ps.take i) ++ (each Kx (ps.drop (i + 1)) ++ L))) w := by
  have e1 : ps = ps.take i ++ ps[i] :: ps.drop (i + 1) := by rw [← List.drop_eq_getElem_cons hi, List.take_append_drop]
  rw [e1, each_app] at h
  simp only [each, List.append_assoc, List.cons_append] at h
  exact h.perm List.perm_middle
theorem St.each_in (h : St w0 (pt Kx v x :: (each Kx (ps.take i) ++ (each Kx (ps.drop (i + 1)) ++ L))) w) (hi : i < ps.length) : St w0 (each Kx (ps.set i (v, x)) ++ L) w := by
  rw [List.set_eq_take_append_cons_drop, if_pos hi, each_app]
  simp only [each, List.append_assoc, List.cons_append]
  exact h.perm List.perm_middle.symm
theorem St.each_out1 {R : Res} (h : St w0 (R :: (each Kx ps ++ L)) w) (hi : i < ps.length) : St w0 (pt Kx ps[i].1 ps[i].2 :: R :: (each Kx (ps.take i) ++ (each Kx (ps.drop (i + 1)) ++ L))) w := by
  have e1 : ps = ps.take i ++ ps[i] :: ps.drop (i + 1) := by rw [← List.drop_eq_getElem_cons hi, List.take_append_drop]
  rw [e1, each_app] at h
  simp only [each, List.append_assoc, List.cons_append] at h
  exact h.perm ((List.Perm.cons R List.perm_middle).trans (List.Perm.swap _ _ _))
theorem St.each_in1 {R : Res} (h : St w0 (pt Kx v x :: R :: (each Kx (ps.take i) ++ (each Kx (ps.drop (i + 1)) ++ L))) w) (hi : i < ps.length) : St w0 (R :: (each Kx (ps.set i (v, x)) ++ L)) w := by
  rw [List.set_eq_take_append_cons_drop, if_pos hi, each_app]
  simp only [each, List.append_assoc, List.cons_append]
  exact h.perm ((List.Perm.swap _ _ _).trans (List.Perm.cons R List.perm_middle.symm))
/-! ### bytes as numbers -/
def k8 : Kd Nat := ⟨1, fun _ _ cs m => cs = [.int .u8 (m : Int)] ∧ m ≤ 255, fun _ r => r, fun _ r => r, fun r => by rw [r.1]; rfl, fun r v hv => by rw [r.1] at hv; simp at hv; subst hv; rfl⟩
theorem k8_pers : k8.Pers := fun r => r
theorem St.byte {m : Nat} (h : St w0 (pt k8 v m :: L) w) : v = .int .u8 (m : Int) ∧ m ≤ 255 := by
  obtain ⟨I, g, _, _, r⟩ := h.rep
  exact ⟨by have := r.1; simpa using this, r.2⟩
theorem St.rs8_at {l c : Nat} {ad : Addr} {xs : List Nat} (h : St w0 (pt (rs k8) (.slice (some ad) l c) xs :: L) w) {i : Nat} (hi : i < xs.length) : w.cell? (ad.add i) = some (.int .u8 (xs[i] : Int)) ∧ xs[i] ≤ 255 := by
  obtain ⟨ad', u, h1, h2, h3⟩ := h.rs_cell rfl rfl i hi
  cases h1
  obtain ⟨rfl, hb⟩ := h3.byte
  exact ⟨h2, hb⟩
variable {n : Nat} {env : Env} {a : Act} {ops : Array Oper} {K : Env → World → Prop} {rest : List Oper} {d : Nat} {ty : TypeId} {pos : String} {after : Array Edge}
theorem wrap8 (m : Nat) (h : m ≤ 255) : IntKind.i64.wrap (m : Int) = (m : Int) := by
  simp only [IntKind.wrap, IntKind.signed, IntKind.bits]
  simp
  omega
theorem e_conv8 {x : Operand} {t u : TypeId} {m : Nat} {td : TypeDesc} (hs : P.underlying t = some td) (ht : P.underlying u = some (.int .i64)) (hm : m ≤ 255) (hx : ev env x = some (.int .u8 (m : Int))) :
    Ev P n env ⟨some d, .convert t u x, ty, pos, after, none⟩ (.int .i64 (m : Int)) := by
  have := e_convInt (P := P) (n := n) (env := env) (d := d) (ty := ty) (pos := pos) (after := after) hs ht hx
  rwa [wrap8 m hm] at this
theorem l_conv8 {x : Operand} {t u : TypeId} {m : Nat} {td : TypeDesc} (hd : Nat.ble (d + 1) n = true) (hs : P.underlying t = some td) (ht : P.underlying u = some (.int .i64)) (hm : m ≤ 255) (hx : ev env x = some (.int .u8 (m : Int)))
    (h : WpL P ops n K rest ((d, .int .i64 (m : Int)) :: env) w) : WpL P ops n K (⟨some d, .convert t u x, ty, pos, after, none⟩ :: rest) env w :=
  l_val _ hd (fun a hf => e_conv8 hs ht hm hx a w hf) h
theorem e_remN {x y : Operand} {xt yt : TypeId} {k : IntKind} {i j : Nat} (hx : ev env x = some (.int k (i : Int))) (hy : ev env y = some (.int k (j : Int))) (hj : j ≠ 0) : Ev P n env ⟨some d, .binOp .rem xt x y yt, ty, pos, after, none⟩ (.int k ((i % j : Nat) : Int)) := by
  have := e_rem (P := P) (n := n) (env := env) (xt := xt) (yt := yt) (d := d) (ty := ty) (pos := pos) (after := after) hx hy (by omega)
  have e : ((i : Int)).tmod (j : Int) = ((i % j : Nat) : Int) := rfl
  rwa [e] at this
theorem l_remN {x y : Operand} {xt yt : TypeId} {k : IntKind} {i j : Nat} (hd : Nat.ble (d + 1) n = true) (hx : ev env x = some (.int k (i : Int))) (hy : ev env y = some (.int k (j : Int))) (hj : j ≠ 0) (h : WpL P ops n K rest ((d, .int k ((i % j : Nat) : Int)) :: env) w) :
    WpL P ops n K (⟨some d, .binOp .rem xt x y yt, ty, pos, after, none⟩ :: rest) env w :=
  l_val _ hd (fun a hf => e_remN hx hy hj a w hf) h
/-- A slot's value is spelled anew, where the order is open. -/
theorem d_same {C : World → Prop} {flag : Nat → Bool} {r : List Step} (d : Nat) (v : Value) {u : Value} (hu : lk env d = some u) (e : u = v) (h : WpD P ops C flag n K r ((d, v) :: env) w) : WpD P ops C flag n K r env w :=
  ⟨fun Q a hf hQ => h.go Q a (hf.dup (by rw [hu, e])) hQ⟩
/-- A load that is guarded by what says yes. -/
theorem d_loadY {x : Operand} {t : TypeId} {ad : Addr} {w1 : World} {flag : Nat → Bool} {r : List Step} {W : List Nat} {i j dj : Nat} {want : Bool} {v : Value} (hi : ops[i]? = some ⟨some d, .load t x, ty, pos, after, some (j, want)⟩) (hd : Nat.ble (d + 1) n = true) (hj : (ops[j]?).bind (·.dst) = some dj) (hb : lk env dj = some (.bool want)) (ht : Plain P t) (hx : ev env x = some (.pointer (some ad))) (hc : w1.cell? ad = some v)
    (h : WpD P ops (fun W => W = w1) flag n K r ((d, v) :: env) w1) : WpD P ops (fun W => W = w1) flag n K (.q i W :: r) env w1 :=
  ⟨fun Q a hf hQ => ⟨rfl, _, v, hi, .inl ⟨by simp [Region.wanted, yielded, hj, hf.at_ dj _ hb], fun w hw => by subst hw; simp [execOp, hf.eval hx, Instr.loadAt, Instr.sureAddr, Sem.run_bind, Sem.run_pure, Result.andThen_ok, run_load ht hc]⟩, h.go Q _ (hf.put hd v) hQ⟩⟩
/-- A read whose guard says no. -/
theorem d_noQ {C : World → Prop} {flag : Nat → Bool} {r : List Step} {W : List Nat} {i j dj : Nat} {want b : Bool} {op : Op} (hC : C w) (hi : ops[i]? = some ⟨some d, op, ty, pos, after, some (j, want)⟩) (hd : Nat.ble (d + 1) n = true) (hj : (ops[j]?).bind (·.dst) = some dj) (hb : lk env dj = some (.bool b)) (hne : (b == want) = false)
    (h : WpD P ops C flag n K r ((d, undef) :: env) w) : WpD P ops C flag n K (.q i W :: r) env w := by
  refine ⟨fun Q a hf hQ => ?_⟩
  have hne' : b ≠ want := by simpa using hne
  exact ⟨hC, _, undef, hi, .inr ⟨by simp [Region.wanted, yielded, hj, hf.at_ dj _ hb, hne'], rfl⟩, h.go Q _ (hf.put hd undef) hQ⟩
end Go.Proofs.Fw
namespace Go.Proofs.Fw
variable {P : Program} {w w' W : World} {w0 : World} {L L' : List Res} {α : Type} {Kx : Kd α} {e : TypeId} {v u : Value} {x : α} {xs : List α}
theorem St.lend (hs : Kx.sz = 1) {ad : Addr} {l c : Nat} (h : St w0 (pt (os e Kx) (.slice (some ad) l c) xs :: L) w) (i : Nat) (hi : i < xs.length) :
    ∃ (b : Nat) (cells : Array Value) (u : Value) (R : Res), ad = ⟨b, 0, none⟩ ∧ cells[i]? = some u ∧ St w0 (pt Kx u xs[i] :: blk b (.cells cells e (0, 0)) :: R :: L) w ∧
      ∀ {L' : List Res} {w' : World} (u' : Value) (x' : α), St w0 (pt Kx u' x' :: blk b (.cells (cells.setIfInBounds i u') e (0, 0)) :: R :: L') w' → St w0 (pt (os e Kx) (.slice (some ⟨b, 0, none⟩) l c) (xs.set i x') :: L') w' := by
  obtain ⟨b, cells, vs, rfl, rfl, k1, k2, k3, k4, k5, hst⟩ := h.os_split hs
  obtain ⟨ps, hps⟩ : ∃ ps, ps = vs.zip xs := ⟨_, rfl⟩
  have hpl : ps.length = xs.length := by rw [hps]; simp [k4]
  have hp1 : ∀ (i : Nat) (p : Value × α), ps[i]? = some p → cells[i]? = some p.1 := fun i p hp => by
    rw [hps, List.getElem?_zip_eq_some] at hp
    exact k5 i _ hp.1
  have hp2 : ps.map Prod.snd = xs := by rw [hps]; simp [List.map_snd_zip, k4]
  rw [← hps] at hst
  have hip : i < ps.length := by omega
  have hrow : ps[i].2 = xs[i] := by simp [← hp2]
  have hcx : cells[i]? = some ps[i].1 := hp1 _ _ (List.getElem?_eq_getElem hip)
  have pm : ∀ (A B : Res) (E F L : List Res), (A :: B :: (E ++ (F ++ L))).Perm ((E ++ F) ++ (A :: B :: L)) := fun A B E F L => by
    have h1 : ([A, B] ++ (E ++ F)).Perm ((E ++ F) ++ [A, B]) := List.perm_append_comm
    have h2 := h1.append_right L
    simpa using h2
  replace hst := ((hst.each_out1 hip).perm (pm _ _ _ _ _)).shut
  rw [hrow] at hst
  refine ⟨b, cells, ps[i].1, star (each Kx (ps.take i) ++ each Kx (ps.drop (i + 1))), rfl, hcx, hst.re [1, 2, 0], ?_⟩
  intro L' w' u' x' h'
  have h1 := (h'.re [2]).open
  have h2 := (h1.perm (pm _ _ _ _ _).symm).each_in1 hip
  have hj := h2.os_join hs (c := c) (by simp [k1]) (by simp; omega) k3 (fun j p hp => by
    rw [List.getElem?_set] at hp
    rw [Array.getElem?_setIfInBounds]
    by_cases e : i = j
    · subst e
      rw [if_pos rfl, if_pos hip] at hp
      rw [if_pos rfl, if_pos (by omega)]
      cases hp
      rfl
    · rw [if_neg e] at hp ⊢
      exact hp1 j p hp)
  have e1 : (ps.set i (u', x')).length = xs.length := by simp [hpl]
  have e2 : (ps.set i (u', x')).map Prod.snd = xs.set i x' := by rw [List.map_set, hp2]
  rw [e1, e2] at hj
  exact hj
variable {n : Nat} {env : Env} {a : Act} {ops : Array Oper} {K : Env → World → Prop} {rest : List Oper} {d : Nat} {ty : TypeId} {pos : String} {after : Array Edge}
/-- Ways meet again behind the first part, some values being open. -/
theorem c_seqX {ι : Type} {x y : Code} {Q : Exit → Env → World → Prop} (small : ι → Env) (S : ι → World → Prop) (hx : WpC P n (Then (fun env w => ∃ i, Fw.Sub env (small i) ∧ S i w) Q) x env w) (hy : ∀ i w, S i w → WpC P n Q y (small i) w) : WpC P n Q (.seq x y) env w :=
  c_seq (hx.mono fun e env w h => by
    cases e with
    | normal => obtain ⟨i, h1, h2⟩ := h; exact WpC.weak (small i) h1 (hy i w h2)
    | _ => exact h)
/-- make([]T, m), its block told. -/
theorem l_makeS {α : Type} {Kx : Kd α} {e : TypeId} {t : TypeId} {y z : Operand} {k1 k2 : IntKind} {m : Nat} {zv : Value} {zx : α} {bytes : Nat} (hd : Nat.ble (d + 1) n = true) (ht : P.underlying t = some (.slice e)) (hi : (P.info? e).map (fun i => (i.zero, i.size, i.bytes)) = some (some zv, 1, bytes)) (hs : Kx.sz = 1)
    (hzr : Kx.rep PH.empty PH.empty [zv] zx) (hy : ev env y = some (.int k1 (m : Int))) (hz : ev env z = some (.int k2 (m : Int))) (hb : bytes * m ≤ 2 ^ 48) (hm : m ≤ maxLen) (hst : St w0 L w)
    (h : ∀ b w', St w0 (pt (os e Kx) (.slice (some ⟨b, 0, none⟩) m m) (List.replicate m zx) :: L) w' → WpL P ops n K rest ((d, .slice (some ⟨b, 0, none⟩) m m) :: env) w') : WpL P ops n K (⟨some d, .makeSlice t y z, ty, pos, after, none⟩ :: rest) env w := by
  have hone : zv.oneCell' = true := Kx.one hzr zv (by simp)
  have hmm : m ≤ 9223372036854775807 := by simpa [maxLen] using hm
  have hrun := run_make_row' (P := P) t e zv bytes ht hi (cells_one hone) k1 k2 m hb hmm w
  refine l_val (w' := w.alloc (.cells (madeCells #[zv] m) e)) (.slice (some ⟨w.heap.size, 0, none⟩) m m) hd (fun a hf => ?_) (h _ _ ?_)
  · simp only [execOp, hf.eval hy, hf.eval hz, Sem.run_bind, hrun, Result.andThen_ok, Sem.run_pure]
  · have hmade : ∀ i, i < m → (madeCells #[zv] m)[i]? = some zv := by
      intro i hi
      simp [madeCells, hi, Nat.mod_one]
    have hsz : (madeCells #[zv] m).size = m := by simp [madeCells]
    have hst2 := hst.alloc (.cells (madeCells #[zv] m) e)
    obtain ⟨I, g, dd, aa, c, h1, h2, d2, s1, s2, r, l⟩ := hst2.mem
    refine ⟨hst2.b1, hst2.b2, hst2.b3, I, g, dd, aa, c, h1, h2, d2, s1, s2, ?_, l⟩
    refine .inr ⟨w.heap.size, m, madeCells #[zv] m, PH.empty, by simp, r, rfl, PH.empty_sub _, by simp, hm, by rw [hsz, hs, Nat.mul_one], ?_⟩
    exact elems_replicate hs hzr m 0 _ fun i hi => by
      have := hmade i hi
      simpa using this
/-- The address of an element of an array in a variable of its own. -/
theorem e_indexAddrP {x y : Operand} {t e : TypeId} {b m i : Nat} {k : IntKind} (ht : P.underlying t = some (.array m e)) (hs : SzIs P e 1) (hx : ev env x = some (.pointer (some ⟨b, 0, none⟩))) (hy : ev env y = some (.int k (i : Int))) (h1 : i < m) :
    Ev P n env ⟨some d, .indexAddr t x y, ty, pos, after, none⟩ (.pointer (some ⟨b, i, none⟩)) :=
  fun a w hf => by
    have h2 : (i : Int) < (m : Int) := by omega
    simp [execOp, hf.eval hx, hf.eval hy, Instr.indexAt, Instr.sureAddr, asIntOf, run_underlying ht, hs.run, h2, addr_add, Sem.run_bind, Sem.run_pure, Result.andThen_ok]
    intro hh; omega
theorem l_indexAddrP {x y : Operand} {t e : TypeId} {b m : Nat} (i : Nat) {k : IntKind} (hd : Nat.ble (d + 1) n = true) (ht : P.underlying t = some (.array m e)) (hs : SzIs P e 1) (hx : ev env x = some (.pointer (some ⟨b, 0, none⟩))) (hy : ev env y = some (.int k (i : Int))) (h1 : i < m)
    (h : WpL P ops n K rest ((d, .pointer (some ⟨b, i, none⟩)) :: env) w) : WpL P ops n K (⟨some d, .indexAddr t x y, ty, pos, after, none⟩ :: rest) env w :=
  l_val _ hd (fun a hf => e_indexAddrP ht hs hx hy h1 a w hf) h
/-- A row of numbers, in a slice of such that is read. -/
theorem St.rsNN_row {A : Option Addr} {l c : Nat} {gs : List (List Nat)} (h : St w0 (pt (rs (rs kN)) (.slice A l c) gs :: L) w) {i : Nat} (hi : i < gs.length) :
    ∃ ad Ar cr, A = some ad ∧ w.cell? (ad.add i) = some (.slice Ar gs[i].length cr) ∧ gs[i].length ≤ cr ∧ cr ≤ maxLen ∧ (0 < gs[i].length → ∃ ar, Ar = some ar ∧ ∀ k (hk : k < gs[i].length), w.cell? (ar.add k) = some (.int .i64 (gs[i][k] : Int)) ∧ gs[i][k] ≤ 1152921504606846976) ∧
      St w0 (pt (rs kN) (.slice Ar gs[i].length cr) gs[i] :: pt (rs (rs kN)) (.slice A l c) gs :: L) w := by
  obtain ⟨ad, u, rfl, q, h1⟩ := h.rs_cell rfl rfl i hi
  obtain ⟨Ar, cr, rfl, h2, h3⟩ := h1.rs_form
  refine ⟨ad, Ar, cr, rfl, q, h2, h3, fun hp => ?_, h1⟩
  obtain ⟨ar, rfl⟩ := h1.rsN_ad rfl hp
  exact ⟨ar, rfl, fun k hk => h1.rsN_at hk⟩
theorem St.rsII_row {A : Option Addr} {l c : Nat} {gs : List (List Int)} (h : St w0 (pt (rs (rs (kInt .i64))) (.slice A l c) gs :: L) w) {i : Nat} (hi : i < gs.length) :
    ∃ ad Ar cr, A = some ad ∧ w.cell? (ad.add i) = some (.slice Ar gs[i].length cr) ∧ gs[i].length ≤ cr ∧ cr ≤ maxLen ∧ (0 < gs[i].length → ∃ ar, Ar = some ar ∧ ∀ k (hk : k < gs[i].length), w.cell? (ar.add k) = some (.int .i64 gs[i][k]) ∧ -9223372036854775808 ≤ gs[i][k] ∧ gs[i][k] ≤ 9223372036854775807) ∧
      St w0 (pt (rs (kInt .i64)) (.slice Ar gs[i].length cr) gs[i] :: pt (rs (rs (kInt .i64))) (.slice A l c) gs :: L) w := by
  obtain ⟨ad, u, rfl, q, h1⟩ := h.rs_cell rfl rfl i hi
  obtain ⟨Ar, cr, rfl, h2, h3⟩ := h1.rs_form
  refine ⟨ad, Ar, cr, rfl, q, h2, h3, fun hp => ?_, h1⟩
  obtain ⟨ar, rfl⟩ := h1.rsN_ad rfl hp
  exact ⟨ar, rfl, fun k hk => h1.rsI_at hk⟩
end Go.Proofs.Fw
namespace Go.Proofs.Fw
open Go.ChangeShapes Go.WideShapes Go.RowKit
variable {H : Type} {P : Program} {W : World} {enc : TypeId × Value → H} {base : Nat} {spare : Nat → Bool} {held : Bool}
theorem wf_u8 {n : Int} (h : (Lit.int .u8 n).wf = true) : ∃ m : Nat, n = (m : Int) ∧ m ≤ 255 := by
  unfold Lit.wf at h
  simp only [Bool.and_eq_true, decide_eq_true_eq] at h
  obtain ⟨h1, h2⟩ := h
  have e1 : IntKind.min .u8 = 0 := by decide
  have e2 : IntKind.max .u8 = 255 := by decide
  rw [e1] at h1
  rw [e2] at h2
  exact ⟨n.toNat, by omega, by omega⟩
theorem wf_u16 {n : Int} (h : (Lit.int .u16 n).wf = true) : ∃ m : Nat, n = (m : Int) ∧ m ≤ 65535 := by
  unfold Lit.wf at h
  simp only [Bool.and_eq_true, decide_eq_true_eq] at h
  obtain ⟨h1, h2⟩ := h
  have e1 : IntKind.min .u16 = 0 := by decide
  have e2 : IntKind.max .u16 = 65535 := by decide
  rw [e1] at h1
  rw [e2] at h2
  exact ⟨n.toNat, by omega, by omega⟩
theorem open_u8 {r : Reach} {b0 : Nat} {t : TypeId} {v : Value} {d : DataW H} {ps : List MemPlace} (ht : P.underlying t = some (.int .u8)) (hval : Value.okWide P W r b0 t v) (hd : DataW.Trod enc P W base spare held t v d ps) : ∃ m : Nat, v = .int .u8 (m : Int) ∧ d = .lit (.int .u8 (m : Int)) ∧ ps = [] ∧ m ≤ 255 := by
  obtain ⟨n, rfl, rfl, rfl, hw⟩ := open_int ht hval hd
  obtain ⟨m, rfl, hm⟩ := wf_u8 hw
  exact ⟨m, rfl, rfl, rfl, hm⟩
theorem open_u16 {r : Reach} {b0 : Nat} {t : TypeId} {v : Value} {d : DataW H} {ps : List MemPlace} (ht : P.underlying t = some (.int .u16)) (hval : Value.okWide P W r b0 t v) (hd : DataW.Trod enc P W base spare held t v d ps) : ∃ m : Nat, v = .int .u16 (m : Int) ∧ d = .lit (.int .u16 (m : Int)) ∧ ps = [] ∧ m ≤ 65535 := by
  obtain ⟨n, rfl, rfl, rfl, hw⟩ := open_int ht hval hd
  obtain ⟨m, rfl, hm⟩ := wf_u16 hw
  exact ⟨m, rfl, rfl, rfl, hm⟩
/-- Bytes that are handed over. -/
theorem open_bytes {t e : TypeId} {v : Value} {d : DataW H} {ps : List MemPlace} (ht : P.underlying t = some (.slice e)) (he : P.underlying e = some (.int .u8)) (hc : P.cellsOf e = 1) (h : DataW.Trod enc P W 0 (fun _ => true) true t v d ps) (hv : v.cells.toList = [v]) :
    ∃ ns : List Nat, Old (rs k8) W v ns := by
  obtain ⟨fuel, hf⟩ := h
  rcases open_ints ht he hc hf with ⟨hc, hx⟩ | ⟨a, len, cap, zs, hc, _, hl, hm, hzl, hx, hcell, hwf⟩
  · rw [hv] at hc
    simp at hc
    subst hc
    exact ⟨[], old_rs rfl rfl (Nat.le_refl _) (Nat.zero_le _) (fun i hi => by simp at hi)⟩
  · rw [hv] at hc
    simp at hc
    subst hc
    simp only [if_true] at hzl
    refine ⟨(zs.take len).map Int.toNat, old_rs rfl (by simp; omega) hl hm (fun i hi => ?_)⟩
    have hi' : i < len := by simp at hi; omega
    have hz : i < zs.length := by omega
    obtain ⟨m, hm1, hm2⟩ := wf_u8 (hwf _ (List.getElem_mem hz))
    have e1 : zs.getD i 0 = (m : Int) := by rw [List.getD_eq_getElem?_getD, List.getElem?_eq_getElem hz]; exact hm1
    have e2 : ((zs.take len).map Int.toNat)[i] = m := by simp [hm1]
    refine ⟨a, _, rfl, hcell i hz, ?_⟩
    rw [e1, e2]
    exact fun I _ => ⟨rfl, hm2⟩
end Go.Proofs.Fw
namespace Go.Proofs.Fw
variable {P : Program} {n : Nat} {env : Env} {w : World} {ops : Array Oper} {K : Env → World → Prop} {d : Nat} {ty : TypeId} {pos : String} {after : Array Edge} {C : World → Prop} {flag : Nat → Bool} {r : List Step} {i : Nat} {op : Op}
/-- A guarded operation that is the only one that may come up, and is wanted. -/
theorem d_stepY {dst : Option Nat} {j dj : Nat} {want : Bool} (hi : ops[i]? = some ⟨dst, op, ty, pos, after, some (j, want)⟩) (hj : (ops[j]?).bind (·.dst) = some dj) (hb : lk env dj = some (.bool want))
    (h : WpL P ops n (fun env w' => (flag i = true → C w → C w') ∧ WpD P ops C flag n K r env w') [⟨dst, op, ty, pos, after, none⟩] env w) : WpD P ops C flag n K (.x i :: r) env w := by
  refine ⟨fun Q a hf hQ => ?_⟩
  have := h.go (fun e a w' => match e with | .normal => (flag i = true → C w → C w') ∧ wpD P ops Q C flag r a w' | _ => Q e a w') a hf (fun env' a' w' hf' hk => ⟨hk.1, hk.2.go Q a' hf' hQ⟩)
  have hw : Region.wanted ⟨dst, op, ty, pos, after, some (j, want)⟩ (yielded ops a.tmps) = true := by
    simp [Region.wanted, yielded, hj, hf.at_ dj _ hb]
  unfold wpD wpOp
  rw [hi]
  unfold wpList at this
  simp only [] at this ⊢
  rw [if_pos hw]
  rw [if_pos (by rfl)] at this
  rcases this with h | ⟨h1, h2⟩
  · exact .inl (upon_congr (fun a w h => h) (fun c a w h => h) (fun h => h) h)
  · exact .inr ⟨h1, h2⟩
/-- One that is not wanted. -/
theorem d_stepN {j dj : Nat} {want b : Bool} (hi : ops[i]? = some ⟨some d, op, ty, pos, after, some (j, want)⟩) (hd : Nat.ble (d + 1) n = true) (hj : (ops[j]?).bind (·.dst) = some dj) (hb : lk env dj = some (.bool b)) (hne : (b == want) = false)
    (h : WpD P ops C flag n K r ((d, undef) :: env) w) : WpD P ops C flag n K (.x i :: r) env w := by
  refine ⟨fun Q a hf hQ => ?_⟩
  have hne' : b ≠ want := by simpa using hne
  have hw : Region.wanted ⟨some d, op, ty, pos, after, some (j, want)⟩ (yielded ops a.tmps) = false := by
    simp [Region.wanted, yielded, hj, hf.at_ dj _ hb, hne']
  unfold wpD wpOp
  rw [hi]
  simp only []
  rw [if_neg (by rw [hw]; simp)]
  exact ⟨fun _ h => h, h.go Q _ (hf.put hd undef) hQ⟩
theorem e_eqlB {x y : Operand} {xt yt : TypeId} {i j : Bool} (ht : P.underlying xt = some .bool) (hx : ev env x = some (.bool i)) (hy : ev env y = some (.bool j)) : Ev P n env ⟨some d, .binOp .eql xt x y yt, ty, pos, after, none⟩ (.bool (i == j)) :=
  fun a w hf => by
    have hg : (eqGuard .eql xt x y (.bool i) (.bool j)).run P w = .ok () w := by simp [eqGuard, Sem.run_pure]
    have he := run_equal_bool (P := P) w xt i j ht
    simp [execOp, hf.eval hx, hf.eval hy, binOp, Sem.run_bind, Sem.run_pure, Result.andThen_ok, hg, he]
end Go.Proofs.Fw
