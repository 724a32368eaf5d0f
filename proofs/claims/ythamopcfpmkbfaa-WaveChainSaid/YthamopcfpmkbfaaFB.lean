/- The walk: maps, slices of what owns memory, structs, the library's contracts, slices taken apart. No condition. -/
import Derived.Test.YthamopcfpmkbfaaFA
import Derived.DeepKeys5
import Derived.Laws.Tables
import Derived.Sort.Row
import Derived.Sort.Grow
import Derived.Below
set_option linter.unusedVariables false
set_option linter.unusedSimpArgs false
namespace Go.Proofs.Fw
open Go.WideMaps (KeyLaw)
variable {P : Program} {n : Nat} {env : Env} {a : Act} {w w' : World} {ops : Array Oper} {K : Env → World → Prop} {rest : List Oper} {d : Nat} {ty : TypeId} {pos : String} {after : Array Edge}
variable {w0 : World} {L L' : List Res} {κ : Type}

/-- A map in block b that is owned: its keys are enc's, it holds what g says. -/
def MapIs (P : Program) (k : TypeId) (enc : κ → Value) (g : κ → Option Value) (es : Array MapEntry) : Prop :=
  (∀ e ∈ es.toList, ∃ x l, e.key = enc x ∧ keyOf P k (enc x) = some l) ∧ (es.toList.map (·.key)).Nodup ∧ ∀ x y, g x = some y ↔ ∃ e ∈ es.toList, e.key = enc x ∧ e.val = y
def mp (P : Program) (k : TypeId) (enc : κ → Value) (b : Nat) (g : κ → Option Value) : Res :=
  ⟨fun I h => ∃ es clock, h b = some (.map es clock) ∧ MapIs P k enc g es, fun s r => r, fun s ⟨es, clock, h1, h2⟩ => ⟨es, clock, s _ _ h1, h2⟩⟩
theorem St.mp_open {k : TypeId} {enc : κ → Value} {b : Nat} {g : κ → Option Value} (h : St w0 (mp P k enc b g :: L) w) : ∃ es clock, MapIs P k enc g es ∧ St w0 (blk b (.map es clock) :: L) w := by
  obtain ⟨I, gg, dd, aI, c, h1, h2, d2, s1, s2, ⟨es, clock, r1, r2⟩, l⟩ := h.mem
  exact ⟨es, clock, r2, ⟨h.b1, h.b2, h.b3, I, gg, dd, aI, c, h1, h2, d2, s1, s2, r1, l⟩⟩
theorem St.mp_close {k : TypeId} {enc : κ → Value} {b : Nat} {g : κ → Option Value} {es : Array MapEntry} {clock : Nat} (hm : MapIs P k enc g es) (h : St w0 (blk b (.map es clock) :: L) w) : St w0 (mp P k enc b g :: L) w :=
  h.mapHead fun I gg r => ⟨es, clock, r, hm⟩
theorem mapIs_nil (k : TypeId) (enc : κ → Value) : MapIs P k enc (fun _ => none) #[] := ⟨by simp, by simp, by simp⟩
/-- make(map[..]..) -/
theorem l_makeMap {t k : TypeId} {enc : κ → Value} (hd : Nat.ble (d + 1) n = true) (hs : St w0 L w)
    (h : ∀ b w', St w0 (mp P k enc b (fun _ => none) :: L) w' → WpL P ops n K rest ((d, .map (some b)) :: env) w') : WpL P ops n K (⟨some d, .makeMap t none, ty, pos, after, none⟩ :: rest) env w :=
  l_val (w' := w.alloc (.map #[] 0)) (.map (some w.heap.size)) hd (fun a hf => by simp [execOp, Instr.makeMap, newObj, Sem.run_bind, Sem.run_pure, Result.andThen_ok, Sem.run]) (h _ _ (St.mp_close (mapIs_nil k enc) (hs.alloc _)))
theorem run_getMap {b : Nat} {es : Array MapEntry} {clock : Nat} (h : w.heap[b]? = some (.map es clock)) : (getObj b).run P w = .ok (.map es clock) w := by
  simp [getObj, Sem.run, h]
theorem run_setMap {b : Nat} {es : Array MapEntry} {clock : Nat} {o : Obj} (h : w.heap[b]? = some (.map es clock)) : (setObj b o).run P w = .ok () { w with heap := w.heap.setIfInBounds b o } := by
  simp [setObj, Sem.run, h]
theorem run_look {t k e : TypeId} {enc : κ → Value} {b : Nat} {g : κ → Option Value} {z : Value} {x : κ} {l : Lit} (KL : KeyLaw P k) (ht : P.underlying t = some (.map k e)) (hz : ZeroIs P e z) (hx : keyOf P k (enc x) = some l) (h : St w0 (mp P k enc b g :: L) w) :
    (Instr.lookup t (.map (some b)) (enc x) false).run P w = .ok ((g x).getD z) w := by
  obtain ⟨es, clock, hm, h⟩ := h.mp_open
  have hb := h.blk_at
  obtain ⟨m1, m2, m3⟩ := hm
  have hall : ∀ e ∈ es.toList, ∃ l, keyOf P k e.key = some l := fun e he => by obtain ⟨x, l, h1, h2⟩ := m1 e he; exact ⟨l, by rw [h1]; exact h2⟩
  have hg : ∀ r : Option (Nat × Value), ((r = none ∧ ∀ e ∈ es.toList, e.key ≠ enc x) ∨ ∃ j e, r = some (j, e.val) ∧ es.toList[j]? = some e ∧ e.key = enc x) → (match r with | some (_, v) => v | none => z) = (g x).getD z := by
    rintro r (⟨rfl, hno⟩ | ⟨j, e, rfl, hj, hk⟩)
    · cases hgx : g x with
      | none => rfl
      | some y => obtain ⟨e, he, hk, _⟩ := (m3 x y).1 hgx; exact absurd hk (hno e he)
    · have := (m3 x e.val).2 ⟨e, List.mem_of_getElem? hj, hk, rfl⟩
      rw [this]; rfl
  rcases KL.find w hx es.toList hall with ⟨hf, hno⟩ | ⟨j, e, hf, hj, hk⟩
  · have := hg none (.inl ⟨rfl, hno⟩)
    simp only [] at this
    rw [← this]
    simp [Instr.lookup, run_underlying ht, run_getMap hb, KL.check w _ hx, hf, hz.run, Sem.run_bind, Sem.run_pure, Result.andThen_ok]
  · have := hg (some (j, e.val)) (.inr ⟨j, e, rfl, hj, hk⟩)
    simp only [] at this
    simp [Instr.lookup, run_underlying ht, run_getMap hb, KL.check w _ hx, hf, Sem.run_bind, Sem.run_pure, Result.andThen_ok, this]
/-- m[x] -/
theorem l_lookup {t k e : TypeId} {enc : κ → Value} {b : Nat} {g : κ → Option Value} {z : Value} {x : κ} {l : Lit} {m y : Operand} (hd : Nat.ble (d + 1) n = true) (KL : KeyLaw P k) (ht : P.underlying t = some (.map k e)) (hz : ZeroIs P e z) (hk : keyOf P k (enc x) = some l)
    (hm : ev env m = some (.map (some b))) (hy : ev env y = some (enc x)) (hs : St w0 (mp P k enc b g :: L) w) (h : WpL P ops n K rest ((d, (g x).getD z) :: env) w) : WpL P ops n K (⟨some d, .lookup t m y false, ty, pos, after, none⟩ :: rest) env w :=
  l_val _ hd (fun a hf => by simp [execOp, hf.eval hm, hf.eval hy, run_look KL ht hz hk hs, Sem.run_bind, Sem.run_pure, Result.andThen_ok]) h
theorem mapIs_push [DecidableEq κ] {k : TypeId} {enc : κ → Value} {g : κ → Option Value} {es : Array MapEntry} {x : κ} {l : Lit} {v : Value} {c : Nat} (inj : ∀ x y, enc x = enc y → x = y) (hx : keyOf P k (enc x) = some l) (hm : MapIs P k enc g es) (hno : ∀ e ∈ es.toList, e.key ≠ enc x) :
    MapIs P k enc (fun y => if y = x then some v else g y) (es.push { key := enc x, val := v, born := c }) := by
  obtain ⟨m1, m2, m3⟩ := hm
  refine ⟨?_, ?_, ?_⟩
  · intro e he
    simp only [Array.toList_push, List.mem_append, List.mem_singleton] at he
    rcases he with he | rfl
    · exact m1 e he
    · exact ⟨x, l, rfl, hx⟩
  · simp only [Array.toList_push, List.map_append, List.map_cons, List.map_nil]
    refine List.nodup_append.2 ⟨m2, by simp, ?_⟩
    intro a ha b hb
    simp only [List.mem_singleton] at hb
    subst hb
    obtain ⟨e, he, rfl⟩ := List.mem_map.1 ha
    exact hno e he
  · intro y u
    simp only [Array.toList_push, List.mem_append, List.mem_singleton]
    by_cases hyx : y = x
    · subst hyx
      simp only [if_true]
      constructor
      · intro h; cases h; exact ⟨_, .inr rfl, rfl, rfl⟩
      · rintro ⟨e, he | rfl, h1, h2⟩
        · exact absurd h1 (hno e he)
        · exact congrArg some h2
    · simp only [if_neg hyx]
      rw [m3]
      constructor
      · rintro ⟨e, he, h1, h2⟩; exact ⟨e, .inl he, h1, h2⟩
      · rintro ⟨e, he | rfl, h1, h2⟩
        · exact ⟨e, he, h1, h2⟩
        · exact absurd (inj _ _ h1).symm hyx
theorem mapIs_set [DecidableEq κ] {k : TypeId} {enc : κ → Value} {g : κ → Option Value} {es : Array MapEntry} {x : κ} {v : Value} {j : Nat} {e0 : MapEntry} (inj : ∀ x y, enc x = enc y → x = y) (hm : MapIs P k enc g es) (hj : es.toList[j]? = some e0) (hk : e0.key = enc x) :
    MapIs P k enc (fun y => if y = x then some v else g y) (es.modify j fun e => { e with key := enc x, val := v }) := by
  obtain ⟨m1, m2, m3⟩ := hm
  have hjl : j < es.toList.length := (List.getElem?_eq_some_iff.1 hj).1
  have hje : es.toList[j] = e0 := (List.getElem?_eq_some_iff.1 hj).2
  have hl : (es.modify j fun e => { e with key := enc x, val := v }).toList = es.toList.set j { e0 with key := enc x, val := v } := by
    apply List.ext_getElem?
    intro i
    rw [Array.getElem?_toList, Array.getElem?_modify, List.getElem?_set, Array.getElem?_toList]
    by_cases hij : j = i
    · subst hij
      rw [if_pos rfl, if_pos rfl, if_pos hjl, ← Array.getElem?_toList, hj]
      rfl
    · rw [if_neg hij, if_neg hij]
  have hkeys : (es.toList.set j { e0 with key := enc x, val := v }).map (·.key) = es.toList.map (·.key) := by
    rw [List.map_set]
    apply List.ext_getElem?
    intro i
    rw [List.getElem?_set, List.getElem?_map]
    by_cases hij : j = i
    · subst hij
      rw [if_pos rfl, List.length_map, if_pos hjl, hj]
      simp [hk]
    · rw [if_neg hij]
  have huniq : ∀ i e, es.toList[i]? = some e → e.key = enc x → i = j := by
    intro i e hi he
    have h1 : (es.toList.map (·.key))[i]? = some (enc x) := by rw [List.getElem?_map, hi]; simp [he]
    have h2 : (es.toList.map (·.key))[j]? = some (enc x) := by rw [List.getElem?_map, hj]; simp [hk]
    exact (List.getElem?_inj (by simpa using (List.getElem?_eq_some_iff.1 hi).1) m2).1 (h1.trans h2.symm)
  refine ⟨?_, ?_, ?_⟩
  · intro e he
    rw [hl] at he
    rcases List.mem_or_eq_of_mem_set he with he | rfl
    · exact m1 e he
    · obtain ⟨x', l, h1, h2⟩ := m1 e0 (List.mem_of_getElem? hj)
      exact ⟨x', l, by rw [← h1, hk], h2⟩
  · rw [hl, hkeys]; exact m2
  · intro y u
    rw [hl]
    by_cases hyx : y = x
    · subst hyx
      simp only [if_true]
      constructor
      · intro h; cases h
        exact ⟨_, List.mem_set hjl _, rfl, rfl⟩
      · rintro ⟨e, he, h1, h2⟩
        obtain ⟨i, hi⟩ := List.getElem?_of_mem he
        rw [List.getElem?_set] at hi
        by_cases hij : j = i
        · rw [if_pos hij, if_pos hjl] at hi; cases hi; exact congrArg some h2
        · rw [if_neg hij] at hi
          exact absurd (huniq i e hi h1).symm hij
    · simp only [if_neg hyx]
      rw [m3]
      constructor
      · rintro ⟨e, he, h1, h2⟩
        obtain ⟨i, hi⟩ := List.getElem?_of_mem he
        refine ⟨e, ?_, h1, h2⟩
        have hij : j ≠ i := fun hij => by
          subst hij; rw [hj] at hi; cases hi
          exact hyx (inj _ _ (h1.symm.trans hk))
        exact List.mem_of_getElem? (i := i) (by rw [List.getElem?_set, if_neg hij]; exact hi)
      · rintro ⟨e, he, h1, h2⟩
        obtain ⟨i, hi⟩ := List.getElem?_of_mem he
        rw [List.getElem?_set] at hi
        by_cases hij : j = i
        · rw [if_pos hij, if_pos hjl] at hi
          cases hi
          exact absurd (inj _ _ h1).symm hyx
        · rw [if_neg hij] at hi
          exact ⟨e, List.mem_of_getElem? hi, h1, h2⟩
theorem run_update [DecidableEq κ] {t k e : TypeId} {enc : κ → Value} {b : Nat} {g : κ → Option Value} {v : Value} {x : κ} {l : Lit} (KL : KeyLaw P k) (inj : ∀ x y, enc x = enc y → x = y) (ht : P.underlying t = some (.map k e)) (hx : keyOf P k (enc x) = some l) (h : St w0 (mp P k enc b g :: L) w) :
    ∃ w', (Instr.mapUpdate t (.map (some b)) (enc x) v).run P w = .ok () w' ∧ St w0 (mp P k enc b (fun y => if y = x then some v else g y) :: L) w' := by
  obtain ⟨es, clock, hm, h⟩ := h.mp_open
  have hb := h.blk_at
  have hlt : b < w.heap.size := (Array.getElem?_eq_some_iff.1 hb).1
  obtain ⟨m1, m2, m3⟩ := id hm
  have hall : ∀ e ∈ es.toList, ∃ l, keyOf P k e.key = some l := fun e he => by obtain ⟨x, l, h1, h2⟩ := m1 e he; exact ⟨l, by rw [h1]; exact h2⟩
  have change : ∀ es' c', St w0 (blk b (.map es' c') :: L) { w with heap := w.heap.setIfInBounds b (.map es' c') } := fun es' c' =>
    h.change rfl rfl rfl (by simp [hlt]) fun c hc u hu => by
      show (w.heap.setIfInBounds b _)[c]? = _
      rw [Array.getElem?_setIfInBounds_ne (Ne.symm hc)]; exact hu
  rcases KL.find w hx es.toList hall with ⟨hf, hno⟩ | ⟨j, e0, hf, hj, hk⟩
  · refine ⟨_, ?_, St.mp_close (mapIs_push (c := clock) inj hx hm hno) (change _ (clock + 1))⟩
    simp [Instr.mapUpdate, run_underlying ht, run_getMap hb, KL.check w _ hx, hf, run_setMap hb, Sem.run_bind, Sem.run_pure, Result.andThen_ok]
  · refine ⟨_, ?_, St.mp_close (mapIs_set inj hm hj hk) (change _ clock)⟩
    have hst := KL.stays w hx
    have hj' : es[j]? = some e0 := by rw [← Array.getElem?_toList]; exact hj
    simp [Instr.mapUpdate, run_underlying ht, run_getMap hb, KL.check w _ hx, hf, run_setMap hb, hj', hk, hst, Sem.run_bind, Sem.run_pure, Result.andThen_ok]
/-- m[x] = v -/
theorem l_mapUpdate [DecidableEq κ] {t k e : TypeId} {enc : κ → Value} {b : Nat} {g : κ → Option Value} {v : Value} {x : κ} {l : Lit} {m y z : Operand} (KL : KeyLaw P k) (inj : ∀ x y, enc x = enc y → x = y) (ht : P.underlying t = some (.map k e)) (hk : keyOf P k (enc x) = some l)
    (hm : ev env m = some (.map (some b))) (hy : ev env y = some (enc x)) (hz : ev env z = some v) (hs : St w0 (mp P k enc b g :: L) w)
    (h : ∀ w', St w0 (mp P k enc b (fun y => if y = x then some v else g y) :: L) w' → WpL P ops n K rest env w') : WpL P ops n K (⟨none, .mapUpdate t m y z, ty, pos, after, none⟩ :: rest) env w := by
  obtain ⟨w', hrun, hst⟩ := run_update (v := v) KL inj ht hk hs
  exact l_unit (fun a hf => by simp [execOp, hf.eval hm, hf.eval hy, hf.eval hz, hrun, Sem.run_bind, Sem.run_pure, Result.andThen_ok]) (h w' hst)
end Go.Proofs.Fw
namespace Go.Proofs.Fw
variable {P : Program} {n : Nat} {env : Env} {a : Act} {w w' : World} {ops : Array Oper} {K : Env → World → Prop} {rest : List Oper} {d : Nat} {ty : TypeId} {pos : String} {after : Array Edge}
variable {w0 : World} {L L' : List Res}

theorem SzIs.of {t : TypeId} {s : Nat} (h : (P.info? t).map (·.size) = some s) : SzIs P t s := by
  obtain ⟨i, hi, e⟩ := Option.map_eq_some_iff.1 h; exact ⟨i, hi, e⟩
theorem ZeroIs.of {t : TypeId} {z : Value} (h : (P.info? t).bind (·.zero) = some z) : ZeroIs P t z := by
  obtain ⟨i, hi, e⟩ := Option.bind_eq_some_iff.1 h; exact ⟨i, hi, e⟩
def plainB (P : Program) (t : TypeId) : Bool := match P.underlying t with
  | some (.struct _) | some (.array _ _) | none => false
  | _ => true
theorem Plain.of {t : TypeId} (h : (P.info? t).map (·.size) = some 1) (hb : plainB P t = true) : Plain P t := by
  refine ⟨SzIs.of h, ?_⟩
  unfold plainB at hb
  cases hu : P.underlying t with
  | none => rw [hu] at hb; cases hb
  | some td => exact ⟨td, rfl, fun fs e => (by subst e; rw [hu] at hb; cases hb), fun m e' e => (by subst e; rw [hu] at hb; cases hb)⟩
theorem wrap_i64 {x : Int} (h1 : -9223372036854775808 ≤ x) (h2 : x ≤ 9223372036854775807) : IntKind.i64.wrap x = x := IntWalk.i64_in _ (by omega)
theorem i64_min : IntKind.i64.min = -9223372036854775808 := by decide
theorem i64_max : IntKind.i64.max = 9223372036854775807 := by decide
theorem St.i64 {v : Value} {m : Int} (h : St w0 (pt (kInt .i64) v m :: L) w) : v = .int .i64 m ∧ -9223372036854775808 ≤ m ∧ m ≤ 9223372036854775807 := by
  have := h.int
  rwa [i64_min, i64_max] at this
theorem St.addI64 (h : St w0 L w) (m : Int) (h1 : -9223372036854775808 ≤ m) (h2 : m ≤ 9223372036854775807) : St w0 (pt (kInt .i64) (.int .i64 m) m :: L) w := h.addInt .i64 m (by rw [i64_min]; exact h1) (by rw [i64_max]; exact h2)
theorem St.os_form' {α : Type} {Kx : Kd α} {e : TypeId} {v : Value} {xs : List α} (h : St w0 (pt (os e Kx) v xs :: L) w) {l : Nat} (hl : xs.length = l) : ∃ A c, v = .slice A l c ∧ l ≤ c ∧ c ≤ maxLen := by subst hl; exact h.os_form
theorem St.rs_form' {α : Type} {Kx : Kd α} {v : Value} {xs : List α} (h : St w0 (pt (rs Kx) v xs :: L) w) {l : Nat} (hl : xs.length = l) : ∃ A c, v = .slice A l c ∧ l ≤ c ∧ c ≤ maxLen := by subst hl; exact h.rs_form
section ints
variable {x y : Operand} {xt yt : TypeId} {i j : Int}
theorem l_addr (hd : Nat.ble (d + 1) n = true) (hx : ev env x = some (.int .i64 i)) (hy : ev env y = some (.int .i64 j)) (h1 : -9223372036854775808 ≤ i + j) (h2 : i + j ≤ 9223372036854775807) (h : WpL P ops n K rest ((d, .int .i64 (i + j)) :: env) w) :
    WpL P ops n K (⟨some d, .binOp .add xt x y yt, ty, pos, after, none⟩ :: rest) env w :=
  l_add hd hx hy (by rw [wrap_i64 h1 h2]; exact h)
theorem l_subr (hd : Nat.ble (d + 1) n = true) (hx : ev env x = some (.int .i64 i)) (hy : ev env y = some (.int .i64 j)) (h1 : -9223372036854775808 ≤ i - j) (h2 : i - j ≤ 9223372036854775807) (h : WpL P ops n K rest ((d, .int .i64 (i - j)) :: env) w) :
    WpL P ops n K (⟨some d, .binOp .sub xt x y yt, ty, pos, after, none⟩ :: rest) env w :=
  l_sub hd hx hy (by rw [wrap_i64 h1 h2]; exact h)
theorem e_addr (hx : ev env x = some (.int .i64 i)) (hy : ev env y = some (.int .i64 j)) (h1 : -9223372036854775808 ≤ i + j) (h2 : i + j ≤ 9223372036854775807) : Ev P n env ⟨some d, .binOp .add xt x y yt, ty, pos, after, none⟩ (.int .i64 (i + j)) := by
  have := e_add (P := P) (n := n) (d := d) (ty := ty) (pos := pos) (after := after) (xt := xt) (yt := yt) hx hy
  rwa [wrap_i64 h1 h2] at this
theorem e_subr (hx : ev env x = some (.int .i64 i)) (hy : ev env y = some (.int .i64 j)) (h1 : -9223372036854775808 ≤ i - j) (h2 : i - j ≤ 9223372036854775807) : Ev P n env ⟨some d, .binOp .sub xt x y yt, ty, pos, after, none⟩ (.int .i64 (i - j)) := by
  have := e_sub (P := P) (n := n) (d := d) (ty := ty) (pos := pos) (after := after) (xt := xt) (yt := yt) hx hy
  rwa [wrap_i64 h1 h2] at this
end ints
theorem vT {p : Prop} [Decidable p] (h : p) : Value.bool (decide p) = .bool true := by rw [decide_eq_true h]
theorem vF {p : Prop} [Decidable p] (h : ¬ p) : Value.bool (decide p) = .bool false := by rw [decide_eq_false h]
theorem vnT {p : Prop} [Decidable p] (h : ¬ p) : Value.bool (!decide p) = .bool true := by rw [decide_eq_false h]; rfl
theorem vnF {p : Prop} [Decidable p] (h : p) : Value.bool (!decide p) = .bool false := by rw [decide_eq_true h]; rfl
/-- Ways meet again behind the first part: what is known there is told. -/
theorem c_seqS {x y : Code} {Q : Exit → Env → World → Prop} (small : Env) (S : World → Prop) (hx : WpC P n (Then (fun env w => Fw.Sub env small ∧ S w) Q) x env w) (hy : ∀ w, S w → WpC P n Q y small w) : WpC P n Q (.seq x y) env w :=
  c_seq (hx.mono fun e env w h => by
    cases e with
    | normal => exact WpC.weak small h.1 (hy w h.2)
    | _ => exact h)
/-- A function's body, its slots' number told. -/
theorem f_one {f : FuncId} {fn : Func} {c : Code} {vs : List Value} {r m : Nat} {R : Ending → World → Prop} (hf : P.funcs[f]? = some fn) (hb : fn.body = some c) (hr : fn.results = #[.tmp r]) (hm : fn.ntmps = m) (hn : Nat.ble vs.length m = true)
    (h : WpC P m (fun e env w => (e = .normal ∨ e = .ret) ∧ ∃ v, lk env r = some v ∧ R (.returned v) w) c (argsEnv 0 vs) w) : Calls P f vs.toArray w R := by
  subst hm; exact calls_one hf hb hr hn h
theorem f_two {f : FuncId} {fn : Func} {c : Code} {vs : List Value} {r s m : Nat} {R : Ending → World → Prop} (hf : P.funcs[f]? = some fn) (hb : fn.body = some c) (hr : fn.results = #[.tmp r, .tmp s]) (hm : fn.ntmps = m) (hn : Nat.ble vs.length m = true)
    (h : WpC P m (fun e env w => (e = .normal ∨ e = .ret) ∧ ∃ v u, lk env r = some v ∧ lk env s = some u ∧ R (.returned (.tuple #[v, u])) w) c (argsEnv 0 vs) w) : Calls P f vs.toArray w R := by
  subst hm; exact calls_two hf hb hr hn h
theorem f_zero {f : FuncId} {fn : Func} {c : Code} {vs : List Value} {m : Nat} {R : Ending → World → Prop} (hf : P.funcs[f]? = some fn) (hb : fn.body = some c) (hr : fn.results = #[]) (hm : fn.ntmps = m) (hn : Nat.ble vs.length m = true)
    (h : WpC P m (fun e env w => (e = .normal ∨ e = .ret) ∧ R (.returned (.tuple #[])) w) c (argsEnv 0 vs) w) : Calls P f vs.toArray w R := by
  subst hm; exact calls_zero hf hb hr hn h
/-- What a function hands back: a value that stands for x, and the memory. -/
def Gives {α : Type} (w0 : World) (Kd : Kd α) (x : α) (L : List Res) (e : Ending) (w : World) : Prop := ∃ v, e = .returned v ∧ St w0 (pt Kd v x :: L) w
end Go.Proofs.Fw
namespace Go.Proofs.Fw
variable {P : Program} {n : Nat} {env : Env} {a : Act} {w w' : World} {ops : Array Oper} {K : Env → World → Prop} {rest : List Oper} {d : Nat} {ty : TypeId} {pos : String} {after : Array Edge}
variable {w0 : World} {L L' : List Res} {α : Type} {Kx : Kd α} {e : TypeId} {v u : Value} {x : α} {xs ys : List α}

/-! ### one element is lent -/
/-- A slice that is owned, but for what its element i owns. -/
def hole (e : TypeId) (Kx : Kd α) (v : Value) (xs : List α) (i : Nat) : Res := {
  p I h := ∃ b cap cells g1 g2, v = .slice (some ⟨b, 0, none⟩) xs.length cap ∧ h b = some (.cells cells e (0, 0)) ∧ g1 b = none ∧ g2 b = none ∧ PH.disj g1 g2 ∧ PH.sub g1 h ∧ PH.sub g2 h ∧ xs.length ≤ cap ∧ cap ≤ maxLen ∧ cells.size = cap * Kx.sz ∧
    Elems Kx I cells.toList g1 0 (xs.take i) ∧ Elems Kx I cells.toList g2 ((i + 1) * Kx.sz) (xs.drop (i + 1))
  mono s := fun ⟨b, cap, cells, g1, g2, k1, k2, k3, k4, k5, k6, k7, k8, k9, k10, k11, k12⟩ => ⟨b, cap, cells, g1, g2, k1, k2, k3, k4, k5, k6, k7, k8, k9, k10, k11.mono s, k12.mono s⟩
  up s := fun ⟨b, cap, cells, g1, g2, k1, k2, k3, k4, k5, k6, k7, k8, k9, k10, k11, k12⟩ => ⟨b, cap, cells, g1, g2, k1, s _ _ k2, k3, k4, k5, PH.sub_trans k6 s, PH.sub_trans k7 s, k8, k9, k10, k11, k12⟩ }
theorem split_at {xs : List α} {i : Nat} (hi : i < xs.length) : xs = xs.take i ++ xs[i] :: xs.drop (i + 1) := by
  rw [← List.drop_eq_getElem_cons hi, List.take_append_drop]
theorem St.os_take (h : St w0 (pt (os e Kx) v xs :: L) w) (hs : Kx.sz = 1) {A : Option Addr} {l c : Nat} (hv : v = .slice A l c) (i : Nat) (hi : i < xs.length) :
    ∃ ad u, A = some ad ∧ w.cell? (ad.add i) = some u ∧ St w0 (pt Kx u xs[i] :: hole e Kx v xs i :: L) w := by
  obtain ⟨I, g, dg, aI, cg, h1, h2, d2, s1, s2, r, l'⟩ := h.mem
  rcases r with ⟨r1, r2⟩ | ⟨b, cap, cells, h', k1, k2, k3, k4, k5, k6, k7, k8⟩
  · subst r2; simp at hi
  · subst hv
    simp at k1
    obtain ⟨rfl, rfl, rfl⟩ := k1
    have k8' := k8
    rw [split_at hi] at k8
    obtain ⟨g1, g2, dd, t1, t2, e1, e2⟩ := Elems.split k8
    obtain ⟨g3, g4, dd', t3, t4, ru, e3⟩ := e2
    have hlen : (xs.take i).length = i := by rw [List.length_take]; omega
    rw [hlen] at ru e3
    have hl1 := Kx.len ru
    simp only [hs, Nat.mul_one, Nat.zero_add] at ru hl1 e3
    obtain ⟨u, hu⟩ := take_one hl1
    rw [hu] at ru
    have sub3 : PH.sub g3 h1 := PH.sub_trans (PH.sub_trans t3 t2) k4
    have hb1 : g1 b = none := by
      cases hh : g1 b with
      | none => rfl
      | some o => rw [t1 b o hh] at k3; cases k3
    have hb4 : g4 b = none := by
      cases hh : g4 b with
      | none => rfl
      | some o => rw [t2 b o (t4 b o hh)] at k3; cases k3
    have hb3 : g3 b = none := by
      cases hh : g3 b with
      | none => rfl
      | some o => rw [t2 b o (t3 b o hh)] at k3; cases k3
    have d14 : PH.disj g1 g4 := PH.disj_sub dd t4
    have d3_14 : PH.disj g3 (PH.un g1 g4) := PH.disj_un (PH.disj_symm (PH.disj_sub dd t3)) dd'
    have d3b : PH.disj g3 (PH.one b (.cells cells e (0, 0))) := PH.disj_symm (PH.one_disj hb3)
    have db14 : PH.disj (PH.one b (.cells cells e (0, 0))) (PH.un g1 g4) := PH.one_disj (by simp [PH.un, hb1, hb4])
    have hn : PH.un (PH.one b (.cells cells e (0, 0))) (PH.un g1 g4) |>.disj h2 := PH.disj_sub2 d2 (PH.un_sub (PH.one_sub k2) (PH.un_sub (PH.sub_trans t1 k4) (PH.sub_trans (PH.sub_trans t4 t2) k4))) (PH.sub_refl _)
    refine ⟨_, u, rfl, ?_, ⟨h.b1, h.b2, h.b3, I, g, dg, aI, cg, g3, PH.un (PH.un (PH.one b (.cells cells e (0, 0))) (PH.un g1 g4)) h2, PH.disj_un (PH.disj_un d3b d3_14) (PH.disj_sub2 d2 sub3 (PH.sub_refl _)),
      PH.sub_trans sub3 s1, PH.un_sub (PH.sub_trans (PH.un_sub (PH.one_sub k2) (PH.un_sub (PH.sub_trans t1 k4) (PH.sub_trans (PH.sub_trans t4 t2) k4))) s1) s2, ru, ?_⟩⟩
    · rw [addr_add, Nat.zero_add, cell_le (PH.le_sub cg s1) k2]
      have := cell_of_take hu
      simpa using this
    · refine ⟨PH.un (PH.one b (.cells cells e (0, 0))) (PH.un g1 g4), h2, hn, PH.un_left _ _, PH.un_right hn, ?_, l'⟩
      refine ⟨b, c, cells, g1, g4, rfl, PH.un_left _ _ _ _ (PH.one_at _ _), hb1, hb4, d14, PH.sub_trans (PH.un_left _ _) (PH.un_right db14), PH.sub_trans (PH.un_right d14) (PH.un_right db14), k5, k6, k7, e1, ?_⟩
      rw [hs, Nat.mul_one]; exact e3
/-- The element is given back, or another one for it. -/
theorem St.os_give {i : Nat} (h : St w0 (hole e Kx v xs i :: pt Kx u x :: L) w) (hs : Kx.sz = 1) {A : Option Addr} {l c : Nat} (hv : v = .slice A l c) (hi : i < xs.length) :
    ∃ ad y, A = some ad ∧ w.cell? (ad.add i) = some y ∧ w.frozen? (ad.add i) = false ∧ St w0 (pt (os e Kx) v (xs.set i x) :: L) (w.setCell (ad.add i) u) := by
  obtain ⟨I, g, dg, aI, cg, h1, h2, d2, s1, s2, r, h3, h4, d3, s3, s4, ru, l'⟩ := h.mem
  obtain ⟨b, cap, cells, g1, g2, k1, k2, k3, k4, k5, k6, k7, k8, k9, k10, k11, k12⟩ := r
  subst hv
  simp at k1
  obtain ⟨rfl, rfl, rfl⟩ := k1
  have hgb : g b = some (.cells cells e (0, 0)) := s1 b _ k2
  have hwb : w.heap[b]? = some (.cells cells e (0, 0)) := cg b _ hgb
  have hlt : i < cells.size := by rw [k10, hs]; omega
  have none_of : ∀ {k : PH}, PH.sub k h2 → k b = none := fun {k} hk => by
    rcases d2 b with e' | e'
    · rw [k2] at e'; cases e'
    · cases hh : k b with
      | none => rfl
      | some o => rw [hk b o hh] at e'; cases e'
  have hIb : I b = none := by
    rcases dg b with e' | e'
    · exact e'
    · rw [hgb] at e'; cases e'
  have h3b : h3 b = none := none_of s3
  have h4b : h4 b = none := none_of s4
  -- what the elements own
  have d13 : PH.disj g1 h3 := PH.disj_sub2 d2 k6 s3
  have d23 : PH.disj g2 h3 := PH.disj_sub2 d2 k7 s3
  have d32 : PH.disj h3 g2 := PH.disj_symm d23
  have dE : PH.disj g1 (PH.un h3 g2) := PH.disj_un d13 k5
  have hEb : PH.un g1 (PH.un h3 g2) b = none := by simp [PH.un, k3, k4, h3b]
  have subE : PH.sub (PH.un g1 (PH.un h3 g2)) g := PH.un_sub (PH.sub_trans k6 s1) (PH.un_sub (PH.sub_trans s3 s2) (PH.sub_trans k7 s1))
  have dE4 : PH.disj (PH.un g1 (PH.un h3 g2)) h4 := PH.un_disj (PH.disj_sub2 d2 k6 s4) (PH.un_disj d3 (PH.disj_sub2 d2 k7 s4))
  have keep : ∀ {k : PH}, k b = none → PH.le k w → PH.le k (w.setCell ⟨b, i, none⟩ u) := fun {k} hk hl y o e' => by
    have hy : y ≠ b := fun e'' => by subst e''; rw [hk] at e'; cases e'
    rw [setCell_other hy]; exact hl y o e'
  have dN : PH.disj (PH.one b (.cells (cells.setIfInBounds i u) e (0, 0))) (PH.un g1 (PH.un h3 g2)) := PH.one_disj hEb
  have dN4 : PH.disj (PH.un (PH.one b (.cells (cells.setIfInBounds i u) e (0, 0))) (PH.un g1 (PH.un h3 g2))) h4 := PH.un_disj (PH.one_disj h4b) dE4
  refine ⟨_, (cells[i]?).getD undef, rfl, ?_, ?_, ⟨h.b1, h.b2, h.b3, I, PH.un (PH.un (PH.one b (.cells (cells.setIfInBounds i u) e (0, 0))) (PH.un g1 (PH.un h3 g2))) h4,
    PH.disj_un (PH.disj_un (PH.disj_symm (PH.one_disj hIb)) (PH.disj_sub dg subE)) (PH.disj_sub dg (PH.sub_trans s4 s2)), ?_, ?_, PH.un (PH.one b (.cells (cells.setIfInBounds i u) e (0, 0))) (PH.un g1 (PH.un h3 g2)), h4, dN4, PH.un_left _ _, PH.un_right dN4, ?_, l'⟩⟩
  · rw [addr_add, Nat.zero_add, cell_le cg hgb]; simp [hlt]
  · rw [addr_add]; simp [World.frozen?, hwb]
  · rw [addr_add, Nat.zero_add]; exact keep hIb aI
  · rw [addr_add, Nat.zero_add]
    have big : PH.le (PH.un (PH.un g1 (PH.un h3 g2)) h4) (w.setCell ⟨b, i, none⟩ u) := keep (by simp only [PH.un] at hEb ⊢; rw [hEb]; exact h4b) (PH.le_sub cg (PH.un_sub subE (PH.sub_trans s4 s2)))
    intro y o hy
    unfold PH.un at hy
    cases ho : PH.one b (.cells (cells.setIfInBounds i u) e (0, 0)) y with
    | some o' =>
      simp only [ho] at hy
      cases hy
      unfold PH.one at ho
      split at ho
      · rename_i hh; subst hh; cases ho; exact setCell_heap hwb
      · cases ho
    | none =>
      simp only [ho] at hy
      exact big y o (by unfold PH.un; exact hy)
  · refine .inr ⟨b, c, cells.setIfInBounds i u, PH.un g1 (PH.un h3 g2), by simp, PH.un_left _ _ _ _ (PH.one_at _ _), hEb, PH.un_right dN, by simpa using k8, k9, by simpa using k10, ?_⟩
    have hx : xs.set i x = xs.take i ++ x :: xs.drop (i + 1) := by
      rw [List.set_eq_take_append_cons_drop, if_pos hi]
    have hlen : (xs.take i).length = i := by rw [List.length_take]; omega
    rw [hx]
    have hcl : (cells.setIfInBounds i u).toList = cells.toList.set i u := by simp
    rw [hcl]
    refine Elems.append (g := PH.un h3 g2) dE (PH.un_left _ _) (PH.un_right dE) (Elems.congr (fun j hj => ?_) k11) ?_
    · rw [hs, take_one_eq, take_one_eq, List.getElem?_set_ne (by omega)]
    · rw [hlen, hs, Nat.mul_one, Nat.zero_add]
      refine ⟨h3, g2, d32, PH.un_left _ _, PH.un_right d32, ?_, ?_⟩
      · rw [hs, take_one_eq, List.getElem?_set_self (by simpa using hlt)]; exact ru
      · have := k12
        rw [hs, Nat.mul_one] at this
        rw [hs]
        refine Elems.congr (fun j hj => ?_) this
        rw [hs, take_one_eq, take_one_eq, List.getElem?_set_ne (by omega)]

/-! ### a variable of several cells -/
theorem setRow_other' {g k : Nat} {cs : Array Value} (h : k ≠ g) : (w.setRow g cs).heap[k]? = w.heap[k]? := setRow_other w g k cs h
/-- A whole variable is written. -/
theorem l_storeB {x y : Operand} {t t' : TypeId} {b : Nat} {old cells : Array Value} (hi : (P.info? t).map (·.size) = some cells.size) (ho : old.size = cells.size) (h1 : cells.toList.all (·.oneCell') = true) (hx : ev env x = some (.pointer (some ⟨b, 0, none⟩))) (hy : ev env y = some (.agg cells))
    (hs : St w0 (blk b (.cells old t' (0, 0)) :: L) w) (h : ∀ w', St w0 (blk b (.cells cells t' (0, 0)) :: L) w' → WpL P ops n K rest env w') : WpL P ops n K (⟨none, .store t x y, ty, pos, after, none⟩ :: rest) env w := by
  have hb := hs.blk_at
  refine l_unit (w' := w.setRow b cells) (fun a hf => ?_) (h _ (hs.change rfl rfl rfl (setRow_heap w b old cells t' (0, 0) hb) fun c hc u hu => by rw [setRow_other' hc]; exact hu))
  simp only [execOp, hf.eval hx, hf.eval hy, Instr.storeAt, Instr.sureAddr, Sem.run_bind, Sem.run_pure, Result.andThen_ok, run_storeVar_row w b t' t old cells hb hi ho (by simpa using h1)]
def aggB (P : Program) (t : TypeId) : Bool := match P.underlying t with
  | some (.struct _) | some (.array _ _) => true
  | _ => false
theorem run_isAgg {t : TypeId} (h : aggB P t = true) : (isAgg t).run P w = .ok true w := by
  unfold aggB at h
  cases hu : P.underlying t with
  | none => rw [hu] at h; cases h
  | some td =>
    simp only [isAgg, Sem.run_bind, run_underlying hu, Result.andThen_ok]
    rw [hu] at h
    cases td <;> first | rfl | cases h
theorem run_loadN {t : TypeId} {ad : Addr} {cs : List Value} (ht : aggB P t = true) (hs : (P.info? t).map (·.size) = some cs.length) (hc : ∀ j v, cs[j]? = some v → w.cell? (ad.add j) = some v) : (loadVar t ad).run P w = .ok (.agg cs.toArray) w := by
  obtain ⟨i, hi, he⟩ := Option.map_eq_some_iff.1 hs
  have hsz : SzIs P t cs.length := ⟨i, hi, he⟩
  simp [loadVar, Sem.run_bind, run_isAgg ht, hsz.run, run_loadCells_list w ad cs hc, Result.andThen_ok, Sem.run_pure]
/-- Some cells, read as one value. -/
theorem l_loadN {x : Operand} {t : TypeId} {ad : Addr} {cs : List Value} (hd : Nat.ble (d + 1) n = true) (ht : aggB P t = true) (hs : (P.info? t).map (·.size) = some cs.length) (hx : ev env x = some (.pointer (some ad))) (hc : ∀ j v, cs[j]? = some v → w.cell? (ad.add j) = some v)
    (h : WpL P ops n K rest ((d, .agg cs.toArray) :: env) w) : WpL P ops n K (⟨some d, .load t x, ty, pos, after, none⟩ :: rest) env w :=
  l_val _ hd (fun a hf => by simp [execOp, hf.eval hx, Instr.loadAt, Instr.sureAddr, Sem.run_bind, Sem.run_pure, Result.andThen_ok, run_loadN ht hs hc]) h
theorem St.blk_cells {b : Nat} {cs : Array Value} (h : St w0 (blk b (.cells cs e (0, 0)) :: L) w) : ∀ j v, cs.toList[j]? = some v → w.cell? ((⟨b, 0, none⟩ : Addr).add j) = some v := by
  intro j v hv
  rw [addr_add, Nat.zero_add, h.blk_cell]
  simpa using hv
/-- A whole variable is read. -/
theorem l_loadB {x : Operand} {t t' : TypeId} {b : Nat} {cells : Array Value} (hd : Nat.ble (d + 1) n = true) (ht : aggB P t = true) (hi : (P.info? t).map (·.size) = some cells.toList.length) (hx : ev env x = some (.pointer (some ⟨b, 0, none⟩)))
    (hs : St w0 (blk b (.cells cells t' (0, 0)) :: L) w) (h : WpL P ops n K rest ((d, .agg cells) :: env) w) : WpL P ops n K (⟨some d, .load t x, ty, pos, after, none⟩ :: rest) env w :=
  l_loadN (cs := cells.toList) hd ht hi hx hs.blk_cells (by simpa using h)
theorem zip_parts (f : Operand → Value) : ∀ (l : List (Nat × Operand)), l.map (fun p => (p.1, f p.2)) = (l.map Prod.fst).zip ((l.map Prod.snd).map f)
  | [] => rfl
  | p :: l => by simp only [List.map_cons, List.zip_cons_cons]; rw [zip_parts f l]
/-- A struct or an array out of its parts. -/
theorem e_build {t : TypeId} {parts : Array (Nat × Operand)} {vs : List Value} (cells : Array Value) (hp : evs env (parts.toList.map Prod.snd) = some vs) (hb : P.built t ((parts.toList.map Prod.fst).zip vs) = some cells) : Ev P n env ⟨some d, .build t parts, ty, pos, after, none⟩ (.agg cells) :=
  fun a w hf => by
    have e1 : (parts.map fun (i, x) => (i, a.eval x)).toList = (parts.toList.map Prod.fst).zip vs := by
      rw [Array.toList_map]
      have := zip_parts a.eval parts.toList
      rw [hf.evals hp] at this
      exact this
    have := run_build (P := P) w t (parts.map fun (i, x) => (i, a.eval x)) cells (by rw [e1]; exact hb)
    simp only [execOp, Sem.run_bind, this, Result.andThen_ok, Sem.run_pure]
theorem l_build {t : TypeId} {parts : Array (Nat × Operand)} {vs : List Value} (cells : Array Value) (hd : Nat.ble (d + 1) n = true) (hp : evs env (parts.toList.map Prod.snd) = some vs) (hb : P.built t ((parts.toList.map Prod.fst).zip vs) = some cells)
    (h : WpL P ops n K rest ((d, .agg cells) :: env) w) : WpL P ops n K (⟨some d, .build t parts, ty, pos, after, none⟩ :: rest) env w :=
  l_val _ hd (fun a hf => e_build cells hp hb a w hf) h
/-- One result, in a variable. -/
theorem f_cell {f : FuncId} {fn : Func} {c : Code} {vs : List Value} {r m : Nat} {t : TypeId} {R : Ending → World → Prop} (hf : P.funcs[f]? = some fn) (hb : fn.body = some c) (hr : fn.results = #[.cell r t]) (hm : fn.ntmps = m) (hn : Nat.ble vs.length m = true)
    (h : WpC P m (fun e env w => (e = .normal ∨ e = .ret) ∧ ∃ ad v, lk env r = some (.pointer (some ad)) ∧ (loadVar t ad).run P w = .ok v w ∧ R (.returned v) w) c (argsEnv 0 vs) w) : Calls P f vs.toArray w R := by
  subst hm
  refine calls_of_wp hf hb (h.go _ _ (fits_args vs (Nat.le_of_ble_eq_true hn)) ?_)
  rintro e env' a' w' hf' ⟨he, ad, v, hv, hl, hR⟩
  have hres : (results fn a'.tmps).run P w' = .ok v w' := by
    have : (a'.tmps[r]?).getD undef = .pointer (some ad) := by rw [hf'.at_ r _ hv]; rfl
    simp [results, hr, this, asAddr, hl, Sem.run_bind, Sem.run_pure, Result.andThen_ok]
  rcases he with rfl | rfl
  · exact ⟨hf'.defers, _, hres, hR⟩
  · exact ⟨hf'.defers, _, hres, hR⟩
end Go.Proofs.Fw
namespace Go.Proofs.Fw
variable {P : Program} {n : Nat} {env : Env} {a : Act} {w w' : World} {ops : Array Oper} {K : Env → World → Prop} {rest : List Oper} {d : Nat} {ty : TypeId} {pos : String} {after : Array Edge}
variable {w0 : World} {L L' : List Res} {α β : Type} {Kx : Kd α} {Ky : Kd β} {e : TypeId} {v u : Value} {x : α} {xs ys : List α}

def big : Nat := 1152921504606846976
def kN : Kd Nat := ⟨1, fun _ _ cs m => cs = [.int .i64 (m : Int)] ∧ m ≤ big, fun _ r => r, fun _ r => r, fun r => by rw [r.1]; rfl, fun r v hv => by rw [r.1] at hv; simp at hv; subst hv; rfl⟩
theorem kN_pers : kN.Pers := fun r => r
theorem St.nat {m : Nat} (h : St w0 (pt kN v m :: L) w) : v = .int .i64 (m : Int) ∧ m ≤ 1152921504606846976 := by
  obtain ⟨I, g, _, _, r⟩ := h.rep
  obtain ⟨r1, r2⟩ := r
  exact ⟨by simpa using r1, r2⟩
theorem St.addNat (h : St w0 L w) (m : Nat) (h1 : m ≤ 1152921504606846976) : St w0 (pt kN (.int .i64 (m : Int)) m :: L) w := h.add ⟨rfl, h1⟩
/-- A struct of two numbers. -/
def kPair : Kd (Nat × Nat) := ⟨2, fun _ _ cs p => cs = [.int .i64 (p.1 : Int), .int .i64 (p.2 : Int)] ∧ p.1 ≤ big ∧ p.2 ≤ big, fun _ r => r, fun _ r => r, fun r => by rw [r.1]; rfl, fun r v hv => by
  rw [r.1] at hv
  simp at hv
  rcases hv with rfl | rfl <;> rfl⟩
theorem kPair_pers : kPair.Pers := fun r => r

/-! ### one kind as another -/
/-- Where x is of s, what stands for x by Kx stands for f x by Ky. -/
def Turns (Kx : Kd α) (Ky : Kd β) (f : α → β) (s : α → Prop) : Prop := Kx.sz = Ky.sz ∧ ∀ I h cs x, s x → Kx.rep I h cs x → Ky.rep I h cs (f x)
theorem Elems.turn {f : α → β} {s : α → Prop} (t : Turns Kx Ky f s) {I : PH} {l : List Value} : ∀ {xs : List α} {h : PH} {off : Nat}, (∀ x ∈ xs, s x) → Elems Kx I l h off xs → Elems Ky I l h off (xs.map f)
  | [], _, _, _, _ => trivial
  | x :: xs, h, off, hs, ⟨h1, h2, d, s1, s2, r, e⟩ => by
    refine ⟨h1, h2, d, s1, s2, ?_, ?_⟩
    · rw [← t.1]; exact t.2 _ _ _ _ (hs x (by simp)) r
    · have := Elems.turn t (fun y hy => hs y (by simp [hy])) e
      rw [← t.1]; exact this
theorem os_turns {f : α → β} {s : α → Prop} (t : Turns Kx Ky f s) : Turns (os e Kx) (os e Ky) (List.map f) (fun xs => ∀ x ∈ xs, s x) := by
  refine ⟨rfl, fun I h cs xs hs r => ?_⟩
  rcases r with ⟨h1, h2⟩ | ⟨b, cap, cells, h', k1, k2, k3, k4, k5, k6, k7, k8⟩
  · subst h2; exact .inl ⟨h1, rfl⟩
  · exact .inr ⟨b, cap, cells, h', by simpa using k1, k2, k3, k4, by simpa using k5, k6, by rw [← t.1]; exact k7, k8.turn t hs⟩
theorem rs_turns {f : α → β} {s : α → Prop} (t : Turns Kx Ky f s) : Turns (rs Kx) (rs Ky) (List.map f) (fun xs => ∀ x ∈ xs, s x) := by
  refine ⟨rfl, fun I h cs xs hs r => ?_⟩
  obtain ⟨A, c, h1, h2, h3, h4⟩ := r
  refine ⟨A, c, by simpa using h1, by simpa using h2, h3, ?_⟩
  rcases h4 with h4 | ⟨b, off, cells, e, fr, k1, k2, k3⟩
  · subst h4; exact .inl rfl
  · exact .inr ⟨b, off, cells, e, fr, k1, k2, k3.turn t hs⟩
theorem kI_kN : Turns (kInt .i64) kN Int.toNat (fun x => 0 ≤ x ∧ x ≤ 1152921504606846976) := by
  refine ⟨rfl, fun I h cs x hx r => ?_⟩
  obtain ⟨r1, _⟩ := r
  have : ((x.toNat : Nat) : Int) = x := by omega
  exact ⟨by rw [this]; exact r1, by unfold big; omega⟩
theorem kN_kI : Turns kN (kInt .i64) (fun m => (m : Int)) (fun _ => True) := by
  refine ⟨rfl, fun I h cs x _ r => ?_⟩
  obtain ⟨r1, r2⟩ := r
  refine ⟨r1, ?_, ?_⟩
  · rw [i64_min]; show (-9223372036854775808 : Int) ≤ (x : Int); omega
  · rw [i64_max]; unfold big at r2; show (x : Int) ≤ 9223372036854775807; omega
theorem St.turn {f : α → β} {s : α → Prop} (t : Turns Kx Ky f s) {cs : List Value} (h : St w0 (pts Kx cs x :: L) w) (hs : s x) : St w0 (pts Ky cs (f x) :: L) w := h.mapHead fun I g r => t.2 I g cs x hs r

/-! ### elements of several cells -/
/-- The cells of an element of what is owned. -/
theorem St.os_cells (h : St w0 (pt (os e Kx) v xs :: L) w) (p : Kx.Pers) {A : Option Addr} {l c : Nat} (hv : v = .slice A l c) (i : Nat) (hi : i < xs.length) :
    ∃ ad cs, A = some ad ∧ (∀ j u, cs[j]? = some u → w.cell? (ad.add (i * Kx.sz + j)) = some u) ∧ St w0 (pts Kx cs xs[i] :: pt (os e Kx) v xs :: L) w := by
  obtain ⟨I, g, d, a, cc, h1, h2, d2, s1, s2, r, l⟩ := h.mem
  have r0 := r
  rcases r with ⟨r1, r2⟩ | ⟨b, cap, cells, h', k1, k2, k3, k4, k5, k6, k7, k8⟩
  · subst r2; simp at hi
  · subst hv
    simp at k1
    obtain ⟨rfl, rfl, rfl⟩ := k1
    obtain ⟨g', s', r'⟩ := Elems.get i hi k8
    refine ⟨_, _, rfl, ?_, ⟨h.b1, h.b2, h.b3, I, g, d, a, cc, PH.empty, g, PH.empty_disj _, PH.empty_sub _, PH.sub_refl _, p r', h1, h2, d2, s1, s2, r0, l⟩⟩
    intro j u hu
    rw [addr_add, Nat.zero_add, cell_le (PH.le_sub cc s1) k2]
    rw [List.getElem?_take] at hu
    split at hu
    · simpa using hu
    · cases hu
theorem St.pair {cs : List Value} {p : Nat × Nat} (h : St w0 (pts kPair cs p :: L) w) : cs = [.int .i64 (p.1 : Int), .int .i64 (p.2 : Int)] ∧ p.1 ≤ 1152921504606846976 ∧ p.2 ≤ 1152921504606846976 := by
  obtain ⟨I, g, _, _, r⟩ := h.rep
  exact r
theorem add_add (ad : Addr) (i j : Nat) (h : ad.spot = none) : (ad.add i).add j = ad.add (i + j) := by
  obtain ⟨b, o, s⟩ := ad
  simp at h
  subst h
  rw [addr_add, addr_add, addr_add, Nat.add_assoc]
/-- One cell of an element is written. -/
theorem St.os_setCell (h : St w0 (pt (os e Kx) v xs :: L) w) (flat : ∀ {I h cs x}, Kx.rep I h cs x → Kx.rep PH.empty PH.empty cs x) {A : Option Addr} {l c : Nat} (hv : v = .slice A l c) (i j : Nat) (hi : i < xs.length) (hj : j < Kx.sz) (x' : α) (u : Value)
    (hu : ∀ cs, Kx.rep PH.empty PH.empty cs xs[i] → Kx.rep PH.empty PH.empty (cs.set j u) x') :
    ∃ ad y, A = some ad ∧ ad.spot = none ∧ w.cell? (ad.add (i * Kx.sz + j)) = some y ∧ w.frozen? (ad.add (i * Kx.sz + j)) = false ∧ St w0 (pt (os e Kx) v (xs.set i x') :: L) (w.setCell (ad.add (i * Kx.sz + j)) u) := by
  have hmem := h.mem
  obtain ⟨I, g, dg, aI, cg, h1, h2, d2, s1, s2, r, l'⟩ := h.mem
  rcases r with ⟨r1, r2⟩ | ⟨b, cap, cells, h', k1, k2, k3, k4, k5, k6, k7, k8⟩
  · subst r2; simp at hi
  · subst hv
    simp at k1
    obtain ⟨rfl, rfl, rfl⟩ := k1
    have hblk : St w0 (blk b (.cells cells e (0, 0)) :: L) w := ⟨h.b1, h.b2, h.b3, I, g, dg, aI, cg, h1, h2, d2, s1, s2, k2, l'⟩
    have hfit : (i + 1) * Kx.sz ≤ cells.size := by rw [k7]; exact Nat.mul_le_mul_right _ (by omega)
    have hlt : i * Kx.sz + j < cells.size := by rw [Nat.add_mul, Nat.one_mul] at hfit; omega
    have hnew := hblk.setCell (off := i * Kx.sz + j) u
    refine ⟨_, (cells[i * Kx.sz + j]?).getD undef, rfl, rfl, ?_, ?_, ?_⟩
    · rw [addr_add, Nat.zero_add, hblk.blk_cell]; simp [hlt]
    · rw [addr_add]; exact hblk.blk_free
    · rw [addr_add, Nat.zero_add]
      refine hnew.mapHead fun I2 g2 r2 => ?_
      refine .inr ⟨b, c, cells.setIfInBounds (i * Kx.sz + j) u, PH.empty, by simp, r2, rfl, PH.empty_sub _, by simpa using k5, k6, by simpa using k7, ?_⟩
      have hE : Elems Kx PH.empty cells.toList PH.empty 0 xs := by
        clear hu hi k5 k7
        have : ∀ {xs : List α} {h : PH} {off : Nat}, Elems Kx I cells.toList h off xs → Elems Kx PH.empty cells.toList PH.empty off xs := by
          intro xs
          induction xs with
          | nil => intro h off e; trivial
          | cons y ys ih =>
            rintro h off ⟨g1, g2, dd, t1, t2, r, e⟩
            exact ⟨PH.empty, PH.empty, PH.disj_empty _, PH.sub_refl _, PH.sub_refl _, flat r, ih e⟩
        exact this k8
      have : ∀ (xs : List α) (off i : Nat) (hi : i < xs.length), off + xs.length * Kx.sz ≤ cells.toList.length → Elems Kx PH.empty cells.toList PH.empty off xs → (∀ cs, Kx.rep PH.empty PH.empty cs xs[i] → Kx.rep PH.empty PH.empty (cs.set j u) x') →
          Elems Kx PH.empty (cells.toList.set (off + (i * Kx.sz + j)) u) PH.empty off (xs.set i x') := by
        intro xs
        induction xs with
        | nil => intro off i hi; simp at hi
        | cons y ys ih =>
          intro off i hi hlen hE hset
          obtain ⟨g1, g2, dd, t1, t2, r, e⟩ := hE
          cases i with
          | zero =>
            refine ⟨g1, g2, dd, t1, t2, ?_, ?_⟩
            · have h0 := hset _ (flat r)
              have e1 : ((cells.toList.set (off + (0 * Kx.sz + j)) u).drop off).take Kx.sz = ((cells.toList.drop off).take Kx.sz).set j u := by
                rw [Nat.zero_mul, Nat.zero_add, List.drop_set, if_neg (by omega), Nat.add_sub_cancel_left, List.take_set]
              rw [e1]
              exact Kx.mono (PH.empty_sub _) (Kx.up (PH.empty_sub _) h0)
            · refine Elems.congr (fun k hk => ?_) e
              rw [List.drop_set, if_pos (by omega)]
          | succ i =>
            refine ⟨g1, g2, dd, t1, t2, ?_, ?_⟩
            · have e1 : ((cells.toList.set (off + ((i + 1) * Kx.sz + j)) u).drop off).take Kx.sz = (cells.toList.drop off).take Kx.sz := by
                rw [List.drop_set, if_neg (by omega), List.take_set_of_le (by rw [Nat.add_mul]; omega)]
              rw [e1]; exact r
            · have hi' : i < ys.length := by simpa using hi
              have hlen' : off + Kx.sz + ys.length * Kx.sz ≤ cells.toList.length := by simp only [List.length_cons, Nat.add_mul, Nat.one_mul] at hlen; omega
              have g2e : g2 = PH.empty := by
                funext b
                cases hg : g2 b with
                | none => rfl
                | some o => exact absurd (t2 b o hg) (by simp [PH.empty])
              subst g2e
              have := ih (off + Kx.sz) i hi' hlen' e (by simpa using hset)
              rw [show off + ((i + 1) * Kx.sz + j) = off + Kx.sz + (i * Kx.sz + j) from by rw [Nat.add_mul]; omega]
              exact this
      have hl : 0 + xs.length * Kx.sz ≤ cells.toList.length := by
        have : xs.length * Kx.sz ≤ c * Kx.sz := Nat.mul_le_mul_right _ k5
        have h3 : cells.toList.length = cells.size := Array.length_toList
        omega
      have fin := this xs 0 i hi hl hE hu
      rw [Nat.zero_add] at fin
      have hcl : (cells.setIfInBounds (i * Kx.sz + j) u).toList = cells.toList.set (i * Kx.sz + j) u := by simp
      rw [hcl]
      exact fin.mono (PH.empty_sub _)
/-- A cut of what is owned: its first elements. -/
theorem St.os_cut {ad : Addr} {l c : Nat} (h : St w0 (pt (os e Kx) (.slice (some ad) l c) xs :: L) w) (i : Nat) (hi : i ≤ xs.length) : St w0 (pt (os e Kx) (.slice (some ad) i c) (xs.take i) :: L) w := by
  refine h.mapHead fun I g r => ?_
  rcases r with ⟨r1, r2⟩ | ⟨b, cap, cells, h', k1, k2, k3, k4, k5, k6, k7, k8⟩
  · simp at r1
  · simp at k1
    obtain ⟨rfl, rfl, rfl⟩ := k1
    rw [← List.take_append_drop i xs] at k8
    obtain ⟨g1, g2, dd, t1, t2, e1, e2⟩ := Elems.split k8
    refine .inr ⟨b, c, cells, g1, ?_, k2, ?_, PH.sub_trans t1 k4, ?_, k6, k7, e1⟩
    · have : (xs.take i).length = i := by rw [List.length_take]; omega
      rw [this]
    · cases hh : g1 b with
      | none => rfl
      | some o => rw [t1 b o hh] at k3; cases k3
    · rw [List.length_take]; omega
end Go.Proofs.Fw
namespace Go.Proofs.Fw
variable {P : Program} {n : Nat} {env : Env} {a : Act} {w w' : World} {ops : Array Oper} {K : Env → World → Prop} {rest : List Oper} {d : Nat} {ty : TypeId} {pos : String} {after : Array Edge}
variable {w0 : World} {L L' : List Res} {α : Type} {Kx : Kd α} {e : TypeId} {v u : Value} {x : α} {xs ys : List α}
/-- A store of an element that needs no memory of its own. -/
theorem l_storeE {s y : Operand} {t : TypeId} {p ad : Addr} {l c i : Nat} (ht : Plain P t) (hx : ev env s = some (.pointer (some p))) (hy : ev env y = some v) (hp : p = ad.add i) (hs : Kx.sz = 1) (hi : i < xs.length) (h : St w0 (pt (os e Kx) (.slice (some ad) l c) xs :: pt Kx v x :: L) w)
    (k : ∀ w', St w0 (pt (os e Kx) (.slice (some ad) l c) (xs.set i x) :: L) w' → WpL P ops n K rest env w') : WpL P ops n K (⟨none, .store t s y, ty, pos, after, none⟩ :: rest) env w := by
  subst hp
  have hone := pt_one (h.re [1])
  obtain ⟨ad', y', had, hc, hf, h'⟩ := h.os_set hs rfl i hi
  cases had
  exact l_store ht hx hy hone hc hf (k _ h')
theorem St.osN_ad {l c : Nat} {A : Option Addr} {xs : List α} (h : St w0 (pt (os e Kx) (.slice A l c) xs :: L) w) (hs : Kx.sz = 1) (p : Kx.Pers) {i : Nat} (hi : i < xs.length) : ∃ ad, A = some ad := by
  obtain ⟨ad, u, h1, h2, h3⟩ := h.os_cell hs p rfl i hi
  exact ⟨ad, h1⟩
theorem St.osN_at {l c : Nat} {ad : Addr} {xs : List Nat} (h : St w0 (pt (os e kN) (.slice (some ad) l c) xs :: L) w) {i : Nat} (hi : i < xs.length) : w.cell? (ad.add i) = some (.int .i64 (xs[i] : Int)) ∧ xs[i] ≤ 1152921504606846976 := by
  obtain ⟨ad', u, h1, h2, h3⟩ := h.os_cell rfl kN_pers rfl i hi
  cases h1
  obtain ⟨rfl, hb⟩ := h3.nat
  exact ⟨h2, hb⟩
theorem St.osI_at {l c : Nat} {ad : Addr} {xs : List Int} (h : St w0 (pt (os e (kInt .i64)) (.slice (some ad) l c) xs :: L) w) {i : Nat} (hi : i < xs.length) : w.cell? (ad.add i) = some (.int .i64 xs[i]) ∧ -9223372036854775808 ≤ xs[i] ∧ xs[i] ≤ 9223372036854775807 := by
  obtain ⟨ad', u, h1, h2, h3⟩ := h.os_cell rfl (kInt_pers .i64) rfl i hi
  cases h1
  obtain ⟨rfl, hb⟩ := h3.i64
  exact ⟨h2, hb⟩
theorem St.osB_at {l c : Nat} {ad : Addr} {xs : List Bool} (h : St w0 (pt (os e kBool) (.slice (some ad) l c) xs :: L) w) {i : Nat} (hi : i < xs.length) : w.cell? (ad.add i) = some (.bool xs[i]) := by
  obtain ⟨ad', u, h1, h2, h3⟩ := h.os_cell rfl kBool_pers rfl i hi
  cases h1
  rw [h3.bool] at h2
  exact h2
theorem St.rsN_ad {l c : Nat} {A : Option Addr} {xs : List α} (h : St w0 (pt (rs Kx) (.slice A l c) xs :: L) w) (hs : Kx.sz = 1) {i : Nat} (hi : i < xs.length) : ∃ ad, A = some ad := by
  obtain ⟨ad, u, h1, h2, h3⟩ := h.rs_cell hs rfl i hi
  exact ⟨ad, h1⟩
theorem St.rsN_at {l c : Nat} {ad : Addr} {xs : List Nat} (h : St w0 (pt (rs kN) (.slice (some ad) l c) xs :: L) w) {i : Nat} (hi : i < xs.length) : w.cell? (ad.add i) = some (.int .i64 (xs[i] : Int)) ∧ xs[i] ≤ 1152921504606846976 := by
  obtain ⟨ad', u, h1, h2, h3⟩ := h.rs_cell rfl rfl i hi
  cases h1
  obtain ⟨rfl, hb⟩ := h3.nat
  exact ⟨h2, hb⟩
theorem St.rsI_at {l c : Nat} {ad : Addr} {xs : List Int} (h : St w0 (pt (rs (kInt .i64)) (.slice (some ad) l c) xs :: L) w) {i : Nat} (hi : i < xs.length) : w.cell? (ad.add i) = some (.int .i64 xs[i]) ∧ -9223372036854775808 ≤ xs[i] ∧ xs[i] ≤ 9223372036854775807 := by
  obtain ⟨ad', u, h1, h2, h3⟩ := h.rs_cell rfl rfl i hi
  cases h1
  obtain ⟨rfl, hb⟩ := h3.i64
  exact ⟨h2, hb⟩
/-- A store into one cell of a block. -/
theorem l_storeF {s y : Operand} {t t' : TypeId} {b off : Nat} {cs : Array Value} (ht : Plain P t) (hx : ev env s = some (.pointer (some ⟨b, off, none⟩))) (hy : ev env y = some v) (hv : v.oneCell' = true) (hc : cs[off]? = some u) (h : St w0 (blk b (.cells cs t' (0, 0)) :: L) w)
    (k : ∀ w', St w0 (blk b (.cells (cs.setIfInBounds off v) t' (0, 0)) :: L) w' → WpL P ops n K rest env w') : WpL P ops n K (⟨none, .store t s y, ty, pos, after, none⟩ :: rest) env w :=
  l_store ht hx hy hv (h.blk_cell.trans hc) h.blk_free (k _ (h.setCell _))
/-! ### addresses that are spelled shortly -/
theorem e_fieldAddr0 {x : Operand} {t : TypeId} {b : Nat} {fs : Array Field} {f : Nat} {fd : Field} {s : Nat} (o : Nat) (ht : P.underlying t = some (.struct fs)) (hfd : fs[f]? = some fd) (hs : SzIs P fd.type (s + 1)) (ho : fd.offset = o) (hx : ev env x = some (.pointer (some ⟨b, 0, none⟩))) :
    Ev P n env ⟨some d, .fieldAddr t x f, ty, pos, after, none⟩ (.pointer (some ⟨b, o, none⟩)) := by
  have := e_fieldAddr (P := P) (n := n) (env := env) (d := d) (ty := ty) (pos := pos) (after := after) ht hfd hs hx
  rw [ho, addr_add, Nat.zero_add] at this
  exact this
theorem l_fieldAddr0 {x : Operand} {t : TypeId} {b : Nat} {fs : Array Field} {f : Nat} {fd : Field} {s : Nat} (o : Nat) (hd : Nat.ble (d + 1) n = true) (ht : P.underlying t = some (.struct fs)) (hfd : fs[f]? = some fd) (hs : SzIs P fd.type (s + 1)) (ho : fd.offset = o) (hx : ev env x = some (.pointer (some ⟨b, 0, none⟩)))
    (h : WpL P ops n K rest ((d, .pointer (some ⟨b, o, none⟩)) :: env) w) : WpL P ops n K (⟨some d, .fieldAddr t x f, ty, pos, after, none⟩ :: rest) env w :=
  l_val _ hd (fun a hf => e_fieldAddr0 o ht hfd hs ho hx a w hf) h
theorem e_fieldAddrA {x : Operand} {t : TypeId} {ad : Addr} {fs : Array Field} {f : Nat} {fd : Field} {s : Nat} (o : Nat) (ht : P.underlying t = some (.struct fs)) (hfd : fs[f]? = some fd) (hs : SzIs P fd.type (s + 1)) (ho : fd.offset = o) (hx : ev env x = some (.pointer (some ad))) :
    Ev P n env ⟨some d, .fieldAddr t x f, ty, pos, after, none⟩ (.pointer (some (ad.add o))) := by
  have := e_fieldAddr (P := P) (n := n) (env := env) (d := d) (ty := ty) (pos := pos) (after := after) ht hfd hs hx
  rwa [ho] at this
theorem l_fieldAddrA {x : Operand} {t : TypeId} {ad : Addr} {fs : Array Field} {f : Nat} {fd : Field} {s : Nat} (o : Nat) (hd : Nat.ble (d + 1) n = true) (ht : P.underlying t = some (.struct fs)) (hfd : fs[f]? = some fd) (hs : SzIs P fd.type (s + 1)) (ho : fd.offset = o) (hx : ev env x = some (.pointer (some ad)))
    (h : WpL P ops n K rest ((d, .pointer (some (ad.add o))) :: env) w) : WpL P ops n K (⟨some d, .fieldAddr t x f, ty, pos, after, none⟩ :: rest) env w :=
  l_val _ hd (fun a hf => e_fieldAddrA o ht hfd hs ho hx a w hf) h
theorem e_indexAddr1 {x y : Operand} {t e : TypeId} {ad : Addr} {l c i : Nat} {k : IntKind} (ht : P.underlying t = some (.slice e)) (hs : SzIs P e 1) (hx : ev env x = some (.slice (some ad) l c)) (hy : ev env y = some (.int k (i : Int))) (h1 : i < l) :
    Ev P n env ⟨some d, .indexAddr t x y, ty, pos, after, none⟩ (.pointer (some (ad.add i))) := by
  have := e_indexAddr (P := P) (n := n) (env := env) (d := d) (ty := ty) (pos := pos) (after := after) ht hs hx hy (by omega) (by omega)
  simpa using this
theorem l_indexAddr1 {x y : Operand} {t e : TypeId} {ad : Addr} {l c i : Nat} {k : IntKind} (hd : Nat.ble (d + 1) n = true) (ht : P.underlying t = some (.slice e)) (hs : SzIs P e 1) (hx : ev env x = some (.slice (some ad) l c)) (hy : ev env y = some (.int k (i : Int))) (h1 : i < l)
    (h : WpL P ops n K rest ((d, .pointer (some (ad.add i))) :: env) w) : WpL P ops n K (⟨some d, .indexAddr t x y, ty, pos, after, none⟩ :: rest) env w :=
  l_val _ hd (fun a hf => e_indexAddr1 ht hs hx hy h1 a w hf) h
theorem at_eq {ad : Addr} {i j : Nat} (h : i = j) : ad.add i = ad.add j := by rw [h]
end Go.Proofs.Fw
namespace Go.Proofs.Fw
variable {P : Program} {w w' : World} {w0 : World} {L L' : List Res} {α : Type} {Kx : Kd α} {e : TypeId} {v u : Value} {x : α} {xs ys : List α}
/-- Nothing of what is known has changed. -/
theorem St.keeps (h : St w0 L w) (hos : w'.os = w.os) (ht : w'.tape = w.tape) (ho : w'.output = w.output) (hk : ∀ (c : Nat) (u : Obj), w.heap[c]? = some u → w'.heap[c]? = some u) : St w0 L w' := by
  obtain ⟨I, g, d, a, c, s⟩ := h.mem
  exact ⟨hos.trans h.b1, ht.trans h.b2, ho.trans h.b3, I, g, d, fun b o e => hk _ _ (a b o e), fun b o e => hk _ _ (c b o e), s⟩
theorem St.below (h : St w0 L w) (hb : RowKit.Below w.heap.size w w') : St w0 L w' :=
  h.keeps hb.os hb.tape hb.output fun c u e => by rw [hb.block c (Array.getElem?_eq_some_iff.1 e).1]; exact e
/-- A block that was not there is owned. -/
theorem St.fresh (h : St w0 L w) (hb : RowKit.Below w.heap.size w w') {g : Nat} {o : Obj} (hg : w.heap.size ≤ g) (ho : w'.heap[g]? = some o) : St w0 (blk g o :: L) w' := by
  have h' := h.below hb
  obtain ⟨I, k, d, a, c, s⟩ := h.mem
  have none_at : ∀ {q : PH}, PH.le q w → q g = none := fun {q} hq => by
    cases e : q g with
    | none => rfl
    | some u =>
      have h1 := (Array.getElem?_eq_some_iff.1 (hq _ _ e)).1
      omega
  have keep : ∀ {q : PH}, PH.le q w → PH.le q w' := fun hq b o e => by
    have h1 := hq _ _ e
    rw [hb.block b (Array.getElem?_eq_some_iff.1 h1).1]
    exact h1
  have hI := none_at a
  have hk := none_at c
  refine ⟨h'.b1, h'.b2, h'.b3, I, PH.un (PH.one g o) k, PH.disj_un (PH.disj_symm (PH.one_disj hI)) d, keep a, ?_, PH.one g o, k, PH.one_disj hk, PH.un_left _ _, PH.un_right (PH.one_disj hk), PH.one_at _ _, s⟩
  intro b u e
  unfold PH.un PH.one at e
  split at e
  · rename_i v hv
    split at hv
    · rename_i hx; subst hx; cases hv; cases e; exact ho
    · cases hv
  · exact keep c b u e
/-- Of elements that need no memory of their own. -/
def Flat (Kx : Kd α) (enc : α → Value) (ok : α → Prop) : Prop := Kx.sz = 1 ∧ (∀ I h v x, Kx.rep I h [v] x → v = enc x ∧ ok x) ∧ ∀ x, ok x → Kx.rep PH.empty PH.empty [enc x] x
theorem flatN : Flat kN (fun m => .int .i64 (m : Int)) (· ≤ big) := ⟨rfl, fun I h v x r => ⟨by have := r.1; simpa using this, r.2⟩, fun x hx => ⟨rfl, hx⟩⟩
theorem flatB : Flat kBool (fun b => .bool b) (fun _ => True) := ⟨rfl, fun I h v x r => ⟨by have r' : [v] = [Value.bool x] := r; simpa using r', trivial⟩, fun x hx => rfl⟩
theorem flatI : Flat (kInt .i64) (fun n => .int .i64 n) (fun n => IntKind.i64.min ≤ n ∧ n ≤ IntKind.i64.max) := ⟨rfl, fun I h v x r => ⟨by have := r.1; simpa using this, r.2⟩, fun x hx => ⟨rfl, hx⟩⟩
theorem Elems.flat {enc : α → Value} {ok : α → Prop} (f : Flat Kx enc ok) {I : PH} {l : List Value} : ∀ {xs : List α} {h : PH} {off : Nat}, Elems Kx I l h off xs → ∀ i (hi : i < xs.length), l[off + i]? = some (enc xs[i]) ∧ ok xs[i] := by
  intro xs h off he i hi
  obtain ⟨h', _, r⟩ := he.get i hi
  rw [f.1, Nat.mul_one] at r
  have hl := Kx.len r
  rw [f.1] at hl
  obtain ⟨v, hv⟩ := take_one hl
  rw [hv] at r
  obtain ⟨rfl, hok⟩ := f.2.1 _ _ _ _ r
  exact ⟨cell_of_take hv, hok⟩
theorem Elems.ofFlat {enc : α → Value} {ok : α → Prop} (f : Flat Kx enc ok) {I : PH} {l : List Value} : ∀ {xs : List α} {off : Nat}, (∀ i (hi : i < xs.length), l[off + i]? = some (enc xs[i]) ∧ ok xs[i]) → Elems Kx I l PH.empty off xs
  | [], off, h => trivial
  | x :: r, off, h => by
    have h0 := h 0 (by simp)
    refine ⟨PH.empty, PH.empty, PH.disj_empty _, PH.sub_refl _, PH.sub_refl _, ?_, ?_⟩
    · have : (l.drop off).take Kx.sz = [enc x] := by
        rw [f.1, take_one_eq, show l[off]? = some (enc x) by simpa using h0.1]
        rfl
      rw [this]
      exact Kx.mono (PH.empty_sub _) (f.2.2 x h0.2)
    · rw [f.1]
      refine Elems.ofFlat f fun i hi => ?_
      have := h (i + 1) (by simpa using hi)
      rw [show off + 1 + i = off + (i + 1) by omega]
      simpa using this
/-- An owned slice of such elements is a block whose first cells they are. -/
theorem St.os_open {enc : α → Value} {ok : α → Prop} (f : Flat Kx enc ok) {ad : Addr} {l c : Nat} (h : St w0 (pt (os e Kx) (.slice (some ad) l c) xs :: L) w) :
    ∃ b cells, ad = ⟨b, 0, none⟩ ∧ l = xs.length ∧ St w0 (blk b (.cells cells e (0, 0)) :: L) w ∧ cells.size = c ∧ xs.length ≤ c ∧ c ≤ maxLen ∧ ∀ i (hi : i < xs.length), cells[i]? = some (enc xs[i]) ∧ ok xs[i] := by
  obtain ⟨I, g, dg, aI, cg, h1, h2, d2, s1, s2, r, l'⟩ := h.mem
  rcases r with ⟨r1, r2⟩ | ⟨b, cap, cells, h', k1, k2, k3, k4, k5, k6, k7, k8⟩
  · simp at r1
  · simp at k1
    obtain ⟨rfl, rfl, rfl⟩ := k1
    rw [f.1, Nat.mul_one] at k7
    refine ⟨b, cells, rfl, rfl, ⟨h.b1, h.b2, h.b3, I, g, dg, aI, cg, h1, h2, d2, s1, s2, k2, l'⟩, k7, k5, k6, fun i hi => ?_⟩
    have := k8.flat f i hi
    simpa using this
theorem St.os_shut {enc : α → Value} {ok : α → Prop} (f : Flat Kx enc ok) {b c : Nat} {cells : Array Value} (h : St w0 (blk b (.cells cells e (0, 0)) :: L) w) (h1 : cells.size = c) (h2 : xs.length ≤ c) (h3 : c ≤ maxLen)
    (h4 : ∀ i (hi : i < xs.length), cells[i]? = some (enc xs[i]) ∧ ok xs[i]) : St w0 (pt (os e Kx) (.slice (some ⟨b, 0, none⟩) xs.length c) xs :: L) w := by
  refine h.mapHead fun I g r => .inr ⟨b, c, cells, PH.empty, rfl, r, rfl, PH.empty_sub _, h2, h3, by rw [f.1, Nat.mul_one]; exact h1, Elems.ofFlat f fun i hi => ?_⟩
  simpa using h4 i hi
open Go.Sort in
/-- A row that is put into another order, or other elements, in place. -/
theorem St.os_row [Inhabited α] {enc : α → Value} {ok : α → Prop} (f : Flat Kx enc ok) {ad : Addr} {l c : Nat} (h : St w0 (pt (os e Kx) (.slice (some ad) l c) xs :: L) w) :
    ∃ b, ad = ⟨b, 0, none⟩ ∧ l = xs.length ∧ b < w.heap.size ∧ Holds enc w b 0 xs.toArray ∧ (∀ x ∈ xs, ok x) ∧
      ∀ (ys : List α) n obs, ys.length = xs.length → (∀ y ∈ ys, ok y) → St w0 (pt (os e Kx) (.slice (some ad) l c) ys :: L) (grow (putRow enc (Sort.ahead w n) b 0 ys.toArray) obs) := by
  obtain ⟨b, cells, rfl, rfl, h', k1, k2, k3, k4⟩ := h.os_open f
  have hb := h'.blk_at
  have hlt := (Array.getElem?_eq_some_iff.1 hb).1
  refine ⟨b, rfl, rfl, hlt, fun j hj => ?_, fun x hx => ?_, fun ys n obs hl hok => ?_⟩
  · have hj' : j < xs.length := by simpa using hj
    refine ⟨?_, h'.blk_free⟩
    have e1 : xs.toArray[j]! = xs[j] := by rw [getElem!_pos _ j hj]; simp
    rw [h'.blk_cell, Nat.zero_add, (k4 j hj').1, e1]
  · obtain ⟨i, hi, rfl⟩ := List.getElem_of_mem hx
    exact (k4 i hi).2
  · have hst : St w0 (blk b (.cells (putCells enc 0 ys.toArray cells) e (0, 0)) :: L) (grow (putRow enc (Sort.ahead w n) b 0 ys.toArray) obs) := by
      refine h'.change rfl rfl rfl ?_ fun c hc u hu => ?_
      · show ((putRow enc (Sort.ahead w n) b 0 ys.toArray).heap ++ obs)[b]? = _
        rw [Array.getElem?_append_left (by simpa [putRow, mapBlock] using hlt)]
        simp [putRow, mapBlock, Array.getElem?_modify, hb, onCells]
      · have hu' := (Array.getElem?_eq_some_iff.1 hu).1
        show ((putRow enc (Sort.ahead w n) b 0 ys.toArray).heap ++ obs)[c]? = _
        rw [Array.getElem?_append_left (by simpa [putRow, mapBlock] using hu')]
        simp [putRow, mapBlock, Array.getElem?_modify, hu, Ne.symm hc]
    rw [← hl]
    refine hst.os_shut f (by simp [putCells, k1]) (by omega) k3 fun i hi => ⟨?_, hok _ (List.getElem_mem hi)⟩
    have hic : i < cells.size := by omega
    have e1 : ys.toArray[i]! = ys[i] := by rw [getElem!_pos _ i (by simpa using hi)]; simp
    simp [putCells, Array.getElem?_mapIdx, hic, hi]
end Go.Proofs.Fw
namespace Go.Proofs.Fw
variable {P : Program} {n : Nat} {env : Env} {a : Act} {w w' : World} {ops : Array Oper} {K : Env → World → Prop} {rest : List Oper} {d : Nat} {ty : TypeId} {pos : String} {after : Array Edge}
variable {w0 : World} {L L' : List Res} {e : TypeId} {v u : Value}
theorem e_indexAddrN {x y : Operand} {t e : TypeId} {ad : Addr} {l c i s : Nat} {k : IntKind} (ht : P.underlying t = some (.slice e)) (hs : SzIs P e s) (hx : ev env x = some (.slice (some ad) l c)) (hy : ev env y = some (.int k (i : Int))) (h1 : i < l) :
    Ev P n env ⟨some d, .indexAddr t x y, ty, pos, after, none⟩ (.pointer (some (ad.add (i * s)))) := by
  have := e_indexAddr (P := P) (n := n) (env := env) (d := d) (ty := ty) (pos := pos) (after := after) ht hs hx hy (by omega) (by omega)
  simpa using this
theorem l_indexAddrN {x y : Operand} {t e : TypeId} {ad : Addr} {l c i s : Nat} {k : IntKind} (hd : Nat.ble (d + 1) n = true) (ht : P.underlying t = some (.slice e)) (hs : SzIs P e s) (hx : ev env x = some (.slice (some ad) l c)) (hy : ev env y = some (.int k (i : Int))) (h1 : i < l)
    (h : WpL P ops n K rest ((d, .pointer (some (ad.add (i * s)))) :: env) w) : WpL P ops n K (⟨some d, .indexAddr t x y, ty, pos, after, none⟩ :: rest) env w :=
  l_val _ hd (fun a hf => e_indexAddrN ht hs hx hy h1 a w hf) h
theorem St.stk_at {A : Option Addr} {l c : Nat} {M : List (Nat × Nat)} (h : St w0 (pt (os e kPair) (.slice A l c) M :: L) w) {k : Nat} (hk : k < M.length) :
    ∃ ad, A = some ad ∧ w.cell? ((ad.add (k * 2)).add 0) = some (.int .i64 (M[k].1 : Int)) ∧ w.cell? ((ad.add (k * 2)).add 1) = some (.int .i64 (M[k].2 : Int)) ∧ M[k].1 ≤ 1152921504606846976 ∧ M[k].2 ≤ 1152921504606846976 := by
  obtain ⟨ad, cs, rfl, hc, h'⟩ := h.os_cells kPair_pers rfl k hk
  obtain ⟨rfl, h1, h2⟩ := h'.pair
  obtain ⟨I, g, _, _, r⟩ := h.rep
  have hsp : ad.spot = none := by
    rcases r with ⟨r1, r2⟩ | ⟨b, cap, cells, h', k1, k2, k3, k4, k5, k6, k7, k8⟩
    · simp at r1
    · simp at k1; rw [k1.1]
  refine ⟨ad, rfl, ?_, ?_, h1, h2⟩
  · rw [add_add _ _ _ hsp]; exact hc 0 _ rfl
  · rw [add_add _ _ _ hsp]; exact hc 1 _ rfl
theorem pair_flat : ∀ {I h cs x}, kPair.rep I h cs x → kPair.rep PH.empty PH.empty cs x := fun r => r
theorem St.stk_set2 {ad : Addr} {l c : Nat} {M : List (Nat × Nat)} (h : St w0 (pt (os e kPair) (.slice (some ad) l c) M :: L) w) {k : Nat} (hk : k < M.length) (j : Nat) (hj : j ≤ 1152921504606846976) :
    ∃ y, w.cell? ((ad.add (k * 2)).add 1) = some y ∧ w.frozen? ((ad.add (k * 2)).add 1) = false ∧ St w0 (pt (os e kPair) (.slice (some ad) l c) (M.set k (M[k].1, j)) :: L) (w.setCell ((ad.add (k * 2)).add 1) (.int .i64 (j : Int))) := by
  obtain ⟨ad', y, had, hsp, h1, h2, h3⟩ := h.os_setCell pair_flat rfl k 1 hk (by decide) (M[k].1, j) (.int .i64 (j : Int)) (fun cs hcs => by
    obtain ⟨r1, r2, r3⟩ := hcs
    rw [r1]
    exact ⟨rfl, r2, hj⟩)
  cases had
  rw [add_add _ _ _ hsp]
  exact ⟨y, h1, h2, h3⟩
theorem l_buildPair {t : TypeId} {y : Operand} {x i : Nat} {z : Value} (hd : Nat.ble (d + 1) n = true) (ht : P.underlying t = some (.slice e)) (he : SzIs P e 2) (hz : ZeroIs P e z) (hy : ev env y = some (.agg #[.int .i64 (x : Int), .int .i64 (i : Int)])) (hx : x ≤ big) (hi : i ≤ big) (hst : St w0 L w)
    (h : ∀ u w', St w0 (pt (os e kPair) u [(x, i)] :: L) w' → WpL P ops n K rest ((d, u) :: env) w') : WpL P ops n K (⟨some d, .buildSlice t 1 #[(0, y)], ty, pos, after, none⟩ :: rest) env w := by
  have hnew : St w0 (pt (os e kPair) (.slice (some ⟨w.heap.size, 0, none⟩) 1 1) [(x, i)] :: L) (w.alloc (.cells #[.int .i64 (x : Int), .int .i64 (i : Int)] e)) :=
    (hst.alloc _).mapHead fun I g r => .inr ⟨w.heap.size, 1, _, PH.empty, rfl, r, rfl, PH.empty_sub _, Nat.le_refl _, by unfold maxLen; omega, rfl, PH.empty, PH.empty, PH.empty_disj _, PH.empty_sub _, PH.empty_sub _, ⟨rfl, hx, hi⟩, trivial⟩
  refine l_val (w' := w.alloc (.cells #[.int .i64 (x : Int), .int .i64 (i : Int)] e)) (.slice (some ⟨w.heap.size, 0, none⟩) 1 1) hd (fun a hf => ?_) (h _ _ hnew)
  have hfill : ∀ f : Nat → Value, Instr.fill (fun i => some (i * 2, 2)) (Array.map f (Array.range 2)) [(0, .agg #[.int .i64 (x : Int), .int .i64 (i : Int)])] = some #[.int .i64 (x : Int), .int .i64 (i : Int)] := fun f => by
    have : Array.range 2 = #[0, 1] := rfl
    simp [Instr.fill, Value.cells, this]
  simp [execOp, hf.eval hy, Instr.buildSlice, Sem.run_bind, run_underlying ht, he.run, hz.run, Sem.run_pure, Result.andThen_ok, hfill, newRow, newObj, Sem.run]
end Go.Proofs.Fw
namespace Go.Proofs.Fw
variable {P : Program} {w w' : World} {w0 : World} {L L' : List Res} {α : Type} {Kx : Kd α} {e : TypeId} {v u : Value} {x : α} {xs ys : List α}
/-- What each of some values stands for. -/
def each (Kx : Kd α) : List (Value × α) → List Res
  | [] => []
  | p :: r => pt Kx p.1 p.2 :: each Kx r
theorem each_eq (Kx : Kd α) : ∀ ps : List (Value × α), each Kx ps = ps.map fun p => pt Kx p.1 p.2
  | [] => rfl
  | p :: r => by simp [each, each_eq Kx r]
theorem each_perm (Kx : Kd α) {ps qs : List (Value × α)} (h : ps.Perm qs) : (each Kx ps).Perm (each Kx qs) := by
  rw [each_eq, each_eq]; exact h.map _
theorem elems_each {I : PH} {l : List Value} (hs : Kx.sz = 1) : ∀ {xs : List α} {h : PH} {off : Nat}, Elems Kx I l h off xs → ∃ vs : List Value, vs.length = xs.length ∧ (∀ i v, vs[i]? = some v → l[off + i]? = some v) ∧ Sep I (each Kx (vs.zip xs)) h
  | [], h, off, _ => ⟨[], rfl, fun i v hv => by simp at hv, trivial⟩
  | x :: xs, h, off, ⟨h1, h2, d, s1, s2, r, e⟩ => by
    rw [hs] at r e
    have hl := Kx.len r
    rw [hs] at hl
    obtain ⟨v, hv⟩ := take_one hl
    rw [hv] at r
    obtain ⟨vs, k1, k2, k3⟩ := elems_each hs e
    refine ⟨v :: vs, by simp [k1], fun i u hu => ?_, h1, h2, d, s1, s2, r, k3⟩
    cases i with
    | zero => simp at hu; subst hu; exact cell_of_take hv
    | succ i => simp at hu; have := k2 i u hu; rw [show off + (i + 1) = off + 1 + i by omega]; exact this
theorem each_elems {I : PH} {l : List Value} (hs : Kx.sz = 1) : ∀ {ps : List (Value × α)} {h : PH} {off : Nat}, (∀ i p, ps[i]? = some p → l[off + i]? = some p.1) → Sep I (each Kx ps) h → Elems Kx I l h off (ps.map Prod.snd)
  | [], h, off, _, _ => trivial
  | p :: ps, h, off, hc, ⟨h1, h2, d, s1, s2, r, e⟩ => by
    refine ⟨h1, h2, d, s1, s2, ?_, ?_⟩
    · rw [hs, take_one_eq, show l[off]? = some p.1 by simpa using hc 0 p rfl]
      exact r
    · rw [hs]
      refine each_elems hs (fun i q hq => ?_) e
      rw [show off + 1 + i = off + (i + 1) by omega]
      exact hc (i + 1) q (by simpa using hq)
/-- Apart. -/
theorem St.os_split (hs : Kx.sz = 1) {ad : Addr} {l c : Nat} (h : St w0 (pt (os e Kx) (.slice (some ad) l c) xs :: L) w) :
    ∃ (b : Nat) (cells : Array Value) (vs : List Value), ad = ⟨b, 0, none⟩ ∧ l = xs.length ∧ cells.size = c ∧ xs.length ≤ c ∧ c ≤ maxLen ∧ vs.length = xs.length ∧ (∀ (i : Nat) (v : Value), vs[i]? = some v → cells[i]? = some v) ∧ St w0 (blk b (.cells cells e (0, 0)) :: (each Kx (vs.zip xs) ++ L)) w := by
  obtain ⟨I, g, dg, aI, cg, h1, h2, d2, s1, s2, r, l'⟩ := h.mem
  rcases r with ⟨r1, r2⟩ | ⟨b, cap, cells, h', k1, k2, k3, k4, k5, k6, k7, k8⟩
  · simp at r1
  · simp at k1
    obtain ⟨rfl, rfl, rfl⟩ := k1
    obtain ⟨vs, m1, m2, m3⟩ := elems_each hs k8
    rw [hs, Nat.mul_one] at k7
    refine ⟨b, cells, vs, rfl, rfl, k7, k5, k6, m1, fun i v hv => by have := m2 i v hv; simpa using this, h.b1, h.b2, h.b3, I, g, dg, aI, cg, ?_⟩
    have hb2 : h2 b = none := by
      rcases d2 b with e | e
      · rw [k2] at e; cases e
      · exact e
    have hd : PH.disj h' h2 := PH.disj_symm (PH.disj_sub (PH.disj_symm d2) k4)
    refine ⟨PH.one b (.cells cells e (0, 0)), PH.un h' h2, PH.disj_un (PH.one_disj k3) (PH.one_disj hb2), PH.sub_trans (PH.one_sub k2) s1, PH.un_sub (PH.sub_trans k4 s1) s2, PH.one_at _ _, ?_⟩
    exact Sep.append hd (PH.un_left _ _) (PH.un_right hd) m3 l'
/-- Together. -/
theorem St.os_join (hs : Kx.sz = 1) {b c : Nat} {cells : Array Value} {ps : List (Value × α)} (h : St w0 (blk b (.cells cells e (0, 0)) :: (each Kx ps ++ L)) w) (h1 : cells.size = c) (h2 : ps.length ≤ c) (h3 : c ≤ maxLen) (h4 : ∀ (i : Nat) (p : Value × α), ps[i]? = some p → cells[i]? = some p.1) :
    St w0 (pt (os e Kx) (.slice (some ⟨b, 0, none⟩) ps.length c) (ps.map Prod.snd) :: L) w := by
  obtain ⟨I, g, dg, aI, cg, k1, k2, d2, s1, s2, r, l'⟩ := h.mem
  obtain ⟨g1, g2, dd, t1, t2, e1, e2⟩ := Sep.split l'
  have hb2 : k2 b = none := by
    have r' : k1 b = some (.cells cells e (0, 0)) := r
    rcases d2 b with e | e
    · rw [r'] at e; cases e
    · exact e
  have hg1 : g1 b = none := by
    cases hh : g1 b with
    | none => rfl
    | some o => have := t1 b o hh; rw [hb2] at this; cases this
  have hd1 : PH.disj k1 g2 := PH.disj_sub d2 t2
  refine ⟨h.b1, h.b2, h.b3, I, g, dg, aI, cg, PH.un k1 g1, g2, PH.un_disj hd1 dd, PH.un_sub s1 (PH.sub_trans t1 s2), PH.sub_trans t2 s2, ?_, e2⟩
  refine .inr ⟨b, c, cells, g1, by simp, PH.un_left _ _ _ _ r, hg1, PH.un_right (PH.disj_sub d2 t1), by simpa using h2, h3, by rw [hs, Nat.mul_one]; exact h1, ?_⟩
  exact each_elems hs (fun i p hp => by simpa using h4 i p hp) e1
end Go.Proofs.Fw
namespace Go.Proofs.Fw
variable {P : Program} {n : Nat} {env : Env} {a : Act} {w w' : World} {ops : Array Oper} {K : Env → World → Prop} {rest : List Oper} {d : Nat} {ty : TypeId} {pos : String} {after : Array Edge}
variable {w0 : World} {L L' : List Res} {α : Type} {Kx : Kd α} {e : TypeId}
theorem fill_row : ∀ (vs : List Value) (k : Nat) (cells : List Value), (∀ v ∈ vs, v.oneCell' = true) → k + vs.length = cells.length →
    Instr.fill (fun i => some (i * 1, 1)) cells.toArray ((List.range' k vs.length).zip vs) = some (cells.take k ++ vs).toArray
  | [], k, cells, h1, hk => by
    have : cells.take k = cells := List.take_of_length_le (by simp at hk; omega)
    simp [Instr.fill, this]
  | v :: r, k, cells, h1, hk => by
    have hv := cells_one (h1 v (by simp))
    have hlt : k < cells.length := by simp at hk; omega
    have ih := fill_row r (k + 1) (cells.set k v) (fun u hu => h1 u (by simp [hu])) (by simp at hk ⊢; omega)
    have e1 : (cells.set k v).take (k + 1) = cells.take k ++ [v] := by
      rw [List.take_succ_eq_append_getElem (by simpa using hlt)]
      simp [List.take_set_of_le]
    rw [e1, List.append_assoc, List.singleton_append] at ih
    have hb : ¬ (v.cells.size ≠ 1 ∨ k * 1 + v.cells.size > cells.toArray.size) := by rw [hv]; simp; omega
    simp only [List.length_cons, List.range'_succ, List.zip_cons_cons, Instr.fill]
    rw [if_neg (by simpa using hb)]
    rw [hv]
    simpa using ih
theorem each_one : ∀ {ps : List (Value × α)} {L : List Res}, St w0 (each Kx ps ++ L) w → ∀ p ∈ ps, p.1.oneCell' = true
  | [], L, h, p, hp => by cases hp
  | q :: r, L, h, p, hp => by
    rcases List.mem_cons.1 hp with rfl | hp
    · exact pt_one h
    · exact each_one (ps := r) (L := L) h.drop p hp
theorem l_buildSliceN {t : TypeId} {len : Nat} {parts : Array (Nat × Operand)} {z : Value} {ps : List (Value × α)} (hd : Nat.ble (d + 1) n = true) (ht : P.underlying t = some (.slice e)) (he : SzIs P e 1) (hz : ZeroIs P e z) (hlen : len = ps.length) (hsm : ps.length ≤ 1000)
    (hp : parts.toList.map Prod.fst = List.range len) (hv : evs env (parts.toList.map Prod.snd) = some (ps.map Prod.fst)) (hs : Kx.sz = 1) (hst : St w0 (each Kx ps ++ L) w)
    (h : ∀ u w', St w0 (pt (os e Kx) u (ps.map Prod.snd) :: L) w' → WpL P ops n K rest ((d, u) :: env) w') : WpL P ops n K (⟨some d, .buildSlice t len parts, ty, pos, after, none⟩ :: rest) env w := by
  have hone := each_one hst
  have hnew := (hst.alloc (.cells (ps.map Prod.fst).toArray e)).os_join hs (c := ps.length) (by simp) (Nat.le_refl _) (by unfold maxLen; omega) (fun i p hp => by simp [hp])
  refine l_val (w' := w.alloc (.cells (ps.map Prod.fst).toArray e)) (.slice (some ⟨w.heap.size, 0, none⟩) ps.length ps.length) hd (fun a hf => ?_) (h _ _ hnew)
  have hvals := hf.evals hv
  have hparts : (parts.map fun p => (p.1, a.eval p.2)).toList = (List.range' 0 ps.length).zip (ps.map Prod.fst) := by
    rw [Array.toList_map, zip_parts, hp, hvals, hlen, List.range_eq_range']
  have hfill : ∀ f : Nat → Value, Instr.fill (fun i => some (i * 1, 1)) (Array.map f (Array.range (ps.length * 1))) ((List.range' 0 ps.length).zip (ps.map Prod.fst)) = some (ps.map Prod.fst).toArray := fun f => by
    have := fill_row (ps.map Prod.fst) 0 ((List.range ps.length).map f) (fun v hv => by obtain ⟨p, hp, rfl⟩ := List.mem_map.1 hv; exact hone p hp) (by simp)
    simp only [List.length_map, List.take_zero, List.nil_append] at this
    have e9 : Array.map f (Array.range (ps.length * 1)) = ((List.range ps.length).map f).toArray := by
      rw [Nat.mul_one]
      apply Array.ext'
      simp
    rw [e9]
    exact this
  have hparts' : Array.map (fun x => (x.fst, a.eval x.snd)) parts = ((List.range' 0 ps.length).zip (ps.map Prod.fst)).toArray := by
    rw [← hparts]
  subst hlen
  by_cases h0 : ps.length = 0
  · have hps : ps = [] := List.length_eq_zero_iff.1 h0
    subst hps
    simp [execOp, hparts', Instr.buildSlice, Sem.run_bind, run_underlying ht, he.run, Sem.run_pure, Result.andThen_ok, newRow, newObj, Sem.run, Instr.fill, show Array.range 0 = #[] from rfl]
  · have hlt : ¬ ps.length * 1 > 2 ^ 24 := by omega
    have hfill2 : Instr.fill (fun i => some (i * 1, 1)) (Array.map (fun x => z.cells[x % z.cells.size]!) (Array.range (ps.length * 1))) ((List.range' 0 ps.length).zip (ps.map Prod.fst)) = some (ps.map Prod.fst).toArray := hfill _
    have h00 : ¬ ps.length * 1 = 0 := by omega
    simp only [execOp, hparts', Instr.buildSlice, Sem.run_bind, run_underlying ht, he.run, Result.andThen_ok]
    rw [if_neg hlt]
    simp only [Sem.run_bind, Sem.run_pure, Result.andThen_ok, h00, if_false, hz.run, hfill2, newRow, newObj, Sem.run]
    rfl
end Go.Proofs.Fw
