/- The walk: maps that are owned, their keys arrays or structs. No condition. -/
import Derived.Test.YthamopcfpmkbfaaFwG
import Derived.DeepKeys5
set_option linter.unusedVariables false
set_option linter.unusedSimpArgs false
namespace Go.Proofs.Fw
open Go.WideMaps (KeyLaw)
variable {P : Program} {n : Nat} {env : Env} {a : Act} {w w' : World} {ops : Array Oper} {K : Env → World → Prop} {rest : List Oper} {d : Nat} {ty : TypeId} {pos : String} {after : Array Edge}
variable {w0 : World} {L L' : List Res} {κ : Type}

/-- A map in block b that is owned: its keys are enc's, it holds what g says. -/
def MapIs (P : Program) (k : TypeId) (enc : κ → Value) (g : κ → Option Value) (es : Array MapEntry) : Prop :=
  (∀ e ∈ es.toList, ∃ x l, e.key = enc x ∧ keyOf P k (enc x) = some l) ∧ (es.toList.map (·.key)).Nodup ∧ ∀ x y, g x = some y ↔ ∃ e ∈ es.toList, e.key = enc x ∧ e.val = y
def mp (P : Program) (k : TypeId) (enc : κ → Value) (b : Nat) (g : κ → Option Value) : Res :=
  ⟨fun I h => ∃ es clock, h b = some (.map es clock) ∧ MapIs P k enc g es, fun s r => r, fun s ⟨es, clock, h1, h2⟩ => ⟨es, clock, s _ _ h1, h2⟩⟩
theorem St.mp_open {k : TypeId} {enc : κ → Value} {b : Nat} {g : κ → Option Value} (h : St w0 (mp P k enc b g :: L) w) : ∃ es clock, MapIs P k enc g es ∧ St w0 (blk b (.map es clock) :: L) w := by
  obtain ⟨I, gg, dd, aI, c, h1, h2, d2, s1, s2, ⟨es, clock, r1, r2⟩, l⟩ := h.mem
  exact ⟨es, clock, r2, ⟨h.b1, h.b2, h.b3, I, gg, dd, aI, c, h1, h2, d2, s1, s2, r1, l⟩⟩
theorem St.mp_close {k : TypeId} {enc : κ → Value} {b : Nat} {g : κ → Option Value} {es : Array MapEntry} {clock : Nat} (hm : MapIs P k enc g es) (h : St w0 (blk b (.map es clock) :: L) w) : St w0 (mp P k enc b g :: L) w :=
  h.mapHead fun I gg r => ⟨es, clock, r, hm⟩
theorem mapIs_nil (k : TypeId) (enc : κ → Value) : MapIs P k enc (fun _ => none) #[] := ⟨by simp, by simp, by simp⟩
/-- make(map[..]..) -/
theorem l_makeMap {t k : TypeId} {enc : κ → Value} (hd : Nat.ble (d + 1) n = true) (hs : St w0 L w)
    (h : ∀ b w', St w0 (mp P k enc b (fun _ => none) :: L) w' → WpL P ops n K rest ((d, .map (some b)) :: env) w') : WpL P ops n K (⟨some d, .makeMap t none, ty, pos, after, none⟩ :: rest) env w :=
  l_val (w' := w.alloc (.map #[] 0)) (.map (some w.heap.size)) hd (fun a hf => by simp [execOp, Instr.makeMap, newObj, Sem.run_bind, Sem.run_pure, Result.andThen_ok, Sem.run]) (h _ _ (St.mp_close (mapIs_nil k enc) (hs.alloc _)))
theorem run_getMap {b : Nat} {es : Array MapEntry} {clock : Nat} (h : w.heap[b]? = some (.map es clock)) : (getObj b).run P w = .ok (.map es clock) w := by
  simp [getObj, Sem.run, h]
theorem run_setMap {b : Nat} {es : Array MapEntry} {clock : Nat} {o : Obj} (h : w.heap[b]? = some (.map es clock)) : (setObj b o).run P w = .ok () { w with heap := w.heap.setIfInBounds b o } := by
  simp [setObj, Sem.run, h]
theorem run_look {t k e : TypeId} {enc : κ → Value} {b : Nat} {g : κ → Option Value} {z : Value} {x : κ} {l : Lit} (KL : KeyLaw P k) (ht : P.underlying t = some (.map k e)) (hz : ZeroIs P e z) (hx : keyOf P k (enc x) = some l) (h : St w0 (mp P k enc b g :: L) w) :
    (Instr.lookup t (.map (some b)) (enc x) false).run P w = .ok ((g x).getD z) w := by
  obtain ⟨es, clock, hm, h⟩ := h.mp_open
  have hb := h.blk_at
  obtain ⟨m1, m2, m3⟩ := hm
  have hall : ∀ e ∈ es.toList, ∃ l, keyOf P k e.key = some l := fun e he => by obtain ⟨x, l, h1, h2⟩ := m1 e he; exact ⟨l, by rw [h1]; exact h2⟩
  have hg : ∀ r : Option (Nat × Value), ((r = none ∧ ∀ e ∈ es.toList, e.key ≠ enc x) ∨ ∃ j e, r = some (j, e.val) ∧ es.toList[j]? = some e ∧ e.key = enc x) → (match r with | some (_, v) => v | none => z) = (g x).getD z := by
    rintro r (⟨rfl, hno⟩ | ⟨j, e, rfl, hj, hk⟩)
    · cases hgx : g x with
      | none => rfl
      | some y => obtain ⟨e, he, hk, _⟩ := (m3 x y).1 hgx; exact absurd hk (hno e he)
    · have := (m3 x e.val).2 ⟨e, List.mem_of_getElem? hj, hk, rfl⟩
      rw [this]; rfl
  rcases KL.find w hx es.toList hall with ⟨hf, hno⟩ | ⟨j, e, hf, hj, hk⟩
  · have := hg none (.inl ⟨rfl, hno⟩)
    simp only [] at this
    rw [← this]
    simp [Instr.lookup, run_underlying ht, run_getMap hb, KL.check w _ hx, hf, hz.run, Sem.run_bind, Sem.run_pure, Result.andThen_ok]
  · have := hg (some (j, e.val)) (.inr ⟨j, e, rfl, hj, hk⟩)
    simp only [] at this
    simp [Instr.lookup, run_underlying ht, run_getMap hb, KL.check w _ hx, hf, Sem.run_bind, Sem.run_pure, Result.andThen_ok, this]
/-- m[x] -/
theorem l_lookup {t k e : TypeId} {enc : κ → Value} {b : Nat} {g : κ → Option Value} {z : Value} {x : κ} {l : Lit} {m y : Operand} (hd : Nat.ble (d + 1) n = true) (KL : KeyLaw P k) (ht : P.underlying t = some (.map k e)) (hz : ZeroIs P e z) (hk : keyOf P k (enc x) = some l)
    (hm : ev env m = some (.map (some b))) (hy : ev env y = some (enc x)) (hs : St w0 (mp P k enc b g :: L) w) (h : WpL P ops n K rest ((d, (g x).getD z) :: env) w) : WpL P ops n K (⟨some d, .lookup t m y false, ty, pos, after, none⟩ :: rest) env w :=
  l_val _ hd (fun a hf => by simp [execOp, hf.eval hm, hf.eval hy, run_look KL ht hz hk hs, Sem.run_bind, Sem.run_pure, Result.andThen_ok]) h
theorem mapIs_push [DecidableEq κ] {k : TypeId} {enc : κ → Value} {g : κ → Option Value} {es : Array MapEntry} {x : κ} {l : Lit} {v : Value} {c : Nat} (inj : ∀ x y, enc x = enc y → x = y) (hx : keyOf P k (enc x) = some l) (hm : MapIs P k enc g es) (hno : ∀ e ∈ es.toList, e.key ≠ enc x) :
    MapIs P k enc (fun y => if y = x then some v else g y) (es.push { key := enc x, val := v, born := c }) := by
  obtain ⟨m1, m2, m3⟩ := hm
  refine ⟨?_, ?_, ?_⟩
  · intro e he
    simp only [Array.toList_push, List.mem_append, List.mem_singleton] at he
    rcases he with he | rfl
    · exact m1 e he
    · exact ⟨x, l, rfl, hx⟩
  · simp only [Array.toList_push, List.map_append, List.map_cons, List.map_nil]
    refine List.nodup_append.2 ⟨m2, by simp, ?_⟩
    intro a ha b hb
    simp only [List.mem_singleton] at hb
    subst hb
    obtain ⟨e, he, rfl⟩ := List.mem_map.1 ha
    exact hno e he
  · intro y u
    simp only [Array.toList_push, List.mem_append, List.mem_singleton]
    by_cases hyx : y = x
    · subst hyx
      simp only [if_true]
      constructor
      · intro h; cases h; exact ⟨_, .inr rfl, rfl, rfl⟩
      · rintro ⟨e, he | rfl, h1, h2⟩
        · exact absurd h1 (hno e he)
        · exact congrArg some h2
    · simp only [if_neg hyx]
      rw [m3]
      constructor
      · rintro ⟨e, he, h1, h2⟩; exact ⟨e, .inl he, h1, h2⟩
      · rintro ⟨e, he | rfl, h1, h2⟩
        · exact ⟨e, he, h1, h2⟩
        · exact absurd (inj _ _ h1).symm hyx
theorem mapIs_set [DecidableEq κ] {k : TypeId} {enc : κ → Value} {g : κ → Option Value} {es : Array MapEntry} {x : κ} {v : Value} {j : Nat} {e0 : MapEntry} (inj : ∀ x y, enc x = enc y → x = y) (hm : MapIs P k enc g es) (hj : es.toList[j]? = some e0) (hk : e0.key = enc x) :
    MapIs P k enc (fun y => if y = x then some v else g y) (es.modify j fun e => { e with key := enc x, val := v }) := by
  obtain ⟨m1, m2, m3⟩ := hm
  have hjl : j < es.toList.length := (List.getElem?_eq_some_iff.1 hj).1
  have hje : es.toList[j] = e0 := (List.getElem?_eq_some_iff.1 hj).2
  have hl : (es.modify j fun e => { e with key := enc x, val := v }).toList = es.toList.set j { e0 with key := enc x, val := v } := by
    apply List.ext_getElem?
    intro i
    rw [Array.getElem?_toList, Array.getElem?_modify, List.getElem?_set, Array.getElem?_toList]
    by_cases hij : j = i
    · subst hij
      rw [if_pos rfl, if_pos rfl, if_pos hjl, ← Array.getElem?_toList, hj]
      rfl
    · rw [if_neg hij, if_neg hij]
  have hkeys : (es.toList.set j { e0 with key := enc x, val := v }).map (·.key) = es.toList.map (·.key) := by
    rw [List.map_set]
    apply List.ext_getElem?
    intro i
    rw [List.getElem?_set, List.getElem?_map]
    by_cases hij : j = i
    · subst hij
      rw [if_pos rfl, List.length_map, if_pos hjl, hj]
      simp [hk]
    · rw [if_neg hij]
  have huniq : ∀ i e, es.toList[i]? = some e → e.key = enc x → i = j := by
    intro i e hi he
    have h1 : (es.toList.map (·.key))[i]? = some (enc x) := by rw [List.getElem?_map, hi]; simp [he]
    have h2 : (es.toList.map (·.key))[j]? = some (enc x) := by rw [List.getElem?_map, hj]; simp [hk]
    exact (List.getElem?_inj (by simpa using (List.getElem?_eq_some_iff.1 hi).1) m2).1 (h1.trans h2.symm)
  refine ⟨?_, ?_, ?_⟩
  · intro e he
    rw [hl] at he
    rcases List.mem_or_eq_of_mem_set he with he | rfl
    · exact m1 e he
    · obtain ⟨x', l, h1, h2⟩ := m1 e0 (List.mem_of_getElem? hj)
      exact ⟨x', l, by rw [← h1, hk], h2⟩
  · rw [hl, hkeys]; exact m2
  · intro y u
    rw [hl]
    by_cases hyx : y = x
    · subst hyx
      simp only [if_true]
      constructor
      · intro h; cases h
        exact ⟨_, List.mem_set hjl _, rfl, rfl⟩
      · rintro ⟨e, he, h1, h2⟩
        obtain ⟨i, hi⟩ := List.getElem?_of_mem he
        rw [List.getElem?_set] at hi
        by_cases hij : j = i
        · rw [if_pos hij, if_pos hjl] at hi; cases hi; exact congrArg some h2
        · rw [if_neg hij] at hi
          exact absurd (huniq i e hi h1).symm hij
    · simp only [if_neg hyx]
      rw [m3]
      constructor
      · rintro ⟨e, he, h1, h2⟩
        obtain ⟨i, hi⟩ := List.getElem?_of_mem he
        refine ⟨e, ?_, h1, h2⟩
        have hij : j ≠ i := fun hij => by
          subst hij; rw [hj] at hi; cases hi
          exact hyx (inj _ _ (h1.symm.trans hk))
        exact List.mem_of_getElem? (i := i) (by rw [List.getElem?_set, if_neg hij]; exact hi)
      · rintro ⟨e, he, h1, h2⟩
        obtain ⟨i, hi⟩ := List.getElem?_of_mem he
        rw [List.getElem?_set] at hi
        by_cases hij : j = i
        · rw [if_pos hij, if_pos hjl] at hi
          cases hi
          exact absurd (inj _ _ h1).symm hyx
        · rw [if_neg hij] at hi
          exact ⟨e, List.mem_of_getElem? hi, h1, h2⟩
theorem run_update [DecidableEq κ] {t k e : TypeId} {enc : κ → Value} {b : Nat} {g : κ → Option Value} {v : Value} {x : κ} {l : Lit} (KL : KeyLaw P k) (inj : ∀ x y, enc x = enc y → x = y) (ht : P.underlying t = some (.map k e)) (hx : keyOf P k (enc x) = some l) (h : St w0 (mp P k enc b g :: L) w) :
    ∃ w', (Instr.mapUpdate t (.map (some b)) (enc x) v).run P w = .ok () w' ∧ St w0 (mp P k enc b (fun y => if y = x then some v else g y) :: L) w' := by
  obtain ⟨es, clock, hm, h⟩ := h.mp_open
  have hb := h.blk_at
  have hlt : b < w.heap.size := (Array.getElem?_eq_some_iff.1 hb).1
  obtain ⟨m1, m2, m3⟩ := id hm
  have hall : ∀ e ∈ es.toList, ∃ l, keyOf P k e.key = some l := fun e he => by obtain ⟨x, l, h1, h2⟩ := m1 e he; exact ⟨l, by rw [h1]; exact h2⟩
  have change : ∀ es' c', St w0 (blk b (.map es' c') :: L) { w with heap := w.heap.setIfInBounds b (.map es' c') } := fun es' c' =>
    h.change rfl rfl rfl (by simp [hlt]) fun c hc u hu => by
      show (w.heap.setIfInBounds b _)[c]? = _
      rw [Array.getElem?_setIfInBounds_ne (Ne.symm hc)]; exact hu
  rcases KL.find w hx es.toList hall with ⟨hf, hno⟩ | ⟨j, e0, hf, hj, hk⟩
  · refine ⟨_, ?_, St.mp_close (mapIs_push (c := clock) inj hx hm hno) (change _ (clock + 1))⟩
    simp [Instr.mapUpdate, run_underlying ht, run_getMap hb, KL.check w _ hx, hf, run_setMap hb, Sem.run_bind, Sem.run_pure, Result.andThen_ok]
  · refine ⟨_, ?_, St.mp_close (mapIs_set inj hm hj hk) (change _ clock)⟩
    have hst := KL.stays w hx
    have hj' : es[j]? = some e0 := by rw [← Array.getElem?_toList]; exact hj
    simp [Instr.mapUpdate, run_underlying ht, run_getMap hb, KL.check w _ hx, hf, run_setMap hb, hj', hk, hst, Sem.run_bind, Sem.run_pure, Result.andThen_ok]
/-- m[x] = v -/
theorem l_mapUpdate [DecidableEq κ] {t k e : TypeId} {enc : κ → Value} {b : Nat} {g : κ → Option Value} {v : Value} {x : κ} {l : Lit} {m y z : Operand} (KL : KeyLaw P k) (inj : ∀ x y, enc x = enc y → x = y) (ht : P.underlying t = some (.map k e)) (hk : keyOf P k (enc x) = some l)
    (hm : ev env m = some (.map (some b))) (hy : ev env y = some (enc x)) (hz : ev env z = some v) (hs : St w0 (mp P k enc b g :: L) w)
    (h : ∀ w', St w0 (mp P k enc b (fun y => if y = x then some v else g y) :: L) w' → WpL P ops n K rest env w') : WpL P ops n K (⟨none, .mapUpdate t m y z, ty, pos, after, none⟩ :: rest) env w := by
  obtain ⟨w', hrun, hst⟩ := run_update (v := v) KL inj ht hk hs
  exact l_unit (fun a hf => by simp [execOp, hf.eval hm, hf.eval hy, hf.eval hz, hrun, Sem.run_bind, Sem.run_pure, Result.andThen_ok]) (h w' hst)
end Go.Proofs.Fw
