/- The walk: statements whose order is open, in an order of one's own choice. No condition. -/
import Derived.Test.YthamopcfpmkbfaaFwF
import Derived.OrdersHeld
import Derived.Still
set_option linter.unusedVariables false
set_option linter.unusedSimpArgs false
namespace Go.Proofs.Fw
variable {P : Program} {ops : Array Oper} {Q : Exit → Act → World → Prop} {md : Region.Mode} {C : World → Prop} {flag : Nat → Bool}

/-- Whatever order is picked from here on; an operation that bears the flag leaves C true. -/
def wpG (P : Program) (md : Region.Mode) (ops : Array Oper) (Q : Exit → Act → World → Prop) (C : World → Prop) (flag : Nat → Bool) : Nat → Array Bool → Act → World → Prop
  | 0, listed, a, w => Region.ready md ops listed = [] ∧ Q .normal a w
  | fuel + 1, listed, a, w =>
    (Region.ready md ops listed = [] → Q .normal a w) ∧
    ∀ i ∈ Region.ready md ops listed, wpOp P ops Q i (fun a' w' => (flag i = true → C w → C w') ∧ wpG P md ops Q C flag fuel (listed.setIfInBounds i true) a' w') a w
theorem wpAny_of_wpG : ∀ (fuel : Nat) (listed : Array Bool) (a : Act) (w : World), wpG P md ops Q C flag fuel listed a w → wpAny P md ops Q fuel listed a w
  | 0, _, _, _, h => h
  | fuel + 1, _, _, _, h => ⟨h.1, fun i hi => wpOp_mono (fun a' w' h' => wpAny_of_wpG fuel _ a' w' h'.2) (h.2 i hi)⟩
/-- Those in W can't come up before i does. -/
def Waits (md : Region.Mode) (ops : Array Oper) (i : Nat) (W : List Nat) : Prop :=
  ∀ j ∈ W, ∃ oj e, ops[j]? = some oj ∧ e ∈ oj.after ∧ Region.binds md e = true ∧ (e.on = i ∨ e.on ∈ W)
theorem getD_false_of {listed : Array Bool} {j : Nat} (h : listed.getD j true = false) : listed.getD j false = false := by
  rcases Nat.lt_or_ge j listed.size with h' | h'
  · simp [h'] at h ⊢; exact h
  · simp [Array.getElem?_eq_none h'] at h
theorem wpG_first {i : Nat} {oi : Oper} {v : Value} {W : List Nat} (hi : ops[i]? = some oi) (hsel : ∀ (j : Nat) (o : Oper) cs b, ops[j]? = some o → o.op ≠ .select cs b)
    (hQ : ∀ c a w, Q (.panic c) (a.put oi.dst v) w → Q (.panic c) a w) (hW : Waits md ops i W) :
    ∀ (fuel : Nat) (listed : Array Bool) (a : Act) (w : World),
      (∀ j oj, ops[j]? = some oj → j ≠ i → listed.getD j true = false → (∀ e ∈ oj.after, Region.binds md e = true → e.on ≠ i) → oi.apart ops oj = true) →
      (∀ j ∈ W, listed.getD j true = false) → (∀ j, j ≠ i → j ∉ W → listed.getD j true = false → flag j = true) →
      i ∈ Region.ready md ops listed → YieldsIf P ops C oi v a → C w →
      wpG P md ops Q C flag fuel (listed.setIfInBounds i true) (a.put oi.dst v) w → wpG P md ops Q C flag (fuel + 1) listed a w := by
  intro fuel
  induction fuel with
  | zero =>
    intro listed a w _ _ _ hr hy hC H
    refine ⟨fun h => (by rw [h] at hr; cases hr), fun j hj => ?_⟩
    by_cases hji : j = i
    · subst hji; exact hy.wpOp hi hC ⟨fun _ h => h, H⟩
    · have := ready_mono hj hji
      rw [H.1] at this
      cases this
  | succ fuel ih =>
    intro listed a w hfree hWu hfl hr hy hC H
    refine ⟨fun h => (by rw [h] at hr; cases hr), fun j hj => ?_⟩
    by_cases hji : j = i
    · subst hji; exact hy.wpOp hi hC ⟨fun _ h => h, H⟩
    · have h1 := H.2 j (ready_mono hj hji)
      obtain ⟨hjun, oj, hoj, hall⟩ := mem_ready.1 hj
      have hiun := (mem_ready.1 hr).1
      have hnot : ∀ e ∈ oj.after, Region.binds md e = true → e.on ≠ i := fun e he hb heq => by
        have h1 := hall e he hb
        rw [heq, getD_false_of hiun] at h1
        cases h1
      have hjW : j ∉ W := fun hjW => by
        obtain ⟨oj', e, hoj', he, hb, hon⟩ := hW j hjW
        rw [hoj] at hoj'
        cases hoj'
        have h1 := hall e he hb
        rcases hon with hon | hon
        · rw [hon, getD_false_of hiun] at h1; cases h1
        · rw [getD_false_of (hWu _ hon)] at h1; cases h1
      have hflag := hfl j hji hjW hjun
      have h2 := wpOp_putIf hoj (hfree j oj hoj hji hjun hnot) (fun cs b => hsel i oi cs b hi) (fun cs b => hsel j oj cs b hoj) hQ hy h1
      have back : ∀ k, (listed.setIfInBounds j true).getD k true = false → listed.getD k true = false := fun k hun => by
        by_cases hjk : j = k
        · subst hjk; exact hjun
        · rw [getD_set_ne true hjk] at hun; exact hun
      refine wpOp_mono (fun a' w' h3 => ⟨h3.2.1, ih (listed.setIfInBounds j true) a' w' (fun k ok hk hki hun hno => hfree k ok hk hki (back k hun) hno) (fun k hk => ?_) (fun k hki hkW hun => hfl k hki hkW (back k hun)) (ready_mono hr (Ne.symm hji)) h3.1 (h3.2.1 hflag hC) ?_⟩) h2
      · rw [getD_set_ne true (fun e => by subst e; exact hjW hk)]
        exact hWu k hk
      · rw [Array.setIfInBounds_comm _ _ hji]
        exact h3.2.2

theorem YieldsIf.weak {C C' : World → Prop} {o : Oper} {v : Value} {a : Act} (h : YieldsIf P ops C o v a) (k : ∀ w, C' w → C w) : YieldsIf P ops C' o v a :=
  h.imp (fun ⟨h1, h2⟩ => ⟨h1, fun w hw => h2 w (k w hw)⟩) id
theorem wpG_first0 {i : Nat} {oi : Oper} {v : Value} (hi : ops[i]? = some oi) (hsel : ∀ (j : Nat) (o : Oper) cs b, ops[j]? = some o → o.op ≠ .select cs b)
    (hQ : ∀ c a w, Q (.panic c) (a.put oi.dst v) w → Q (.panic c) a w) :
    ∀ (fuel : Nat) (listed : Array Bool) (a : Act) (w : World),
      (∀ j oj, ops[j]? = some oj → j ≠ i → listed.getD j true = false → (∀ e ∈ oj.after, Region.binds md e = true → e.on ≠ i) → oi.apart ops oj = true) →
      i ∈ Region.ready md ops listed → YieldsIf P ops (fun _ => True) oi v a →
      wpG P md ops Q C flag fuel (listed.setIfInBounds i true) (a.put oi.dst v) w → wpG P md ops Q C flag (fuel + 1) listed a w := by
  intro fuel
  induction fuel with
  | zero =>
    intro listed a w _ hr hy H
    refine ⟨fun h => (by rw [h] at hr; cases hr), fun j hj => ?_⟩
    by_cases hji : j = i
    · subst hji; exact hy.wpOp hi trivial ⟨fun _ h => h, H⟩
    · have := ready_mono hj hji
      rw [H.1] at this
      cases this
  | succ fuel ih =>
    intro listed a w hfree hr hy H
    refine ⟨fun h => (by rw [h] at hr; cases hr), fun j hj => ?_⟩
    by_cases hji : j = i
    · subst hji; exact hy.wpOp hi trivial ⟨fun _ h => h, H⟩
    · have h1 := H.2 j (ready_mono hj hji)
      obtain ⟨hjun, oj, hoj, hall⟩ := mem_ready.1 hj
      have hiun := (mem_ready.1 hr).1
      have hnot : ∀ e ∈ oj.after, Region.binds md e = true → e.on ≠ i := fun e he hb heq => by
        have h1 := hall e he hb
        rw [heq, getD_false_of hiun] at h1
        cases h1
      have h2 := wpOp_putIf hoj (hfree j oj hoj hji hjun hnot) (fun cs b => hsel i oi cs b hi) (fun cs b => hsel j oj cs b hoj) hQ hy h1
      have back : ∀ k, (listed.setIfInBounds j true).getD k true = false → listed.getD k true = false := fun k hun => by
        by_cases hjk : j = k
        · subst hjk; exact hjun
        · rw [getD_set_ne true hjk] at hun; exact hun
      refine wpOp_mono (fun a' w' h3 => ⟨h3.2.1, ih (listed.setIfInBounds j true) a' w' (fun k ok hk hki hun hno => hfree k ok hk hki (back k hun) hno) (ready_mono hr (Ne.symm hji)) h3.1 ?_⟩) h2
      rw [Array.setIfInBounds_comm _ _ hji]
      exact h3.2.2

/-- A step of the order: an operation that only yields (with those that can't come up before it), or one that is the only one that may come up. -/
inductive Step where
  | p (i : Nat) (W : List Nat)
  | q (i : Nat) (W : List Nat)
  | x (i : Nat)
  | s (is : List Nat)
def waitsB (md : Region.Mode) (ops : Array Oper) (i : Nat) (W : List Nat) : Bool :=
  W.all fun j => match ops[j]? with
    | some oj => oj.after.any fun e => Region.binds md e && (e.on == i || W.contains e.on)
    | none => false
theorem waits_of {i : Nat} {W : List Nat} (h : waitsB md ops i W = true) : Waits md ops i W := by
  intro j hj
  have := List.all_eq_true.1 h j hj
  cases ho : ops[j]? with
  | none => rw [ho] at this; cases this
  | some oj =>
    rw [ho] at this
    simp only [] at this
    obtain ⟨e, he, h2⟩ := Array.any_eq_true'.1 this
    simp only [Bool.and_eq_true, Bool.or_eq_true, beq_iff_eq, List.contains_iff_mem] at h2
    exact ⟨oj, e, rfl, he, h2.1, h2.2⟩
/-- Several that may come up in whatever order. -/
def ordS (md : Region.Mode) (ops : Array Oper) (next : Array Bool → Bool) : Nat → List Nat → Array Bool → Bool
  | 0, is, listed => is.isEmpty && next listed
  | f + 1, is, listed => match is.isEmpty with
    | true => next listed
    | false => Region.ready md ops listed == is && is.all fun i => ordS md ops next f (is.erase i) (listed.setIfInBounds i true)
def wpS (P : Program) (ops : Array Oper) (Q : Exit → Act → World → Prop) (C : World → Prop) (flag : Nat → Bool) (K : Act → World → Prop) : Nat → List Nat → Act → World → Prop
  | 0, is, a, w => is = [] → K a w
  | f + 1, is, a, w => (is = [] → K a w) ∧ ∀ i ∈ is, wpOp P ops Q i (fun a' w' => (flag i = true → C w → C w') ∧ wpS P ops Q C flag K f (is.erase i) a' w') a w
/-- Is the order one that serves? -/
def ordB (md : Region.Mode) (ops : Array Oper) (flag : Nat → Bool) : List Step → Array Bool → Bool
  | [], listed => Region.ready md ops listed == []
  | .q i W :: r, listed => (Region.ready md ops listed).contains i && Region.free md ops listed i && waitsB md ops i W && (W.all fun j => !(listed.getD j true)) &&
      ((List.range ops.size).all fun j => j == i || W.contains j || listed.getD j true || flag j) && ordB md ops flag r (listed.setIfInBounds i true)
  | .p i W :: r, listed => (Region.ready md ops listed).contains i && Region.free md ops listed i && ordB md ops flag r (listed.setIfInBounds i true)
  | .x i :: r, listed => Region.ready md ops listed == [i] && ordB md ops flag r (listed.setIfInBounds i true)
  | .s is :: r, listed => ordS md ops (ordB md ops flag r) is.length is listed
def steps : List Step → Nat
  | [] => 0
  | .s is :: r => is.length + steps r
  | .x _ :: r => 1 + steps r
  | .p _ _ :: r => 1 + steps r
  | .q _ _ :: r => 1 + steps r
/-- The walk along the order. -/
def wpD (P : Program) (ops : Array Oper) (Q : Exit → Act → World → Prop) (C : World → Prop) (flag : Nat → Bool) : List Step → Act → World → Prop
  | [], a, w => Q .normal a w
  | .q i _ :: r, a, w => C w ∧ ∃ o v, ops[i]? = some o ∧ YieldsIf P ops C o v a ∧ wpD P ops Q C flag r (a.put o.dst v) w
  | .p i _ :: r, a, w => ∃ o v, ops[i]? = some o ∧ YieldsIf P ops (fun _ => True) o v a ∧ wpD P ops Q C flag r (a.put o.dst v) w
  | .x i :: r, a, w => wpOp P ops Q i (fun a' w' => (flag i = true → C w → C w') ∧ wpD P ops Q C flag r a' w') a w
  | .s is :: r, a, w => wpS P ops Q C flag (wpD P ops Q C flag r) is.length is a w
def quietQ (Q : Exit → Act → World → Prop) : Exit → Act → World → Prop
  | .normal, a, w => Q .normal a w
  | _, _, _ => False
theorem wpG_of_wpS {next : Array Bool → Bool} {K : Act → World → Prop} : ∀ (f : Nat) (is : List Nat) (m fuel : Nat) (listed : Array Bool) (a : Act) (w : World), is.length ≤ f → listed.size = ops.size → is.length + m ≤ fuel → ordS md ops next f is listed = true → wpS P ops Q C flag K f is a w →
    (∀ fuel listed a w, listed.size = ops.size → m ≤ fuel → next listed = true → K a w → wpG P md ops Q C flag fuel listed a w) → wpG P md ops Q C flag fuel listed a w
  | 0, is, m, fuel, listed, a, w, hl, hz, hf, hB, h, hk => by
    have : is = [] := List.length_eq_zero_iff.1 (by omega)
    subst this
    simp only [ordS, List.isEmpty_nil, Bool.true_and] at hB
    exact hk _ _ _ _ hz (by simpa using hf) hB (h rfl)
  | f + 1, [], m, fuel, listed, a, w, hl, hz, hf, hB, h, hk => by
    simp only [ordS, List.isEmpty_nil] at hB
    exact hk _ _ _ _ hz (by simpa using hf) hB (h.1 rfl)
  | f + 1, i0 :: r, m, fuel, listed, a, w, hl, hz, hf, hB, h, hk => by
    simp only [ordS, List.isEmpty_cons, Bool.and_eq_true, beq_iff_eq] at hB
    obtain ⟨hr, hall⟩ := hB
    obtain ⟨fu, rfl⟩ : ∃ fu, fuel = fu + 1 := ⟨fuel - 1, by simp at hf; omega⟩
    refine ⟨fun h0 => (by rw [hr] at h0; cases h0), fun j hj => ?_⟩
    rw [hr] at hj
    have hlen : ((i0 :: r).erase j).length = r.length := by rw [List.length_erase_of_mem hj]; rfl
    refine wpOp_mono (fun a' w' h' => ⟨h'.1, wpG_of_wpS f _ m fu _ _ _ (by rw [hlen]; simpa using hl) (by simpa using hz) (by rw [hlen]; simp at hf; omega) (List.all_eq_true.1 hall j hj) h'.2 hk⟩) (h.2 j hj)
theorem wpG_of_wpD (hs : Region.noSelect ops = true) (hQ : ∀ c a w, ¬ Q (.panic c) a w) : ∀ (l : List Step) (fuel : Nat) (listed : Array Bool) (a : Act) (w : World), listed.size = ops.size → steps l ≤ fuel → ordB md ops flag l listed = true → wpD P ops Q C flag l a w → wpG P md ops Q C flag fuel listed a w
  | [], fuel, listed, a, w, hz, hf, hB, h => by
    have hr : Region.ready md ops listed = [] := by simpa [ordB] using hB
    cases fuel with
    | zero => exact ⟨hr, h⟩
    | succ f => exact ⟨fun _ => h, by rw [hr]; simp⟩
  | .q i W :: r, fuel, listed, a, w, hz, hf, hB, h => by
    obtain ⟨f, rfl⟩ : ∃ f, fuel = f + 1 := ⟨fuel - 1, by simp only [steps] at hf; omega⟩
    obtain ⟨hC, o, v, ho, hy, h⟩ := h
    simp only [ordB, Bool.and_eq_true] at hB
    obtain ⟨⟨⟨⟨⟨h1, h2⟩, h3⟩, h4⟩, h5⟩, h6⟩ := hB
    refine wpG_first ho (Region.noSelect_spec hs) (fun c a w hq => absurd hq (hQ _ _ _)) (waits_of h3) f listed a w (Region.free_spec ho h2) (fun j hj => ?_) (fun j hji hjW hun => ?_) (by simpa using h1) hy hC
      (wpG_of_wpD hs hQ r f _ _ _ (by simpa using hz) (by simp only [steps] at hf; omega) h6 h)
    · have := List.all_eq_true.1 h4 j hj
      simpa using this
    · rcases Nat.lt_or_ge j ops.size with hj | hj
      · have := List.all_eq_true.1 h5 j (List.mem_range.2 hj)
        simp only [Bool.or_eq_true, beq_iff_eq, List.contains_iff_mem] at this
        rcases this with ((h | h) | h) | h
        · exact absurd h hji
        · exact absurd h hjW
        · rw [hun] at h; cases h
        · exact h
      · rw [← hz] at hj
        simp [Array.getElem?_eq_none hj] at hun
  | .p i W :: r, fuel, listed, a, w, hz, hf, hB, h => by
    obtain ⟨f, rfl⟩ : ∃ f, fuel = f + 1 := ⟨fuel - 1, by simp only [steps] at hf; omega⟩
    obtain ⟨o, v, ho, hy, h⟩ := h
    simp only [ordB, Bool.and_eq_true] at hB
    obtain ⟨⟨h1, h2⟩, h6⟩ := hB
    have hrec := wpG_of_wpD hs hQ r f _ _ _ (by simpa using hz) (by simp only [steps] at hf; omega) h6 h
    exact wpG_first0 ho (Region.noSelect_spec hs) (fun c a w hq => absurd hq (hQ _ _ _)) f listed a w (Region.free_spec ho h2) (by simpa using h1) hy hrec
  | .x i :: r, fuel, listed, a, w, hz, hf, hB, h => by
    obtain ⟨f, rfl⟩ : ∃ f, fuel = f + 1 := ⟨fuel - 1, by simp only [steps] at hf; omega⟩
    simp only [ordB, Bool.and_eq_true, beq_iff_eq] at hB
    obtain ⟨hr, hB⟩ := hB
    refine ⟨fun h0 => (by rw [hr] at h0; cases h0), fun j hj => ?_⟩
    rw [hr] at hj
    simp only [List.mem_singleton] at hj
    subst hj
    exact wpOp_mono (fun a' w' h' => ⟨h'.1, wpG_of_wpD hs hQ r f _ _ _ (by simpa using hz) (by simp only [steps] at hf; omega) hB h'.2⟩) h
  | .s is :: r, fuel, listed, a, w, hz, hf, hB, h =>
    wpG_of_wpS is.length is (steps r) fuel listed a w (Nat.le_refl _) hz (by simpa only [steps] using hf) hB h fun fuel listed a w hz hf hB h => wpG_of_wpD hs hQ r fuel listed a w hz hf hB h
/-! ### over what is known of the slots -/
variable {n : Nat} {K : Env → World → Prop} {env : Env} {w : World} {l : List Oper}
structure WpD (P : Program) (ops : Array Oper) (C : World → Prop) (flag : Nat → Bool) (n : Nat) (K : Env → World → Prop) (l : List Step) (env : Env) (w : World) : Prop where
  mk :: (go : ∀ (Q : Exit → Act → World → Prop) (a : Act), Fits n env a → (∀ env' a' w', Fits n env' a' → K env' w' → Q .normal a' w') → wpD P ops Q C flag l a w)
theorem c_draw {id : Nat} {l : List Oper} {Q : Exit → Env → World → Prop} {w0 : World} {L : List Res} (hm : P.follows .mixedOrders = true) (C : World → World → Prop) (flag : Nat → Bool) (ord : List Step) (hs : Region.noSelect l.toArray = true) (hlen : Nat.ble (steps ord) l.length = true)
    (hB : ordB .any l.toArray flag ord (Array.replicate l.length false) = true) (hst : St w0 L w) (h : ∀ w1, St w0 L w1 → (∀ ad, w1.cell? ad = w.cell? ad) → WpD P l.toArray (C w1) flag n (Q .normal) ord env w1) : WpC P n Q (.region id l.toArray true) env w := by
  refine ⟨fun Q' a hf hQ => ?_⟩
  refine Code.wp_mono (Q := fun e a w => match e with | .normal => Q' .normal a w | _ => False) (fun e a w h => by cases e <;> first | exact h | exact h.elim) ?_
  refine wp_region_any hm (wpAny_of_wpG _ _ _ _ (wpG_of_wpD hs (fun c a w => fun h => h) ord _ _ _ _ (by simp) (by simpa using Nat.le_of_ble_eq_true hlen) (by simpa using hB) ((h _ hst.drew (fun _ => rfl)).go _ a hf fun env' a' w' hf' hk => hQ _ _ _ _ hf' hk)))
/-- The same, the world being told to the letter. -/
theorem c_drawE {id : Nat} {l : List Oper} {Q : Exit → Env → World → Prop} (hm : P.follows .mixedOrders = true) (flag : Nat → Bool) (ord : List Step) (hs : Region.noSelect l.toArray = true) (hlen : Nat.ble (steps ord) l.length = true)
    (hB : ordB .any l.toArray flag ord (Array.replicate l.length false) = true) (h : WpD P l.toArray (fun W => W = w.drew) flag n (Q .normal) ord env w.drew) : WpC P n Q (.region id l.toArray true) env w := by
  refine ⟨fun Q' a hf hQ => ?_⟩
  refine Code.wp_mono (Q := fun e a w => match e with | .normal => Q' .normal a w | _ => False) (fun e a w h => by cases e <;> first | exact h | exact h.elim) ?_
  refine wp_region_any hm (wpAny_of_wpG _ _ _ _ (wpG_of_wpD hs (fun c a w => fun h => h) ord _ _ _ _ (by simp) (by simpa using Nat.le_of_ble_eq_true hlen) (by simpa using hB) (h.go _ a hf fun env' a' w' hf' hk => hQ _ _ _ _ hf' hk)))
theorem d_nil (h : K env w) : WpD P ops C flag n K [] env w := ⟨fun Q a hf hQ => hQ _ _ _ hf h⟩
variable {d i : Nat} {W : List Nat} {r : List Step} {op : Op} {ty : TypeId} {pos : String} {after : Array Edge} {v : Value}
/-- An operation that only yields, whatever the world is. -/
theorem d_val (hi : ops[i]? = some ⟨some d, op, ty, pos, after, none⟩) (hd : Nat.ble (d + 1) n = true) (he : Ev P n env ⟨some d, op, ty, pos, after, none⟩ v) (h : WpD P ops C flag n K r ((d, v) :: env) w) : WpD P ops C flag n K (.p i W :: r) env w :=
  ⟨fun Q a hf hQ => ⟨_, v, hi, .inl ⟨rfl, fun w _ => he a w hf⟩, h.go Q _ (hf.put hd v) hQ⟩⟩
/-- The same, guarded by what says yes. -/
theorem d_yes {j dj : Nat} {want : Bool} (hi : ops[i]? = some ⟨some d, op, ty, pos, after, some (j, want)⟩) (hd : Nat.ble (d + 1) n = true) (hj : (ops[j]?).bind (·.dst) = some dj) (hb : lk env dj = some (.bool want))
    (he : Ev P n env ⟨some d, op, ty, pos, after, none⟩ v) (h : WpD P ops C flag n K r ((d, v) :: env) w) : WpD P ops C flag n K (.p i W :: r) env w :=
  ⟨fun Q a hf hQ => ⟨_, v, hi, .inl ⟨by simp [Region.wanted, yielded, hj, hf.at_ dj _ hb], fun w _ => he a w hf⟩, h.go Q _ (hf.put hd v) hQ⟩⟩
/-- An operation that only yields where C holds. -/
theorem d_valC (hi : ops[i]? = some ⟨some d, op, ty, pos, after, none⟩) (hd : Nat.ble (d + 1) n = true) (hC : C w) (he : ∀ a w, C w → Fits n env a → (execOp a.eval ⟨some d, op, ty, pos, after, none⟩).run P w = .ok (.value v) w) (h : WpD P ops C flag n K r ((d, v) :: env) w) : WpD P ops C flag n K (.q i W :: r) env w :=
  ⟨fun Q a hf hQ => ⟨hC, _, v, hi, .inl ⟨rfl, fun w hw => he a w hw hf⟩, h.go Q _ (hf.put hd v) hQ⟩⟩
theorem d_load1 {x : Operand} {t : TypeId} {ad : Addr} {w1 : World} (hi : ops[i]? = some ⟨some d, .load t x, ty, pos, after, none⟩) (hd : Nat.ble (d + 1) n = true) (ht : Plain P t) (hx : ev env x = some (.pointer (some ad))) (hc : w1.cell? ad = some v)
    (h : WpD P ops (fun W => W = w1) flag n K r ((d, v) :: env) w1) : WpD P ops (fun W => W = w1) flag n K (.q i W :: r) env w1 :=
  d_valC hi hd rfl (fun a w hw hf => by subst hw; simp [execOp, hf.eval hx, Instr.loadAt, Instr.sureAddr, Sem.run_bind, Sem.run_pure, Result.andThen_ok, run_load ht hc]) h
theorem d_load {x : Operand} {t : TypeId} {ad : Addr} (hi : ops[i]? = some ⟨some d, .load t x, ty, pos, after, none⟩) (hd : Nat.ble (d + 1) n = true) (hC : C w) (ht : Plain P t) (hx : ev env x = some (.pointer (some ad))) (hc : ∀ w, C w → w.cell? ad = some v)
    (h : WpD P ops C flag n K r ((d, v) :: env) w) : WpD P ops C flag n K (.q i W :: r) env w :=
  d_valC hi hd hC (fun a w hw hf => by simp [execOp, hf.eval hx, Instr.loadAt, Instr.sureAddr, Sem.run_bind, Sem.run_pure, Result.andThen_ok, run_load ht (hc w hw)]) h
/-- A guard that says no. -/
theorem d_no {j dj : Nat} {want b : Bool} (hi : ops[i]? = some ⟨some d, op, ty, pos, after, some (j, want)⟩) (hd : Nat.ble (d + 1) n = true) (hj : (ops[j]?).bind (·.dst) = some dj) (hb : lk env dj = some (.bool b)) (hne : (b == want) = false)
    (h : WpD P ops C flag n K r ((d, undef) :: env) w) : WpD P ops C flag n K (.p i W :: r) env w := by
  refine ⟨fun Q a hf hQ => ?_⟩
  have hne' : b ≠ want := by simpa using hne
  exact ⟨_, undef, hi, .inr ⟨by simp [Region.wanted, yielded, hj, hf.at_ dj _ hb, hne'], rfl⟩, h.go Q _ (hf.put hd undef) hQ⟩
theorem upon_congr {o : Oper} {a : Act} {K K' : Act → World → Prop} {Q Q' : Exit → Act → World → Prop} {r : Result Next} (hK : ∀ a w, K a w → K' a w) (hp : ∀ c a w, Q (.panic c) a w → Q' (.panic c) a w) (hl : LetsOut Q → LetsOut Q') (h : o.upon P a K Q r) : o.upon P a K' Q' r := by
  cases r with
  | ok x w =>
    cases x <;> simp only [Oper.upon] at h ⊢
    case value v => exact hK _ _ h
    case skip => exact hK _ _ h
    case defer d => exact hK _ _ h
    case enter f args =>
      refine Calls.mono h fun e w'' he => ?_
      cases e with
      | returned u => exact hK _ _ he
      | panicked c => exact hp _ _ _ he
      | outgrown => exact hl he
    case row row args => exact Rows.mono h fun u w'' he => hK _ _ he
  | halt x w =>
    cases x <;> simp only [Oper.upon] at h ⊢
    case panic v => exact hp _ _ _ h
/-- An operation that is the only one that may come up: as in a list of one. -/
theorem d_step {dst : Option Nat} (hi : ops[i]? = some ⟨dst, op, ty, pos, after, none⟩) (h : WpL P ops n (fun env w' => (flag i = true → C w → C w') ∧ WpD P ops C flag n K r env w') [⟨dst, op, ty, pos, after, none⟩] env w) : WpD P ops C flag n K (.x i :: r) env w := by
  refine ⟨fun Q a hf hQ => ?_⟩
  have := h.go (fun e a w' => match e with | .normal => (flag i = true → C w → C w') ∧ wpD P ops Q C flag r a w' | _ => Q e a w') a hf (fun env' a' w' hf' hk => ⟨hk.1, hk.2.go Q a' hf' hQ⟩)
  unfold wpD wpOp
  rw [hi]
  unfold wpList at this
  simp only [] at this ⊢
  split
  · rename_i hw
    rw [if_pos hw] at this
    rcases this with h | ⟨h1, h2⟩
    · exact .inl (upon_congr (fun a w h => h) (fun c a w h => h) (fun h => h) h)
    · exact .inr ⟨h1, h2⟩
  · rename_i hw
    exact absurd rfl hw
theorem WpD.weak {l : List Step} (small : Env) (hs : Fw.Sub env small) (h : WpD P ops C flag n K l small w) : WpD P ops C flag n K l env w := ⟨fun Q a hf hQ => h.go Q a (hf.sub hs) hQ⟩
/-- Several that may come up in whatever order: what is true behind each of them. -/
theorem d_set {is : List Nat} (J : List Nat → Env → World → Prop) (h0 : J [] env w) (hstep : ∀ D i env w, J D env w → i ∈ is → i ∉ D → ∃ o, ops[i]? = some o ∧ o.guard = none ∧ WpL P ops n (fun env' w' => (flag i = true → C w → C w') ∧ J (i :: D) env' w') [o] env w)
    (hend : ∀ D env w, J D env w → (∀ i ∈ is, i ∈ D) → WpD P ops C flag n K r env w) (hnd : is.Nodup) : WpD P ops C flag n K (.s is :: r) env w := by
  refine ⟨fun Q a hf hQ => ?_⟩
  show wpS P ops Q C flag (wpD P ops Q C flag r) is.length is a w
  have main : ∀ (f : Nat) (todo : List Nat) (D : List Nat) (env : Env) (a : Act) (w : World), Fits n env a → todo.length ≤ f → todo.Nodup → (∀ i ∈ todo, i ∈ is ∧ i ∉ D) → (∀ i ∈ is, i ∈ D ∨ i ∈ todo) → J D env w → wpS P ops Q C flag (wpD P ops Q C flag r) f todo a w := by
    intro f
    induction f with
    | zero =>
      intro todo D env a w hf hl hn h1 h2 hJ
      intro ht
      subst ht
      exact (hend D env w hJ fun i hi => (h2 i hi).resolve_right (by simp)).go Q a hf hQ
    | succ f ih =>
      intro todo D env a w hf hl hn h1 h2 hJ
      refine ⟨fun ht => ?_, fun i hi => ?_⟩
      · subst ht
        exact (hend D env w hJ fun i hi => (h2 i hi).resolve_right (by simp)).go Q a hf hQ
      · obtain ⟨⟨dst, op, ty, pos, after, guard⟩, ho, hg, hw⟩ := hstep D i env w hJ (h1 i hi).1 (h1 i hi).2
        simp only [] at hg
        subst hg
        have hlen : (todo.erase i).length = todo.length - 1 := List.length_erase_of_mem hi
        have := hw.go (fun e a w' => match e with | .normal => (flag i = true → C w → C w') ∧ wpS P ops Q C flag (wpD P ops Q C flag r) f (todo.erase i) a w' | _ => Q e a w') a hf (fun env' a' w' hf' hk => ⟨hk.1, ih (todo.erase i) (i :: D) env' a' w' hf' (by omega) (hn.erase i) (fun j hj => by
          have hj' := List.mem_of_mem_erase hj
          refine ⟨(h1 j hj').1, fun hmem => ?_⟩
          rcases List.mem_cons.1 hmem with rfl | hmem
          · exact absurd hj (hn.not_mem_erase)
          · exact (h1 j hj').2 hmem) (fun j hj => by
          rcases h2 j hj with h | h
          · exact .inl (List.mem_cons_of_mem _ h)
          · by_cases hji : j = i
            · subst hji; exact .inl (List.mem_cons_self)
            · exact .inr ((List.mem_erase_of_ne hji).2 h)) hk.2⟩)
        unfold wpOp
        rw [ho]
        unfold wpList at this
        simp only [] at this ⊢
        split
        · rename_i hw
          rw [if_pos hw] at this
          rcases this with h | ⟨h1, h2⟩
          · exact .inl (upon_congr (fun a w h => h) (fun c a w h => h) (fun h => h) h)
          · exact .inr ⟨h1, h2⟩
        · rename_i hw
          exact absurd rfl hw
  exact main is.length is [] env a w hf (Nat.le_refl _) hnd (fun i hi => ⟨hi, by simp⟩) (fun i hi => .inr hi) h0
end Go.Proofs.Fw
