/- The walk where some of the slots are known: what is known of them is listed, and by that list each step is told. No condition. -/
import Derived.WalkKit
import Derived.KernelRfl
import Derived.Deep.LoopGhost
set_option linter.unusedVariables false
namespace Go.Proofs.Fw

/-! ### what is known of the slots -/
abbrev Env := List (Nat × Value)
def lk : Env → Nat → Option Value
  | [], _ => none
  | (j, v) :: r, i => bif Nat.beq j i then some v else lk r i
theorem lk_hit (v : Value) (r : Env) (i : Nat) : lk ((i, v) :: r) i = some v := by simp [lk]
theorem lk_cons (j : Nat) (v : Value) (r : Env) (i : Nat) : lk ((j, v) :: r) i = if j = i then some v else lk r i := by
  show (bif Nat.beq j i then some v else lk r i) = _
  by_cases h : j = i
  · subst h; simp
  · have hb : Nat.beq j i = false := by
      cases hb : Nat.beq j i with
      | false => rfl
      | true => exact absurd (Nat.eq_of_beq_eq_true hb) h
    rw [hb, if_neg h]; rfl
structure Fits (n : Nat) (env : Env) (a : Act) : Prop where
  size : a.tmps.size = n
  defers : a.defers = []
  at_ : ∀ i v, lk env i = some v → a.tmps[i]? = some v
def ev (env : Env) : Operand → Option Value
  | .tmp t => lk env t
  | .const v => some v
  | .global g => some (.pointer (some ⟨g, 0, none⟩))
  | .func f => some (.func (.func f) #[] #[])
variable {P : Program} {n : Nat} {env : Env} {a : Act}
theorem Fits.eval (h : Fits n env a) {x : Operand} {v : Value} (hx : ev env x = some v) : a.eval x = v := by
  cases x with
  | tmp t => simp only [ev] at hx; simp [Act.eval, Array.getD_eq_getD_getElem?, h.at_ t v hx]
  | const u => simpa [ev, Act.eval] using hx
  | global g => simpa [ev, Act.eval] using hx
  | func f => simpa [ev, Act.eval] using hx
theorem Fits.put (h : Fits n env a) {d : Nat} (hd : Nat.ble (d + 1) n = true) (v : Value) : Fits n ((d, v) :: env) (a.put (some d) v) := by
  have hd' : d < n := Nat.le_of_ble_eq_true hd
  refine ⟨by simp [Act.put, h.size], by simp [Act.put, h.defers], fun i u hu => ?_⟩
  rw [lk_cons] at hu
  by_cases e : d = i
  · subst e
    rw [if_pos rfl] at hu
    cases hu
    simp only [Act.put]
    rw [Array.getElem?_setIfInBounds]
    simp [h.size, hd']
  · rw [if_neg e] at hu
    simp only [Act.put]
    rw [Array.getElem?_setIfInBounds_ne e]
    exact h.at_ i u hu
theorem Fits.put_none (h : Fits n env a) (v : Value) : Fits n env (a.put none v) := by simpa [Act.put] using h
/-- 'small' says less than 'env'. -/
def Sub (env : Env) : Env → Prop
  | [] => True
  | (i, v) :: r => lk env i = some v ∧ Sub env r
theorem Sub.lk {env small : Env} (h : Sub env small) : ∀ i v, lk small i = some v → lk env i = some v := by
  induction small with
  | nil => intro i v hv; simp [Fw.lk] at hv
  | cons p r ih =>
    obtain ⟨j, u⟩ := p
    intro i v hv
    rw [lk_cons] at hv
    by_cases e : j = i
    · subst e; rw [if_pos rfl] at hv; cases hv; exact h.1
    · rw [if_neg e] at hv; exact ih h.2 i v hv
theorem Fits.of_lk {env2 : Env} (h : Fits n env a) (hs : ∀ i v, lk env2 i = some v → lk env i = some v) : Fits n env2 a := ⟨h.size, h.defers, fun i v hv => h.at_ i v (hs i v hv)⟩
theorem Fits.dup (h : Fits n env a) {i : Nat} {v : Value} (hi : lk env i = some v) : Fits n ((i, v) :: env) a := h.of_lk fun j u hu => by
  rw [lk_cons] at hu
  by_cases e : i = j
  · subst e; rw [if_pos rfl] at hu; cases hu; exact hi
  · rw [if_neg e] at hu; exact hu
theorem Fits.sub {small : Env} (h : Fits n env a) (hs : Sub env small) : Fits n small a := ⟨h.size, h.defers, fun i v hv => h.at_ i v (hs.lk i v hv)⟩

/-! ### lists of operations -/
structure WpL (P : Program) (ops : Array Oper) (n : Nat) (K : Env → World → Prop) (l : List Oper) (env : Env) (w : World) : Prop where
  mk :: (go : ∀ (Q : Exit → Act → World → Prop) (a : Act), Fits n env a → (∀ env' a' w', Fits n env' a' → K env' w' → Q .normal a' w') → wpList P ops Q l a w)
structure WpC (P : Program) (n : Nat) (Q : Exit → Env → World → Prop) (c : Code) (env : Env) (w : World) : Prop where
  mk :: (go : ∀ (Q' : Exit → Act → World → Prop) (a : Act), Fits n env a → (∀ e env' a' w', Fits n env' a' → Q e env' w' → Q' e a' w') → c.wp P Q' a w)
def Then (y : Env → World → Prop) (Q : Exit → Env → World → Prop) : Exit → Env → World → Prop
  | .normal, e, w => y e w
  | x, e, w => Q x e w
def InBlock (id : Nat) (Q : Exit → Env → World → Prop) : Exit → Env → World → Prop
  | .exit id', e, w => match Nat.beq id' id with
    | true => Q .normal e w
    | false => Q (.exit id') e w
  | x, e, w => Q x e w
variable {Q : Exit → Env → World → Prop} {w : World} {ops : Array Oper} {K : Env → World → Prop}

theorem WpC.mono {c : Code} {Q2 : Exit → Env → World → Prop} (h : WpC P n Q c env w) (hq : ∀ e env w, Q e env w → Q2 e env w) : WpC P n Q2 c env w :=
  ⟨fun Q' a hf hQ => h.go Q' a hf fun e env' a' w' hf' h' => hQ e env' a' w' hf' (hq _ _ _ h')⟩
theorem WpC.weak {c : Code} (small : Env) (hs : Sub env small) (h : WpC P n Q c small w) : WpC P n Q c env w :=
  ⟨fun Q' a hf hQ => h.go Q' a (hf.sub hs) hQ⟩
theorem WpL.weak {l : List Oper} (small : Env) (hs : Sub env small) (h : WpL P ops n K l small w) : WpL P ops n K l env w :=
  ⟨fun Q' a hf hQ => h.go Q' a (hf.sub hs) hQ⟩
theorem WpL.mono {l : List Oper} {K2 : Env → World → Prop} (h : WpL P ops n K l env w) (hk : ∀ e w, K e w → K2 e w) : WpL P ops n K2 l env w :=
  ⟨fun Q a hf hQ => h.go Q a hf fun env' a' w' hf' h' => hQ env' a' w' hf' (hk _ _ h')⟩
theorem c_seq {x y : Code} (h : WpC P n (Then (WpC P n Q y) Q) x env w) : WpC P n Q (.seq x y) env w := by
  refine ⟨fun Q' a hf hQ => ?_⟩
  refine wp_seq (h.go _ a hf ?_)
  intro e env' a' w' hf' h'
  cases e with
  | normal => exact h'.go Q' a' hf' hQ
  | exit id => exact hQ _ _ _ _ hf' h'
  | goto l => exact hQ _ _ _ _ hf' h'
  | ret => exact hQ _ _ _ _ hf' h'
  | panic c => exact hQ _ _ _ _ hf' h'
  | outgrown => exact hQ _ _ _ _ hf' h'
theorem c_skip (h : Q .normal env w) : WpC P n Q .skip env w := ⟨fun Q' a hf hQ => wp_skip (hQ _ _ _ _ hf h)⟩
theorem c_exit {id : Nat} (h : Q (.exit id) env w) : WpC P n Q (.exit id) env w := ⟨fun Q' a hf hQ => wp_exit (hQ _ _ _ _ hf h)⟩
theorem c_ret (h : Q .ret env w) : WpC P n Q .ret env w := ⟨fun Q' a hf hQ => wp_ret (hQ _ _ _ _ hf h)⟩
theorem c_block {id : Nat} {c : Code} (h : WpC P n (InBlock id Q) c env w) : WpC P n Q (.block id c) env w := by
  refine ⟨fun Q' a hf hQ => ?_⟩
  refine wp_block (h.go _ a hf ?_)
  intro e env' a' w' hf' h'
  cases e with
  | exit id' =>
    simp only [InBlock] at h'
    simp only [Exit.inBlock]
    cases hb : Nat.beq id' id with
    | true =>
      rw [hb] at h'
      rw [if_pos (Nat.eq_of_beq_eq_true hb)]; exact hQ _ _ _ _ hf' h'
    | false =>
      rw [hb] at h'
      rw [if_neg (fun e => by subst e; simp at hb)]; exact hQ _ _ _ _ hf' h'
  | normal => exact hQ _ _ _ _ hf' h'
  | goto l => exact hQ _ _ _ _ hf' h'
  | ret => exact hQ _ _ _ _ hf' h'
  | panic c => exact hQ _ _ _ _ hf' h'
  | outgrown => exact hQ _ _ _ _ hf' h'
theorem c_cond {c : Operand} {x y : Code} (b : Bool) (hc : ev env c = some (.bool b)) (ht : b = true → WpC P n Q x env w) (hf : b = false → WpC P n Q y env w) : WpC P n Q (.cond c x y) env w := by
  refine ⟨fun Q' a hfit hQ => ?_⟩
  exact wp_cond_split (hfit.eval hc) (fun h => (ht h).go Q' a hfit hQ) (fun h => (hf h).go Q' a hfit hQ)
theorem c_condT {c : Operand} {x y : Code} (hc : ev env c = some (.bool true)) (h : WpC P n Q x env w) : WpC P n Q (.cond c x y) env w :=
  c_cond true hc (fun _ => h) (fun h => nomatch h)
theorem c_condF {c : Operand} {x y : Code} (hc : ev env c = some (.bool false)) (h : WpC P n Q y env w) : WpC P n Q (.cond c x y) env w :=
  c_cond false hc (fun h => nomatch h) (fun _ => h)
/-- A test that is a decision. -/
theorem c_if {c : Operand} {x y : Code} (p : Prop) [Decidable p] (hc : ev env c = some (.bool (decide p))) (ht : p → WpC P n Q x env w) (hf : ¬ p → WpC P n Q y env w) : WpC P n Q (.cond c x y) env w :=
  c_cond (decide p) hc (fun h => ht (of_decide_eq_true h)) (fun h => hf (of_decide_eq_false h))
/-- A loop: a relation that bears a number, which each round lowers. -/
theorem c_loop {c : Code} (I : Nat → Env → World → Prop) (m : Nat) (h0 : I m env w)
    (round : ∀ m env w, I m env w → WpC P n (Then (fun env' w' => ∃ m', m' < m ∧ I m' env' w') Q) c env w) : WpC P n Q (.loop c) env w := by
  refine ⟨fun Q' a hf hQ => ?_⟩
  refine wp_loop_ghost (fun k a w => ∃ env, Fits n env a ∧ I k env w) m ⟨env, hf, h0⟩ ?_
  rintro k a w ⟨env, hf, hI⟩
  refine (round k env w hI).go _ a hf ?_
  intro e env' a' w' hf' h'
  cases e with
  | normal => obtain ⟨m', hlt, hI'⟩ := h'; exact ⟨m', hlt, env', hf', hI'⟩
  | exit id => exact hQ _ _ _ _ hf' h'
  | goto l => exact hQ _ _ _ _ hf' h'
  | ret => exact hQ _ _ _ _ hf' h'
  | panic c => exact hQ _ _ _ _ hf' h'
  | outgrown => exact hQ _ _ _ _ hf' h'
/-- The same; the environment is told as a list that says less. -/
theorem c_loop' {c : Code} (I : Nat → Env → World → Prop) (m : Nat) (small : Env) (hs : Sub env small) (h0 : I m small w)
    (round : ∀ m env w, I m env w → WpC P n (Then (fun env' w' => ∃ m' small, m' < m ∧ Sub env' small ∧ I m' small w') Q) c env w) : WpC P n Q (.loop c) env w := by
  refine WpC.weak small hs (c_loop I m h0 fun m env w hI => ?_)
  refine ⟨fun Q' a hf hQ => ?_⟩
  refine (round m env w hI).go Q' a hf fun e env' a' w' hf' h' => ?_
  cases e with
  | normal => obtain ⟨m', small, hlt, hs, hI'⟩ := h'; exact hQ _ small a' w' (hf'.sub hs) ⟨m', hlt, hI'⟩
  | exit id => exact hQ _ _ _ _ hf' h'
  | goto l => exact hQ _ _ _ _ hf' h'
  | ret => exact hQ _ _ _ _ hf' h'
  | panic c => exact hQ _ _ _ _ hf' h'
  | outgrown => exact hQ _ _ _ _ hf' h'
theorem c_region {id : Nat} {l : List Oper} (h : WpL P l.toArray n (Q .normal) l env w) : WpC P n Q (.region id l.toArray false) env w :=
  ⟨fun Q' a hf hQ => wp_region_lit (h.go Q' a hf fun env' a' w' hf' h' => hQ _ _ _ _ hf' h')⟩

/-! ### functions -/
def argsEnv : Nat → List Value → Env
  | _, [] => []
  | i, v :: r => (i, v) :: argsEnv (i + 1) r
theorem lk_argsEnv (vs : List Value) : ∀ (k i : Nat) (v : Value), lk (argsEnv k vs) i = some v → k ≤ i ∧ vs[i - k]? = some v := by
  induction vs with
  | nil => intro k i v h; simp [argsEnv, lk] at h
  | cons u r ih =>
    intro k i v h
    simp only [argsEnv] at h
    rw [lk_cons] at h
    by_cases e : k = i
    · subst e; rw [if_pos rfl] at h; cases h; simp
    · rw [if_neg e] at h
      obtain ⟨h1, h2⟩ := ih (k + 1) i v h
      refine ⟨by omega, ?_⟩
      rw [show i - k = (i - (k + 1)) + 1 from by omega, List.getElem?_cons_succ]
      exact h2
theorem fits_args {n : Nat} (vs : List Value) (h : vs.length ≤ n) : Fits n (argsEnv 0 vs) { tmps := vs.toArray ++ Array.replicate (n - vs.toArray.size) undef, defers := [] } := by
  refine ⟨by simp; omega, rfl, fun i v hv => ?_⟩
  obtain ⟨_, hv⟩ := lk_argsEnv vs 0 i v hv
  simp only [Nat.sub_zero] at hv
  have hi : i < vs.length := by
    rcases Nat.lt_or_ge i vs.length with h | h
    · exact h
    · rw [List.getElem?_eq_none h] at hv; cases hv
  rw [Array.getElem?_append_left (by simpa using hi)]
  simpa using hv
/-- One result, in a slot. -/
theorem calls_one {f : FuncId} {fn : Func} {c : Code} {vs : List Value} {r : Tmp} {R : Ending → World → Prop} (hf : P.funcs[f]? = some fn) (hb : fn.body = some c) (hr : fn.results = #[.tmp r]) (hn : Nat.ble vs.length fn.ntmps = true)
    (h : WpC P fn.ntmps (fun e env w => (e = .normal ∨ e = .ret) ∧ ∃ v, lk env r = some v ∧ R (.returned v) w) c (argsEnv 0 vs) w) : Calls P f vs.toArray w R := by
  refine calls_of_wp hf hb (h.go _ _ (fits_args vs (Nat.le_of_ble_eq_true hn)) ?_)
  rintro e env' a' w' hf' ⟨he, v, hv, hR⟩
  have hres : (results fn a'.tmps).run P w' = .ok v w' := by
    rw [results_tmp hr]
    simp [Array.getD_eq_getD_getElem?, hf'.at_ r v hv]
  rcases he with rfl | rfl
  · exact ⟨hf'.defers, v, hres, hR⟩
  · exact ⟨hf'.defers, v, hres, hR⟩
/-- Two results, in slots. -/
theorem calls_two {f : FuncId} {fn : Func} {c : Code} {vs : List Value} {r s : Tmp} {R : Ending → World → Prop} (hf : P.funcs[f]? = some fn) (hb : fn.body = some c) (hr : fn.results = #[.tmp r, .tmp s]) (hn : Nat.ble vs.length fn.ntmps = true)
    (h : WpC P fn.ntmps (fun e env w => (e = .normal ∨ e = .ret) ∧ ∃ v u, lk env r = some v ∧ lk env s = some u ∧ R (.returned (.tuple #[v, u])) w) c (argsEnv 0 vs) w) : Calls P f vs.toArray w R := by
  refine calls_of_wp hf hb (h.go _ _ (fits_args vs (Nat.le_of_ble_eq_true hn)) ?_)
  rintro e env' a' w' hf' ⟨he, v, u, hv, hu, hR⟩
  have hres : (results fn a'.tmps).run P w' = .ok (.tuple #[v, u]) w' := by
    rw [results_tmp2 hr]
    simp [Array.getD_eq_getD_getElem?, hf'.at_ r v hv, hf'.at_ s u hu]
  rcases he with rfl | rfl
  · exact ⟨hf'.defers, _, hres, hR⟩
  · exact ⟨hf'.defers, _, hres, hR⟩
/-- No result. -/
theorem calls_zero {f : FuncId} {fn : Func} {c : Code} {vs : List Value} {R : Ending → World → Prop} (hf : P.funcs[f]? = some fn) (hb : fn.body = some c) (hr : fn.results = #[]) (hn : Nat.ble vs.length fn.ntmps = true)
    (h : WpC P fn.ntmps (fun e env w => (e = .normal ∨ e = .ret) ∧ R (.returned (.tuple #[])) w) c (argsEnv 0 vs) w) : Calls P f vs.toArray w R := by
  refine calls_of_wp hf hb (h.go _ _ (fits_args vs (Nat.le_of_ble_eq_true hn)) ?_)
  rintro e env' a' w' hf' ⟨he, hR⟩
  rcases he with rfl | rfl
  · exact ⟨hf'.defers, _, results_none hr _ _ _, hR⟩
  · exact ⟨hf'.defers, _, results_none hr _ _ _, hR⟩
end Go.Proofs.Fw
