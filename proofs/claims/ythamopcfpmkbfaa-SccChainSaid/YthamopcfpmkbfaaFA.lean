/- The walk: what is known of the slots, of memory, of values; the steps. No condition. -/
import Derived.WalkKit
import Derived.KernelRfl
import Derived.Deep.LoopGhost
import Derived.Deep.Draws
import Derived.Maps.AppendAt
import Derived.Deep.OwnRows
import Derived.OrdersHeld
import Derived.Still
set_option linter.unusedVariables false
set_option linter.unusedSimpArgs false
namespace Go.Proofs.Fw

/-! ### what is known of the slots -/
abbrev Env := List (Nat × Value)
def lk : Env → Nat → Option Value
  | [], _ => none
  | (j, v) :: r, i => bif Nat.beq j i then some v else lk r i
theorem lk_hit (v : Value) (r : Env) (i : Nat) : lk ((i, v) :: r) i = some v := by simp [lk]
theorem lk_cons (j : Nat) (v : Value) (r : Env) (i : Nat) : lk ((j, v) :: r) i = if j = i then some v else lk r i := by
  show (bif Nat.beq j i then some v else lk r i) = _
  by_cases h : j = i
  · subst h; simp
  · have hb : Nat.beq j i = false := by
      cases hb : Nat.beq j i with
      | false => rfl
      | true => exact absurd (Nat.eq_of_beq_eq_true hb) h
    rw [hb, if_neg h]; rfl
structure Fits (n : Nat) (env : Env) (a : Act) : Prop where
  size : a.tmps.size = n
  defers : a.defers = []
  at_ : ∀ i v, lk env i = some v → a.tmps[i]? = some v
def ev (env : Env) : Operand → Option Value
  | .tmp t => lk env t
  | .const v => some v
  | .global g => some (.pointer (some ⟨g, 0, none⟩))
  | .func f => some (.func (.func f) #[] #[])
variable {P : Program} {n : Nat} {env : Env} {a : Act}
theorem Fits.eval (h : Fits n env a) {x : Operand} {v : Value} (hx : ev env x = some v) : a.eval x = v := by
  cases x with
  | tmp t => simp only [ev] at hx; simp [Act.eval, Array.getD_eq_getD_getElem?, h.at_ t v hx]
  | const u => simpa [ev, Act.eval] using hx
  | global g => simpa [ev, Act.eval] using hx
  | func f => simpa [ev, Act.eval] using hx
theorem Fits.put (h : Fits n env a) {d : Nat} (hd : Nat.ble (d + 1) n = true) (v : Value) : Fits n ((d, v) :: env) (a.put (some d) v) := by
  have hd' : d < n := Nat.le_of_ble_eq_true hd
  refine ⟨by simp [Act.put, h.size], by simp [Act.put, h.defers], fun i u hu => ?_⟩
  rw [lk_cons] at hu
  by_cases e : d = i
  · subst e
    rw [if_pos rfl] at hu
    cases hu
    simp only [Act.put]
    rw [Array.getElem?_setIfInBounds]
    simp [h.size, hd']
  · rw [if_neg e] at hu
    simp only [Act.put]
    rw [Array.getElem?_setIfInBounds_ne e]
    exact h.at_ i u hu
theorem Fits.put_none (h : Fits n env a) (v : Value) : Fits n env (a.put none v) := by simpa [Act.put] using h
/-- 'small' says less than 'env'. -/
def Sub (env : Env) : Env → Prop
  | [] => True
  | (i, v) :: r => lk env i = some v ∧ Sub env r
theorem Sub.lk {env small : Env} (h : Sub env small) : ∀ i v, lk small i = some v → lk env i = some v := by
  induction small with
  | nil => intro i v hv; simp [Fw.lk] at hv
  | cons p r ih =>
    obtain ⟨j, u⟩ := p
    intro i v hv
    rw [lk_cons] at hv
    by_cases e : j = i
    · subst e; rw [if_pos rfl] at hv; cases hv; exact h.1
    · rw [if_neg e] at hv; exact ih h.2 i v hv
theorem Fits.of_lk {env2 : Env} (h : Fits n env a) (hs : ∀ i v, lk env2 i = some v → lk env i = some v) : Fits n env2 a := ⟨h.size, h.defers, fun i v hv => h.at_ i v (hs i v hv)⟩
theorem Fits.dup (h : Fits n env a) {i : Nat} {v : Value} (hi : lk env i = some v) : Fits n ((i, v) :: env) a := h.of_lk fun j u hu => by
  rw [lk_cons] at hu
  by_cases e : i = j
  · subst e; rw [if_pos rfl] at hu; cases hu; exact hi
  · rw [if_neg e] at hu; exact hu
theorem Fits.sub {small : Env} (h : Fits n env a) (hs : Sub env small) : Fits n small a := ⟨h.size, h.defers, fun i v hv => h.at_ i v (hs.lk i v hv)⟩

/-! ### lists of operations -/
structure WpL (P : Program) (ops : Array Oper) (n : Nat) (K : Env → World → Prop) (l : List Oper) (env : Env) (w : World) : Prop where
  mk :: (go : ∀ (Q : Exit → Act → World → Prop) (a : Act), Fits n env a → (∀ env' a' w', Fits n env' a' → K env' w' → Q .normal a' w') → wpList P ops Q l a w)
structure WpC (P : Program) (n : Nat) (Q : Exit → Env → World → Prop) (c : Code) (env : Env) (w : World) : Prop where
  mk :: (go : ∀ (Q' : Exit → Act → World → Prop) (a : Act), Fits n env a → (∀ e env' a' w', Fits n env' a' → Q e env' w' → Q' e a' w') → c.wp P Q' a w)
def Then (y : Env → World → Prop) (Q : Exit → Env → World → Prop) : Exit → Env → World → Prop
  | .normal, e, w => y e w
  | x, e, w => Q x e w
def InBlock (id : Nat) (Q : Exit → Env → World → Prop) : Exit → Env → World → Prop
  | .exit id', e, w => match Nat.beq id' id with
    | true => Q .normal e w
    | false => Q (.exit id') e w
  | x, e, w => Q x e w
variable {Q : Exit → Env → World → Prop} {w : World} {ops : Array Oper} {K : Env → World → Prop}

theorem WpC.mono {c : Code} {Q2 : Exit → Env → World → Prop} (h : WpC P n Q c env w) (hq : ∀ e env w, Q e env w → Q2 e env w) : WpC P n Q2 c env w :=
  ⟨fun Q' a hf hQ => h.go Q' a hf fun e env' a' w' hf' h' => hQ e env' a' w' hf' (hq _ _ _ h')⟩
theorem WpC.weak {c : Code} (small : Env) (hs : Sub env small) (h : WpC P n Q c small w) : WpC P n Q c env w :=
  ⟨fun Q' a hf hQ => h.go Q' a (hf.sub hs) hQ⟩
theorem WpL.weak {l : List Oper} (small : Env) (hs : Sub env small) (h : WpL P ops n K l small w) : WpL P ops n K l env w :=
  ⟨fun Q' a hf hQ => h.go Q' a (hf.sub hs) hQ⟩
theorem WpL.mono {l : List Oper} {K2 : Env → World → Prop} (h : WpL P ops n K l env w) (hk : ∀ e w, K e w → K2 e w) : WpL P ops n K2 l env w :=
  ⟨fun Q a hf hQ => h.go Q a hf fun env' a' w' hf' h' => hQ env' a' w' hf' (hk _ _ h')⟩
theorem c_seq {x y : Code} (h : WpC P n (Then (WpC P n Q y) Q) x env w) : WpC P n Q (.seq x y) env w := by
  refine ⟨fun Q' a hf hQ => ?_⟩
  refine wp_seq (h.go _ a hf ?_)
  intro e env' a' w' hf' h'
  cases e with
  | normal => exact h'.go Q' a' hf' hQ
  | exit id => exact hQ _ _ _ _ hf' h'
  | goto l => exact hQ _ _ _ _ hf' h'
  | ret => exact hQ _ _ _ _ hf' h'
  | panic c => exact hQ _ _ _ _ hf' h'
  | outgrown => exact hQ _ _ _ _ hf' h'
theorem c_skip (h : Q .normal env w) : WpC P n Q .skip env w := ⟨fun Q' a hf hQ => wp_skip (hQ _ _ _ _ hf h)⟩
theorem c_exit {id : Nat} (h : Q (.exit id) env w) : WpC P n Q (.exit id) env w := ⟨fun Q' a hf hQ => wp_exit (hQ _ _ _ _ hf h)⟩
theorem c_ret (h : Q .ret env w) : WpC P n Q .ret env w := ⟨fun Q' a hf hQ => wp_ret (hQ _ _ _ _ hf h)⟩
theorem c_block {id : Nat} {c : Code} (h : WpC P n (InBlock id Q) c env w) : WpC P n Q (.block id c) env w := by
  refine ⟨fun Q' a hf hQ => ?_⟩
  refine wp_block (h.go _ a hf ?_)
  intro e env' a' w' hf' h'
  cases e with
  | exit id' =>
    simp only [InBlock] at h'
    simp only [Exit.inBlock]
    cases hb : Nat.beq id' id with
    | true =>
      rw [hb] at h'
      rw [if_pos (Nat.eq_of_beq_eq_true hb)]; exact hQ _ _ _ _ hf' h'
    | false =>
      rw [hb] at h'
      rw [if_neg (fun e => by subst e; simp at hb)]; exact hQ _ _ _ _ hf' h'
  | normal => exact hQ _ _ _ _ hf' h'
  | goto l => exact hQ _ _ _ _ hf' h'
  | ret => exact hQ _ _ _ _ hf' h'
  | panic c => exact hQ _ _ _ _ hf' h'
  | outgrown => exact hQ _ _ _ _ hf' h'
theorem c_cond {c : Operand} {x y : Code} (b : Bool) (hc : ev env c = some (.bool b)) (ht : b = true → WpC P n Q x env w) (hf : b = false → WpC P n Q y env w) : WpC P n Q (.cond c x y) env w := by
  refine ⟨fun Q' a hfit hQ => ?_⟩
  exact wp_cond_split (hfit.eval hc) (fun h => (ht h).go Q' a hfit hQ) (fun h => (hf h).go Q' a hfit hQ)
theorem c_condT {c : Operand} {x y : Code} (hc : ev env c = some (.bool true)) (h : WpC P n Q x env w) : WpC P n Q (.cond c x y) env w :=
  c_cond true hc (fun _ => h) (fun h => nomatch h)
theorem c_condF {c : Operand} {x y : Code} (hc : ev env c = some (.bool false)) (h : WpC P n Q y env w) : WpC P n Q (.cond c x y) env w :=
  c_cond false hc (fun h => nomatch h) (fun _ => h)
/-- A test that is a decision. -/
theorem c_if {c : Operand} {x y : Code} (p : Prop) [Decidable p] (hc : ev env c = some (.bool (decide p))) (ht : p → WpC P n Q x env w) (hf : ¬ p → WpC P n Q y env w) : WpC P n Q (.cond c x y) env w :=
  c_cond (decide p) hc (fun h => ht (of_decide_eq_true h)) (fun h => hf (of_decide_eq_false h))
/-- A loop: a relation that bears a number, which each round lowers. -/
theorem c_loop {c : Code} (I : Nat → Env → World → Prop) (m : Nat) (h0 : I m env w)
    (round : ∀ m env w, I m env w → WpC P n (Then (fun env' w' => ∃ m', m' < m ∧ I m' env' w') Q) c env w) : WpC P n Q (.loop c) env w := by
  refine ⟨fun Q' a hf hQ => ?_⟩
  refine wp_loop_ghost (fun k a w => ∃ env, Fits n env a ∧ I k env w) m ⟨env, hf, h0⟩ ?_
  rintro k a w ⟨env, hf, hI⟩
  refine (round k env w hI).go _ a hf ?_
  intro e env' a' w' hf' h'
  cases e with
  | normal => obtain ⟨m', hlt, hI'⟩ := h'; exact ⟨m', hlt, env', hf', hI'⟩
  | exit id => exact hQ _ _ _ _ hf' h'
  | goto l => exact hQ _ _ _ _ hf' h'
  | ret => exact hQ _ _ _ _ hf' h'
  | panic c => exact hQ _ _ _ _ hf' h'
  | outgrown => exact hQ _ _ _ _ hf' h'
/-- The same; the environment is told as a list that says less. -/
theorem c_loop' {c : Code} (I : Nat → Env → World → Prop) (m : Nat) (small : Env) (hs : Sub env small) (h0 : I m small w)
    (round : ∀ m env w, I m env w → WpC P n (Then (fun env' w' => ∃ m' small, m' < m ∧ Sub env' small ∧ I m' small w') Q) c env w) : WpC P n Q (.loop c) env w := by
  refine WpC.weak small hs (c_loop I m h0 fun m env w hI => ?_)
  refine ⟨fun Q' a hf hQ => ?_⟩
  refine (round m env w hI).go Q' a hf fun e env' a' w' hf' h' => ?_
  cases e with
  | normal => obtain ⟨m', small, hlt, hs, hI'⟩ := h'; exact hQ _ small a' w' (hf'.sub hs) ⟨m', hlt, hI'⟩
  | exit id => exact hQ _ _ _ _ hf' h'
  | goto l => exact hQ _ _ _ _ hf' h'
  | ret => exact hQ _ _ _ _ hf' h'
  | panic c => exact hQ _ _ _ _ hf' h'
  | outgrown => exact hQ _ _ _ _ hf' h'
theorem c_region {id : Nat} {l : List Oper} (h : WpL P l.toArray n (Q .normal) l env w) : WpC P n Q (.region id l.toArray false) env w :=
  ⟨fun Q' a hf hQ => wp_region_lit (h.go Q' a hf fun env' a' w' hf' h' => hQ _ _ _ _ hf' h')⟩

/-! ### functions -/
def argsEnv : Nat → List Value → Env
  | _, [] => []
  | i, v :: r => (i, v) :: argsEnv (i + 1) r
theorem lk_argsEnv (vs : List Value) : ∀ (k i : Nat) (v : Value), lk (argsEnv k vs) i = some v → k ≤ i ∧ vs[i - k]? = some v := by
  induction vs with
  | nil => intro k i v h; simp [argsEnv, lk] at h
  | cons u r ih =>
    intro k i v h
    simp only [argsEnv] at h
    rw [lk_cons] at h
    by_cases e : k = i
    · subst e; rw [if_pos rfl] at h; cases h; simp
    · rw [if_neg e] at h
      obtain ⟨h1, h2⟩ := ih (k + 1) i v h
      refine ⟨by omega, ?_⟩
      rw [show i - k = (i - (k + 1)) + 1 from by omega, List.getElem?_cons_succ]
      exact h2
theorem fits_args {n : Nat} (vs : List Value) (h : vs.length ≤ n) : Fits n (argsEnv 0 vs) { tmps := vs.toArray ++ Array.replicate (n - vs.toArray.size) undef, defers := [] } := by
  refine ⟨by simp; omega, rfl, fun i v hv => ?_⟩
  obtain ⟨_, hv⟩ := lk_argsEnv vs 0 i v hv
  simp only [Nat.sub_zero] at hv
  have hi : i < vs.length := by
    rcases Nat.lt_or_ge i vs.length with h | h
    · exact h
    · rw [List.getElem?_eq_none h] at hv; cases hv
  rw [Array.getElem?_append_left (by simpa using hi)]
  simpa using hv
/-- One result, in a slot. -/
theorem calls_one {f : FuncId} {fn : Func} {c : Code} {vs : List Value} {r : Tmp} {R : Ending → World → Prop} (hf : P.funcs[f]? = some fn) (hb : fn.body = some c) (hr : fn.results = #[.tmp r]) (hn : Nat.ble vs.length fn.ntmps = true)
    (h : WpC P fn.ntmps (fun e env w => (e = .normal ∨ e = .ret) ∧ ∃ v, lk env r = some v ∧ R (.returned v) w) c (argsEnv 0 vs) w) : Calls P f vs.toArray w R := by
  refine calls_of_wp hf hb (h.go _ _ (fits_args vs (Nat.le_of_ble_eq_true hn)) ?_)
  rintro e env' a' w' hf' ⟨he, v, hv, hR⟩
  have hres : (results fn a'.tmps).run P w' = .ok v w' := by
    rw [results_tmp hr]
    simp [Array.getD_eq_getD_getElem?, hf'.at_ r v hv]
  rcases he with rfl | rfl
  · exact ⟨hf'.defers, v, hres, hR⟩
  · exact ⟨hf'.defers, v, hres, hR⟩
/-- Two results, in slots. -/
theorem calls_two {f : FuncId} {fn : Func} {c : Code} {vs : List Value} {r s : Tmp} {R : Ending → World → Prop} (hf : P.funcs[f]? = some fn) (hb : fn.body = some c) (hr : fn.results = #[.tmp r, .tmp s]) (hn : Nat.ble vs.length fn.ntmps = true)
    (h : WpC P fn.ntmps (fun e env w => (e = .normal ∨ e = .ret) ∧ ∃ v u, lk env r = some v ∧ lk env s = some u ∧ R (.returned (.tuple #[v, u])) w) c (argsEnv 0 vs) w) : Calls P f vs.toArray w R := by
  refine calls_of_wp hf hb (h.go _ _ (fits_args vs (Nat.le_of_ble_eq_true hn)) ?_)
  rintro e env' a' w' hf' ⟨he, v, u, hv, hu, hR⟩
  have hres : (results fn a'.tmps).run P w' = .ok (.tuple #[v, u]) w' := by
    rw [results_tmp2 hr]
    simp [Array.getD_eq_getD_getElem?, hf'.at_ r v hv, hf'.at_ s u hu]
  rcases he with rfl | rfl
  · exact ⟨hf'.defers, _, hres, hR⟩
  · exact ⟨hf'.defers, _, hres, hR⟩
/-- No result. -/
theorem calls_zero {f : FuncId} {fn : Func} {c : Code} {vs : List Value} {R : Ending → World → Prop} (hf : P.funcs[f]? = some fn) (hb : fn.body = some c) (hr : fn.results = #[]) (hn : Nat.ble vs.length fn.ntmps = true)
    (h : WpC P fn.ntmps (fun e env w => (e = .normal ∨ e = .ret) ∧ R (.returned (.tuple #[])) w) c (argsEnv 0 vs) w) : Calls P f vs.toArray w R := by
  refine calls_of_wp hf hb (h.go _ _ (fits_args vs (Nat.le_of_ble_eq_true hn)) ?_)
  rintro e env' a' w' hf' ⟨he, hR⟩
  rcases he with rfl | rfl
  · exact ⟨hf'.defers, _, results_none hr _ _ _, hR⟩
  · exact ⟨hf'.defers, _, results_none hr _ _ _, hR⟩
end Go.Proofs.Fw
namespace Go.Proofs.Fw

/-! ### parts of a heap -/
abbrev PH := Nat → Option Obj
namespace PH
def empty : PH := fun _ => none
def one (b : Nat) (o : Obj) : PH := fun c => if c = b then some o else none
def sub (h g : PH) : Prop := ∀ b o, h b = some o → g b = some o
def disj (h g : PH) : Prop := ∀ b, h b = none ∨ g b = none
def un (h g : PH) : PH := fun b => match h b with | some o => some o | none => g b
def le (h : PH) (w : World) : Prop := ∀ b o, h b = some o → w.heap[b]? = some o
theorem sub_refl (h : PH) : sub h h := fun _ _ e => e
theorem sub_trans {a b c : PH} (h : sub a b) (k : sub b c) : sub a c := fun x o e => k x o (h x o e)
theorem empty_sub (h : PH) : sub empty h := fun _ _ e => nomatch e
theorem disj_symm {h g : PH} (d : disj h g) : disj g h := fun b => (d b).symm
theorem disj_sub {h g k : PH} (d : disj h g) (s : sub k g) : disj h k := fun b => by
  rcases d b with e | e
  · exact .inl e
  · refine .inr ?_
    cases hk : k b with
    | none => rfl
    | some o => rw [s b o hk] at e; cases e
theorem disj_sub2 {h g h' g' : PH} (d : disj h g) (s : sub h' h) (t : sub g' g) : disj h' g' := disj_symm (disj_sub (disj_symm (disj_sub d t)) s)
theorem disj_empty (h : PH) : disj h empty := fun _ => .inr rfl
theorem empty_disj (h : PH) : disj empty h := fun _ => .inl rfl
theorem un_left (h g : PH) : sub h (un h g) := fun b o e => by simp [un, e]
theorem un_right {h g : PH} (d : disj h g) : sub g (un h g) := fun b o e => by
  rcases d b with k | k
  · simp [un, k, e]
  · rw [k] at e; cases e
theorem un_sub {h g k : PH} (a : sub h k) (b : sub g k) : sub (un h g) k := fun x o e => by
  unfold un at e
  cases hx : h x with
  | none => simp only [hx] at e; exact b x o e
  | some u => simp only [hx] at e; cases e; exact a x _ hx
theorem un_disj {h g k : PH} (a : disj h k) (b : disj g k) : disj (un h g) k := fun x => by
  rcases a x with e | e
  · rcases b x with f | f
    · exact .inl (by simp [un, e, f])
    · exact .inr f
  · exact .inr e
theorem disj_un {h g k : PH} (a : disj k h) (b : disj k g) : disj k (un h g) := disj_symm (un_disj (disj_symm a) (disj_symm b))
theorem one_at (b : Nat) (o : Obj) : one b o b = some o := by simp [one]
theorem one_sub {b : Nat} {o : Obj} {h : PH} (e : h b = some o) : sub (one b o) h := fun c u hc => by
  unfold one at hc
  split at hc
  · rename_i e'; subst e'; cases hc; exact e
  · cases hc
theorem one_disj {b : Nat} {o : Obj} {h : PH} (e : h b = none) : disj (one b o) h := fun c => by
  by_cases hc : c = b
  · subst hc; exact .inr e
  · exact .inl (by simp [one, hc])
theorem le_sub {h g : PH} {w : World} (l : le g w) (s : sub h g) : le h w := fun b o e => l b o (s b o e)
end PH

/-! ### resources -/
structure Res where
  p : PH → PH → Prop
  mono : ∀ {I I' h}, PH.sub I I' → p I h → p I' h
  /-- it may stand in more memory than it needs -/
  up : ∀ {I h h'}, PH.sub h h' → p I h → p I h'
def Sep (I : PH) : List Res → PH → Prop
  | [], _ => True
  | R :: L, h => ∃ h1 h2, PH.disj h1 h2 ∧ PH.sub h1 h ∧ PH.sub h2 h ∧ R.p I h1 ∧ Sep I L h2
theorem Sep.up {I : PH} {L : List Res} {h h' : PH} (s : Sep I L h) (e : PH.sub h h') : Sep I L h' := by
  cases L with
  | nil => trivial
  | cons R L => obtain ⟨h1, h2, d, s1, s2, r, l⟩ := s; exact ⟨h1, h2, d, PH.sub_trans s1 e, PH.sub_trans s2 e, r, l⟩
theorem Sep.mono {I I' : PH} (e : PH.sub I I') : ∀ {L : List Res} {h : PH}, Sep I L h → Sep I' L h
  | [], _, _ => trivial
  | R :: L, _, ⟨h1, h2, d, s1, s2, r, l⟩ => ⟨h1, h2, d, s1, s2, R.mono e r, l.mono e⟩
theorem Sep.swap {I : PH} {A B : Res} {L : List Res} {h : PH} (s : Sep I (A :: B :: L) h) : Sep I (B :: A :: L) h := by
  obtain ⟨h1, h2, d, s1, s2, ra, hb, hl, d2, s3, s4, rb, l⟩ := s
  exact ⟨hb, PH.un h1 hl, PH.disj_un (PH.disj_symm (PH.disj_sub d s3)) d2, PH.sub_trans s3 s2, PH.un_sub s1 (PH.sub_trans s4 s2), rb, h1, hl,
    PH.disj_sub d s4, PH.un_left _ _, PH.un_right (PH.disj_sub d s4), ra, l⟩
theorem Sep.perm {I : PH} {L L' : List Res} (p : L.Perm L') : ∀ {h : PH}, Sep I L h → Sep I L' h := by
  induction p with
  | nil => exact fun s => s
  | cons x _ ih => rintro h ⟨h1, h2, d, s1, s2, r, l⟩; exact ⟨h1, h2, d, s1, s2, r, ih l⟩
  | swap x y l => exact fun s => s.swap
  | trans _ _ ih1 ih2 => exact fun s => ih2 (ih1 s)

structure St (w0 : World) (L : List Res) (w : World) : Prop where
  b1 : w.os = w0.os
  b2 : w.tape = w0.tape
  b3 : w.output = w0.output
  mem : ∃ I h, PH.disj I h ∧ PH.le I w ∧ PH.le h w ∧ Sep I L h
variable {w0 w w' : World} {L L' : List Res} {R : Res}
theorem St.perm (h : St w0 L w) (p : L.Perm L') : St w0 L' w := by
  obtain ⟨I, g, d, a, b, s⟩ := h.mem
  exact ⟨h.b1, h.b2, h.b3, I, g, d, a, b, s.perm p⟩
theorem St.drop (h : St w0 (R :: L) w) : St w0 L w := by
  obtain ⟨I, g, d, a, b, h1, h2, _, _, s2, _, l⟩ := h.mem
  exact ⟨h.b1, h.b2, h.b3, I, g, d, a, b, l.up s2⟩
/-- What stands at place i, brought ahead. -/
theorem perm_pick : ∀ (L : List Res) (i : Nat) (h : i < L.length), L.Perm (L[i] :: L.eraseIdx i)
  | [], i, h => by simp at h
  | x :: L, 0, h => by simp
  | x :: L, i + 1, h => by
    have := perm_pick L i (by simpa using h)
    simp only [List.getElem_cons_succ, List.eraseIdx_cons_succ]
    exact (this.cons x).trans (List.Perm.swap _ _ _)
theorem St.pick (h : St w0 L w) (i : Nat) {R : Res} {L' : List Res} (hR : L[i]? = some R) (hL : L.eraseIdx i = L') : St w0 (R :: L') w := by
  obtain ⟨hi, hR⟩ := List.getElem?_eq_some_iff.1 hR
  subst hL hR
  exact h.perm (perm_pick L i hi)
/-- The resources at some places brought ahead; the rest behind. -/
def nth : List Res → Nat → Option Res
  | [], _ => none
  | x :: _, 0 => some x
  | _ :: r, i + 1 => nth r i
def del : List Res → Nat → List Res
  | [], _ => []
  | _ :: r, 0 => r
  | x :: r, i + 1 => x :: del r i
def lower (i : Nat) : List Nat → List Nat
  | [] => []
  | j :: r => (bif Nat.ble (i + 1) j then j - 1 else j) :: lower i r
def reL : Nat → List Nat → List Res → List Res
  | n + 1, i :: is, L => match nth L i with
    | some x => x :: reL n (lower i is) (del L i)
    | none => L
  | _, _, L => L
theorem perm_nth : ∀ (L : List Res) (i : Nat) (x : Res), nth L i = some x → L.Perm (x :: del L i)
  | [], _, _, h => by simp [nth] at h
  | y :: r, 0, x, h => by simp [nth] at h; subst h; exact List.Perm.refl _
  | y :: r, i + 1, x, h => ((perm_nth r i x h).cons y).trans (List.Perm.swap _ _ _)
theorem perm_re : ∀ (n : Nat) (is : List Nat) (L : List Res), L.Perm (reL n is L)
  | 0, [], L => List.Perm.refl _
  | 0, _ :: _, L => List.Perm.refl _
  | n + 1, [], L => List.Perm.refl _
  | n + 1, i :: is, L => by
    unfold reL
    cases h : nth L i with
    | none => exact List.Perm.refl _
    | some x => exact (perm_nth L i x h).trans ((perm_re n (lower i is) (del L i)).cons x)
theorem St.re (h : St w0 L w) (is : List Nat) : St w0 (reL is.length is L) w := h.perm (perm_re _ _ _)
theorem St.mapHead {R R' : Res} (h : St w0 (R :: L) w) (f : ∀ I g, R.p I g → R'.p I g) : St w0 (R' :: L) w := by
  obtain ⟨I, g, d, a, b, h1, h2, d2, s1, s2, r, l⟩ := h.mem
  exact ⟨h.b1, h.b2, h.b3, I, g, d, a, b, h1, h2, d2, s1, s2, f _ _ r, l⟩
theorem St.same (h : St w0 L w) (hh : w'.heap = w.heap) (e1 : w'.os = w.os) (e2 : w'.tape = w.tape) (e3 : w'.output = w.output) : St w0 L w' := by
  obtain ⟨I, g, d, a, b, s⟩ := h.mem
  exact ⟨e1.trans h.b1, e2.trans h.b2, e3.trans h.b3, I, g, d, fun x o e => by rw [hh]; exact a x o e, fun x o e => by rw [hh]; exact b x o e, s⟩
theorem St.drew (h : St w0 L w) : St w0 L w.drew := h.same rfl rfl rfl rfl
theorem St.drewN (h : St w0 L w) (m : Nat) : St w0 L (w.drewN m) := h.same rfl rfl rfl rfl

/-- Some resources as one. -/
def star (L1 : List Res) : Res := ⟨fun I h => Sep I L1 h, fun s r => r.mono s, fun s r => r.up s⟩
def ex {α : Type} (f : α → Res) : Res := ⟨fun I h => ∃ x, (f x).p I h, fun s ⟨x, r⟩ => ⟨x, (f x).mono s r⟩, fun s ⟨x, r⟩ => ⟨x, (f x).up s r⟩⟩
theorem Sep.append {I : PH} : ∀ {L1 L2 : List Res} {h1 h2 h : PH}, PH.disj h1 h2 → PH.sub h1 h → PH.sub h2 h → Sep I L1 h1 → Sep I L2 h2 → Sep I (L1 ++ L2) h
  | [], L2, h1, h2, h, d, s1, s2, _, b => b.up s2
  | R :: L1, L2, h1, h2, h, d, s1, s2, ⟨a1, a2, da, t1, t2, r, a⟩, b => by
    have d22 : PH.disj a2 h2 := PH.disj_symm (PH.disj_sub (PH.disj_symm d) t2)
    have d12 : PH.disj a1 h2 := PH.disj_symm (PH.disj_sub (PH.disj_symm d) t1)
    exact ⟨a1, PH.un a2 h2, PH.disj_un da d12, PH.sub_trans t1 s1, PH.un_sub (PH.sub_trans t2 s1) s2, r, Sep.append d22 (PH.un_left _ _) (PH.un_right d22) a b⟩
theorem Sep.split {I : PH} : ∀ {L1 L2 : List Res} {h : PH}, Sep I (L1 ++ L2) h → ∃ h1 h2, PH.disj h1 h2 ∧ PH.sub h1 h ∧ PH.sub h2 h ∧ Sep I L1 h1 ∧ Sep I L2 h2
  | [], L2, h, b => ⟨PH.empty, h, PH.empty_disj _, PH.empty_sub _, PH.sub_refl _, trivial, b⟩
  | R :: L1, L2, h, ⟨a1, a2, da, t1, t2, r, a⟩ => by
    obtain ⟨g1, g2, d, s1, s2, e1, e2⟩ := Sep.split a
    exact ⟨PH.un a1 g1, g2, PH.un_disj (PH.disj_sub da s2) d, PH.un_sub t1 (PH.sub_trans s1 t2), PH.sub_trans s2 t2, ⟨a1, g1, PH.disj_sub da s1, PH.un_left _ _, PH.un_right (PH.disj_sub da s1), r, e1⟩, e2⟩
theorem St.open {L1 : List Res} (h : St w0 (star L1 :: L) w) : St w0 (L1 ++ L) w := by
  obtain ⟨I, g, d, a, b, h1, h2, d2, s1, s2, r, l⟩ := h.mem
  exact ⟨h.b1, h.b2, h.b3, I, g, d, a, b, Sep.append d2 s1 s2 r l⟩
theorem St.shut (L1 : List Res) (h : St w0 (L1 ++ L) w) : St w0 (star L1 :: L) w := by
  obtain ⟨I, g, d, a, b, s⟩ := h.mem
  obtain ⟨h1, h2, d2, s1, s2, e1, e2⟩ := Sep.split s
  exact ⟨h.b1, h.b2, h.b3, I, g, d, a, b, h1, h2, d2, s1, s2, e1, e2⟩
theorem St.unex {α : Type} {f : α → Res} (h : St w0 (ex f :: L) w) : ∃ x, St w0 (f x :: L) w := by
  obtain ⟨I, g, d, a, b, h1, h2, d2, s1, s2, ⟨x, r⟩, l⟩ := h.mem
  exact ⟨x, h.b1, h.b2, h.b3, I, g, d, a, b, h1, h2, d2, s1, s2, r, l⟩
theorem St.mkex {α : Type} {f : α → Res} (x : α) (h : St w0 (f x :: L) w) : St w0 (ex f :: L) w := h.mapHead fun I g r => ⟨x, r⟩
/-- A fact, kept as a resource. -/
def fact (p : Prop) : Res := ⟨fun _ _ => p, fun _ h => h, fun _ h => h⟩
theorem St.fact {p : Prop} (h : St w0 (fact p :: L) w) : p := by
  obtain ⟨I, g, d, a, b, h1, h2, d2, s1, s2, r, l⟩ := h.mem
  exact r
theorem St.addFact {p : Prop} (h : St w0 L w) (hp : p) : St w0 (Fw.fact p :: L) w := by
  obtain ⟨I, g, d, a, b, s⟩ := h.mem
  exact ⟨h.b1, h.b2, h.b3, I, g, d, a, b, PH.empty, g, PH.empty_disj _, PH.empty_sub _, PH.sub_refl _, hp, s⟩
/-- A block that is owned. -/
def blk (b : Nat) (o : Obj) : Res := ⟨fun _ h => h b = some o, fun _ h => h, fun s h => s _ _ h⟩
/-- A block that nobody changes any more. -/
def frz (b : Nat) (o : Obj) : Res := ⟨fun I _ => I b = some o, fun s h => s _ _ h, fun _ h => h⟩
theorem St.blk_at {b : Nat} {o : Obj} (h : St w0 (blk b o :: L) w) : w.heap[b]? = some o := by
  obtain ⟨I, g, d, a, c, h1, h2, d2, s1, s2, r, l⟩ := h.mem
  exact c b o (s1 b o r)
theorem St.frz_at {b : Nat} {o : Obj} (h : St w0 (frz b o :: L) w) : w.heap[b]? = some o := by
  obtain ⟨I, g, d, a, c, h1, h2, d2, s1, s2, r, l⟩ := h.mem
  exact a b o r
/-- A new block. -/
theorem St.alloc (h : St w0 L w) (o : Obj) : St w0 (blk w.heap.size o :: L) (w.alloc o) := by
  obtain ⟨I, g, d, a, c, s⟩ := h.mem
  have hI : I w.heap.size = none := by
    cases e : I w.heap.size with
    | none => rfl
    | some u => have := a _ _ e; simp at this
  have hg : g w.heap.size = none := by
    cases e : g w.heap.size with
    | none => rfl
    | some u => have := c _ _ e; simp at this
  have old : ∀ {k : PH}, PH.le k w → PH.le k (w.alloc o) := fun hk b u e => by
    have hb := hk b u e
    have hlt := (Array.getElem?_eq_some_iff.1 hb).1
    have : (w.alloc o).heap[b]? = w.heap[b]? := by
      show (w.heap.push o)[b]? = _
      rw [Array.getElem?_push, if_neg (Nat.ne_of_lt hlt)]
    rw [this]; exact hb
  refine ⟨h.b1, h.b2, h.b3, I, PH.un (PH.one w.heap.size o) g, ?_, old a, ?_, PH.one w.heap.size o, g, PH.one_disj hg, PH.un_left _ _, PH.un_right (PH.one_disj hg), PH.one_at _ _, s⟩
  · exact PH.disj_un (PH.disj_symm (PH.one_disj hI)) d
  · intro b u e
    unfold PH.un PH.one at e
    split at e
    · rename_i v hv
      split at hv
      · rename_i hb; subst hb; cases hv; cases e; exact heap_alloc_new w o
      · cases hv
    · exact old c b u e
/-- A block that is owned is changed. -/
theorem St.change {b : Nat} {o o' : Obj} (h : St w0 (blk b o :: L) w) (hos : w'.os = w.os) (ht : w'.tape = w.tape) (ho : w'.output = w.output)
    (hb : w'.heap[b]? = some o') (hne : ∀ c, c ≠ b → ∀ u, w.heap[c]? = some u → w'.heap[c]? = some u) : St w0 (blk b o' :: L) w' := by
  obtain ⟨I, g, d, a, c, h1, h2, d2, s1, s2, r, l⟩ := h.mem
  have h2b : h2 b = none := by
    rcases d2 b with e | e
    · have r' : h1 b = some o := r
      rw [r'] at e; cases e
    · exact e
  have hIb : I b = none := by
    rcases d b with e | e
    · exact e
    · have r' : g b = some o := s1 b o r
      rw [r'] at e; cases e
  have keep : ∀ {k : PH}, k b = none → PH.le k w → PH.le k w' := fun {k} hk hl x u e => by
    have hx : x ≠ b := fun e' => by subst e'; rw [hk] at e; cases e
    exact hne x hx u (hl x u e)
  have dI2 : PH.disj I h2 := PH.disj_sub d s2
  refine ⟨hos.trans h.b1, ht.trans h.b2, ho.trans h.b3, I, PH.un (PH.one b o') h2, PH.disj_un (PH.disj_symm (PH.one_disj hIb)) dI2, keep hIb a, ?_,
    PH.one b o', h2, PH.one_disj h2b, PH.un_left _ _, PH.un_right (PH.one_disj h2b), PH.one_at _ _, l⟩
  intro x u e
  unfold PH.un PH.one at e
  split at e
  · rename_i v hv
    split at hv
    · rename_i hx; subst hx; cases hv; cases e; exact hb
    · cases hv
  · exact keep h2b (PH.le_sub c s2) x u e
/-- A block is owned no more: nobody will change it. -/
theorem St.freeze {b : Nat} {o : Obj} (h : St w0 (blk b o :: L) w) : St w0 (frz b o :: L) w := by
  obtain ⟨I, g, d, a, c, h1, h2, d2, s1, s2, r, l⟩ := h.mem
  have r' : h1 b = some o := r
  have gb : g b = some o := s1 b o r'
  have hIb : I b = none := by
    rcases d b with e | e
    · exact e
    · rw [gb] at e; cases e
  have h2b : h2 b = none := by
    rcases d2 b with e | e
    · rw [r'] at e; cases e
    · exact e
  have dIo : PH.disj I (PH.one b o) := PH.disj_symm (PH.one_disj hIb)
  have dI2 : PH.disj I h2 := PH.disj_sub d s2
  have sI : PH.sub I (PH.un I (PH.one b o)) := PH.un_left _ _
  refine ⟨h.b1, h.b2, h.b3, PH.un I (PH.one b o), h2, PH.un_disj dI2 (PH.one_disj h2b), ?_, PH.le_sub c s2, PH.empty, h2, PH.empty_disj _, PH.empty_sub _, PH.sub_refl _, ?_, l.mono sI⟩
  · intro x u e
    unfold PH.un at e
    split at e
    · rename_i v hv; cases e; exact a x _ hv
    · exact c x u (PH.one_sub gb x u e)
  · exact PH.un_right dIo b o (PH.one_at b o)
/-- All that there was: nobody changes it. -/
def old (w0 : World) : Res := ⟨fun I _ => ∀ b o, w0.heap[b]? = some o → I b = some o, fun s h b o e => s _ _ (h b o e), fun _ h => h⟩
theorem St.start (w : World) : St w [old w] w :=
  ⟨rfl, rfl, rfl, fun b => w.heap[b]?, PH.empty, PH.disj_empty _, fun _ _ e => e, fun _ _ e => (nomatch e), PH.empty, PH.empty, PH.disj_empty _, PH.empty_sub _, PH.empty_sub _, fun _ _ e => e, trivial⟩
theorem St.old_at {w1 : World} (h : St w0 (old w1 :: L) w) {b : Nat} {o : Obj} (e : w1.heap[b]? = some o) : w.heap[b]? = some o := by
  obtain ⟨I, g, d, a, c, h1, h2, d2, s1, s2, r, l⟩ := h.mem
  exact a b o (r b o e)
end Go.Proofs.Fw
namespace Go.Proofs.Fw
variable {P : Program} {n : Nat} {env : Env} {a : Act} {w w' : World} {ops : Array Oper} {K : Env → World → Prop} {rest : List Oper} {d : Nat} {ty : TypeId} {pos : String} {after : Array Edge}

theorem l_nil (h : K env w) : WpL P ops n K [] env w := ⟨fun Q a hf hQ => wpList_nil (hQ _ _ _ hf h)⟩
/-- An operation that yields a value. -/
theorem l_val {op : Op} (v : Value) (hd : Nat.ble (d + 1) n = true) (hrun : ∀ a, Fits n env a → (execOp a.eval ⟨some d, op, ty, pos, after, none⟩).run P w = .ok (.value v) w')
    (h : WpL P ops n K rest ((d, v) :: env) w') : WpL P ops n K (⟨some d, op, ty, pos, after, none⟩ :: rest) env w := by
  refine ⟨fun Q a hf hQ => ?_⟩
  refine wpList_plain rfl fun KK hK => ?_
  unfold Oper.wp
  rw [hrun a hf]
  exact hK _ _ (h.go Q _ (hf.put hd v) hQ)
/-- In whatever world the operation yields v, and leaves the world as it is. -/
def Ev (P : Program) (n : Nat) (env : Env) (o : Oper) (v : Value) : Prop := ∀ (a : Act) (w : World), Fits n env a → (execOp a.eval o).run P w = .ok (.value v) w
/-- An operation that yields nothing. -/
theorem l_unit {op : Op} (hrun : ∀ a, Fits n env a → (execOp a.eval ⟨none, op, ty, pos, after, none⟩).run P w = .ok .skip w')
    (h : WpL P ops n K rest env w') : WpL P ops n K (⟨none, op, ty, pos, after, none⟩ :: rest) env w := by
  refine ⟨fun Q a hf hQ => ?_⟩
  refine wpList_plain rfl fun KK hK => ?_
  unfold Oper.wp
  rw [hrun a hf]
  exact hK _ _ (h.go Q _ (hf.put_none undef) hQ)
/-- A slot's value spelled otherwise. -/
theorem l_set {l : List Oper} (i : Nat) (v' : Value) {v : Value} (hi : lk env i = some v) (hv : v = v') (h : WpL P ops n K l ((i, v') :: env) w) : WpL P ops n K l env w := by
  subst hv
  exact ⟨fun Q a hf hQ => h.go Q a (hf.dup hi) hQ⟩
theorem c_set {c : Code} {Q : Exit → Env → World → Prop} (i : Nat) (v' : Value) {v : Value} (hi : lk env i = some v) (hv : v = v') (h : WpC P n Q c ((i, v') :: env) w) : WpC P n Q c env w := by
  subst hv
  exact ⟨fun Q a hf hQ => h.go Q a (hf.dup hi) hQ⟩
/-- A guard that says yes. -/
theorem l_yes {op : Op} {j dj : Nat} {want : Bool} {dst : Option Nat} (hj : (ops[j]?).bind (·.dst) = some dj) (hb : lk env dj = some (.bool want))
    (h : WpL P ops n K (⟨dst, op, ty, pos, after, none⟩ :: rest) env w) : WpL P ops n K (⟨dst, op, ty, pos, after, some (j, want)⟩ :: rest) env w := by
  refine ⟨fun Q a hf hQ => ?_⟩
  have h1 := h.go Q a hf hQ
  have hw : Region.wanted ⟨dst, op, ty, pos, after, some (j, want)⟩ (yielded ops a.tmps) = true := by
    simp [Region.wanted, yielded, hj, hf.at_ dj _ hb]
  unfold wpList at h1 ⊢
  rw [if_pos hw]
  rw [if_pos (by rfl)] at h1
  exact h1
/-- A guard that says no. -/
theorem l_no {op : Op} {j dj : Nat} {want b : Bool} (hd : Nat.ble (d + 1) n = true) (hj : (ops[j]?).bind (·.dst) = some dj) (hb : lk env dj = some (.bool b)) (hne : (b == want) = false)
    (h : WpL P ops n K rest ((d, undef) :: env) w) : WpL P ops n K (⟨some d, op, ty, pos, after, some (j, want)⟩ :: rest) env w := by
  refine ⟨fun Q a hf hQ => ?_⟩
  have hne' : b ≠ want := by simpa using hne
  have hw : Region.wanted ⟨some d, op, ty, pos, after, some (j, want)⟩ (yielded ops a.tmps) = false := by
    simp [Region.wanted, yielded, hj, hf.at_ dj _ hb, hne']
  exact wpList_skip hw (h.go Q _ (hf.put hd undef) hQ)
/-- A guard whose own operation was passed over. -/
theorem l_no' {op : Op} {j dj : Nat} {want : Bool} (hd : Nat.ble (d + 1) n = true) (hj : (ops[j]?).bind (·.dst) = some dj) (hb : lk env dj = some undef)
    (h : WpL P ops n K rest ((d, undef) :: env) w) : WpL P ops n K (⟨some d, op, ty, pos, after, some (j, want)⟩ :: rest) env w := by
  refine ⟨fun Q a hf hQ => ?_⟩
  have hw : Region.wanted ⟨some d, op, ty, pos, after, some (j, want)⟩ (yielded ops a.tmps) = false := by
    simp [Region.wanted, yielded, hj, hf.at_ dj _ hb, undef]
  exact wpList_skip hw (h.go Q _ (hf.put hd undef) hQ)

theorem int_beq (i j : Int) : (i == j) = decide (i = j) := by rw [Bool.eq_iff_iff]; simp
theorem run_bin {x y : Operand} {xt yt : TypeId} {k : IntKind} {i j : Int} {op : BinOp} {ρ : Operand → Value} (hx : ρ x = .int k i) (hy : ρ y = .int k j) {v : Value} (hv : (binOp op xt (.int k i) (.int k j)).run P w = .ok v w) :
    (execOp ρ ⟨some d, .binOp op xt x y yt, ty, pos, after, none⟩).run P w = .ok (.value v) w := by
  simp only [execOp, hx, hy]
  have hg : (eqGuard op xt x y (.int k i) (.int k j)).run P w = .ok () w := by cases op <;> simp [eqGuard, Sem.run_pure]
  simp [Sem.run_bind, hg, hv, Result.andThen_ok, Sem.run_pure]
theorem run_bins {x y : Operand} {xt yt : TypeId} {i j : ByteArray} {op : BinOp} {ρ : Operand → Value} (hx : ρ x = .string i) (hy : ρ y = .string j) {v : Value} (hv : (binOp op xt (.string i) (.string j)).run P w = .ok v w) :
    (execOp ρ ⟨some d, .binOp op xt x y yt, ty, pos, after, none⟩).run P w = .ok (.value v) w := by
  simp only [execOp, hx, hy]
  have hg : (eqGuard op xt x y (.string i) (.string j)).run P w = .ok () w := by cases op <;> simp [eqGuard, Sem.run_pure]
  simp [Sem.run_bind, hg, hv, Result.andThen_ok, Sem.run_pure]
/-- The size of a type, as the program has it. -/
def SzIs (P : Program) (t : TypeId) (s : Nat) : Prop := ∃ i, P.info? t = some i ∧ i.size = s
theorem SzIs.run {t : TypeId} {s : Nat} (h : SzIs P t s) : (sizeOf t).run P w = .ok s w := by
  obtain ⟨i, hi, rfl⟩ := h
  simp [sizeOf, typeInfo, hi, Sem.run_bind, program, Sem.run, Sem.run_pure, Result.andThen_ok]
theorem e_move {x : Operand} {v : Value} (hx : ev env x = some v) :
    Ev P n env ⟨some d, .move x, ty, pos, after, none⟩ (v) :=
  fun a w hf => by simp [execOp, hf.eval hx, pure, Sem.run]
theorem l_move {x : Operand} {v : Value} (hd : Nat.ble (d + 1) n = true) (hx : ev env x = some v) (h : WpL P ops n K rest ((d, v) :: env) w) :
    WpL P ops n K (⟨some d, .move x, ty, pos, after, none⟩ :: rest) env w :=
  l_val _ hd (fun a hf => e_move hx a w hf) h
theorem e_assign {x : Operand} {v : Value} (hx : ev env x = some v) :
    Ev P n env ⟨some d, .assign x, ty, pos, after, none⟩ (v) :=
  fun a w hf => by simp [execOp, hf.eval hx, pure, Sem.run]
theorem l_assign {x : Operand} {v : Value} (hd : Nat.ble (d + 1) n = true) (hx : ev env x = some v) (h : WpL P ops n K rest ((d, v) :: env) w) :
    WpL P ops n K (⟨some d, .assign x, ty, pos, after, none⟩ :: rest) env w :=
  l_val _ hd (fun a hf => e_assign hx a w hf) h
theorem e_pick {c x y : Operand} {b : Bool} {u : Value} (hc : ev env c = some (.bool b)) (hx : (bif b then ev env x else ev env y) = some u) :
    Ev P n env ⟨some d, .pick c x y, ty, pos, after, none⟩ (u) :=
  fun a w hf => by
    cases b with
    | true => have hx' : ev env x = some u := hx; simp [execOp, hf.eval hc, hf.eval hx', asBool, pure, bind, Sem.bind, Sem.run]
    | false => have hx' : ev env y = some u := hx; simp [execOp, hf.eval hc, hf.eval hx', asBool, pure, bind, Sem.bind, Sem.run]
theorem l_pick {c x y : Operand} {b : Bool} {u : Value} (hd : Nat.ble (d + 1) n = true) (hc : ev env c = some (.bool b)) (hx : (bif b then ev env x else ev env y) = some u) (h : WpL P ops n K rest ((d, u) :: env) w) :
    WpL P ops n K (⟨some d, .pick c x y, ty, pos, after, none⟩ :: rest) env w :=
  l_val _ hd (fun a hf => e_pick hc hx a w hf) h
theorem e_add {x y : Operand} {xt yt : TypeId} {k : IntKind} {i j : Int} (hx : ev env x = some (.int k i)) (hy : ev env y = some (.int k j)) :
    Ev P n env ⟨some d, .binOp .add xt x y yt, ty, pos, after, none⟩ (.int k (k.wrap (i + j))) :=
  fun a w hf => run_bin (hf.eval hx) (hf.eval hy) (by simp [binOp, Op.intArith, pure, Sem.run])
theorem l_add {x y : Operand} {xt yt : TypeId} {k : IntKind} {i j : Int} (hd : Nat.ble (d + 1) n = true) (hx : ev env x = some (.int k i)) (hy : ev env y = some (.int k j)) (h : WpL P ops n K rest ((d, .int k (k.wrap (i + j))) :: env) w) :
    WpL P ops n K (⟨some d, .binOp .add xt x y yt, ty, pos, after, none⟩ :: rest) env w :=
  l_val _ hd (fun a hf => e_add hx hy a w hf) h
theorem e_sub {x y : Operand} {xt yt : TypeId} {k : IntKind} {i j : Int} (hx : ev env x = some (.int k i)) (hy : ev env y = some (.int k j)) :
    Ev P n env ⟨some d, .binOp .sub xt x y yt, ty, pos, after, none⟩ (.int k (k.wrap (i - j))) :=
  fun a w hf => run_bin (hf.eval hx) (hf.eval hy) (by simp [binOp, Op.intArith, pure, Sem.run])
theorem l_sub {x y : Operand} {xt yt : TypeId} {k : IntKind} {i j : Int} (hd : Nat.ble (d + 1) n = true) (hx : ev env x = some (.int k i)) (hy : ev env y = some (.int k j)) (h : WpL P ops n K rest ((d, .int k (k.wrap (i - j))) :: env) w) :
    WpL P ops n K (⟨some d, .binOp .sub xt x y yt, ty, pos, after, none⟩ :: rest) env w :=
  l_val _ hd (fun a hf => e_sub hx hy a w hf) h
theorem e_mul {x y : Operand} {xt yt : TypeId} {k : IntKind} {i j : Int} (hx : ev env x = some (.int k i)) (hy : ev env y = some (.int k j)) :
    Ev P n env ⟨some d, .binOp .mul xt x y yt, ty, pos, after, none⟩ (.int k (k.wrap (i * j))) :=
  fun a w hf => run_bin (hf.eval hx) (hf.eval hy) (by simp [binOp, Op.intArith, pure, Sem.run])
theorem l_mul {x y : Operand} {xt yt : TypeId} {k : IntKind} {i j : Int} (hd : Nat.ble (d + 1) n = true) (hx : ev env x = some (.int k i)) (hy : ev env y = some (.int k j)) (h : WpL P ops n K rest ((d, .int k (k.wrap (i * j))) :: env) w) :
    WpL P ops n K (⟨some d, .binOp .mul xt x y yt, ty, pos, after, none⟩ :: rest) env w :=
  l_val _ hd (fun a hf => e_mul hx hy a w hf) h
theorem e_quo {x y : Operand} {xt yt : TypeId} {k : IntKind} {i j : Int} (hx : ev env x = some (.int k i)) (hy : ev env y = some (.int k j)) (hj : j ≠ 0) :
    Ev P n env ⟨some d, .binOp .quo xt x y yt, ty, pos, after, none⟩ (.int k (k.wrap (i.tdiv j))) :=
  fun a w hf => run_bin (hf.eval hx) (hf.eval hy) (by simp [binOp, Op.intDiv, hj, pure, Sem.run])
theorem l_quo {x y : Operand} {xt yt : TypeId} {k : IntKind} {i j : Int} (hd : Nat.ble (d + 1) n = true) (hx : ev env x = some (.int k i)) (hy : ev env y = some (.int k j)) (hj : j ≠ 0) (h : WpL P ops n K rest ((d, .int k (k.wrap (i.tdiv j))) :: env) w) :
    WpL P ops n K (⟨some d, .binOp .quo xt x y yt, ty, pos, after, none⟩ :: rest) env w :=
  l_val _ hd (fun a hf => e_quo hx hy hj a w hf) h
theorem e_rem {x y : Operand} {xt yt : TypeId} {k : IntKind} {i j : Int} (hx : ev env x = some (.int k i)) (hy : ev env y = some (.int k j)) (hj : j ≠ 0) :
    Ev P n env ⟨some d, .binOp .rem xt x y yt, ty, pos, after, none⟩ (.int k (i.tmod j)) :=
  fun a w hf => run_bin (hf.eval hx) (hf.eval hy) (by simp [binOp, Op.intDiv, hj, pure, Sem.run])
theorem l_rem {x y : Operand} {xt yt : TypeId} {k : IntKind} {i j : Int} (hd : Nat.ble (d + 1) n = true) (hx : ev env x = some (.int k i)) (hy : ev env y = some (.int k j)) (hj : j ≠ 0) (h : WpL P ops n K rest ((d, .int k (i.tmod j)) :: env) w) :
    WpL P ops n K (⟨some d, .binOp .rem xt x y yt, ty, pos, after, none⟩ :: rest) env w :=
  l_val _ hd (fun a hf => e_rem hx hy hj a w hf) h
theorem e_lss {x y : Operand} {xt yt : TypeId} {k : IntKind} {i j : Int} (hx : ev env x = some (.int k i)) (hy : ev env y = some (.int k j)) :
    Ev P n env ⟨some d, .binOp .lss xt x y yt, ty, pos, after, none⟩ (.bool (decide (i < j))) :=
  fun a w hf => run_bin (hf.eval hx) (hf.eval hy) (by simp [binOp, Op.intCmp, pure, Sem.run])
theorem l_lss {x y : Operand} {xt yt : TypeId} {k : IntKind} {i j : Int} (hd : Nat.ble (d + 1) n = true) (hx : ev env x = some (.int k i)) (hy : ev env y = some (.int k j)) (h : WpL P ops n K rest ((d, .bool (decide (i < j))) :: env) w) :
    WpL P ops n K (⟨some d, .binOp .lss xt x y yt, ty, pos, after, none⟩ :: rest) env w :=
  l_val _ hd (fun a hf => e_lss hx hy a w hf) h
theorem e_leq {x y : Operand} {xt yt : TypeId} {k : IntKind} {i j : Int} (hx : ev env x = some (.int k i)) (hy : ev env y = some (.int k j)) :
    Ev P n env ⟨some d, .binOp .leq xt x y yt, ty, pos, after, none⟩ (.bool (decide (i ≤ j))) :=
  fun a w hf => run_bin (hf.eval hx) (hf.eval hy) (by simp [binOp, Op.intCmp, pure, Sem.run])
theorem l_leq {x y : Operand} {xt yt : TypeId} {k : IntKind} {i j : Int} (hd : Nat.ble (d + 1) n = true) (hx : ev env x = some (.int k i)) (hy : ev env y = some (.int k j)) (h : WpL P ops n K rest ((d, .bool (decide (i ≤ j))) :: env) w) :
    WpL P ops n K (⟨some d, .binOp .leq xt x y yt, ty, pos, after, none⟩ :: rest) env w :=
  l_val _ hd (fun a hf => e_leq hx hy a w hf) h
theorem e_gtr {x y : Operand} {xt yt : TypeId} {k : IntKind} {i j : Int} (hx : ev env x = some (.int k i)) (hy : ev env y = some (.int k j)) :
    Ev P n env ⟨some d, .binOp .gtr xt x y yt, ty, pos, after, none⟩ (.bool (decide (j < i))) :=
  fun a w hf => run_bin (hf.eval hx) (hf.eval hy) (by simp [binOp, Op.intCmp, pure, Sem.run])
theorem l_gtr {x y : Operand} {xt yt : TypeId} {k : IntKind} {i j : Int} (hd : Nat.ble (d + 1) n = true) (hx : ev env x = some (.int k i)) (hy : ev env y = some (.int k j)) (h : WpL P ops n K rest ((d, .bool (decide (j < i))) :: env) w) :
    WpL P ops n K (⟨some d, .binOp .gtr xt x y yt, ty, pos, after, none⟩ :: rest) env w :=
  l_val _ hd (fun a hf => e_gtr hx hy a w hf) h
theorem e_geq {x y : Operand} {xt yt : TypeId} {k : IntKind} {i j : Int} (hx : ev env x = some (.int k i)) (hy : ev env y = some (.int k j)) :
    Ev P n env ⟨some d, .binOp .geq xt x y yt, ty, pos, after, none⟩ (.bool (decide (j ≤ i))) :=
  fun a w hf => run_bin (hf.eval hx) (hf.eval hy) (by simp [binOp, Op.intCmp, pure, Sem.run])
theorem l_geq {x y : Operand} {xt yt : TypeId} {k : IntKind} {i j : Int} (hd : Nat.ble (d + 1) n = true) (hx : ev env x = some (.int k i)) (hy : ev env y = some (.int k j)) (h : WpL P ops n K rest ((d, .bool (decide (j ≤ i))) :: env) w) :
    WpL P ops n K (⟨some d, .binOp .geq xt x y yt, ty, pos, after, none⟩ :: rest) env w :=
  l_val _ hd (fun a hf => e_geq hx hy a w hf) h
theorem e_eql {x y : Operand} {xt yt : TypeId} {k : IntKind} {i j : Int} (hx : ev env x = some (.int k i)) (hy : ev env y = some (.int k j)) :
    Ev P n env ⟨some d, .binOp .eql xt x y yt, ty, pos, after, none⟩ (.bool (decide (i = j))) :=
  fun a w hf => run_bin (hf.eval hx) (hf.eval hy) (by simp [binOp, Op.intCmp, int_beq, pure, Sem.run])
theorem l_eql {x y : Operand} {xt yt : TypeId} {k : IntKind} {i j : Int} (hd : Nat.ble (d + 1) n = true) (hx : ev env x = some (.int k i)) (hy : ev env y = some (.int k j)) (h : WpL P ops n K rest ((d, .bool (decide (i = j))) :: env) w) :
    WpL P ops n K (⟨some d, .binOp .eql xt x y yt, ty, pos, after, none⟩ :: rest) env w :=
  l_val _ hd (fun a hf => e_eql hx hy a w hf) h
theorem e_neq {x y : Operand} {xt yt : TypeId} {k : IntKind} {i j : Int} (hx : ev env x = some (.int k i)) (hy : ev env y = some (.int k j)) :
    Ev P n env ⟨some d, .binOp .neq xt x y yt, ty, pos, after, none⟩ (.bool (decide (i ≠ j))) :=
  fun a w hf => run_bin (hf.eval hx) (hf.eval hy) (by simp [binOp, Op.intCmp, bne, int_beq, pure, Sem.run])
theorem l_neq {x y : Operand} {xt yt : TypeId} {k : IntKind} {i j : Int} (hd : Nat.ble (d + 1) n = true) (hx : ev env x = some (.int k i)) (hy : ev env y = some (.int k j)) (h : WpL P ops n K rest ((d, .bool (decide (i ≠ j))) :: env) w) :
    WpL P ops n K (⟨some d, .binOp .neq xt x y yt, ty, pos, after, none⟩ :: rest) env w :=
  l_val _ hd (fun a hf => e_neq hx hy a w hf) h
theorem e_sadd {x y : Operand} {xt yt : TypeId} {s t : ByteArray} (hx : ev env x = some (.string s)) (hy : ev env y = some (.string t)) (hl : s.size + t.size ≤ 9223372036854775807) :
    Ev P n env ⟨some d, .binOp .add xt x y yt, ty, pos, after, none⟩ (.string (s ++ t)) :=
  fun a w hf => run_bins (hf.eval hx) (hf.eval hy) (by simp [binOp, Op.stringOp, IntKind.max, IntKind.signed, IntKind.bits, pure, Sem.run]; omega)
theorem l_sadd {x y : Operand} {xt yt : TypeId} {s t : ByteArray} (hd : Nat.ble (d + 1) n = true) (hx : ev env x = some (.string s)) (hy : ev env y = some (.string t)) (hl : s.size + t.size ≤ 9223372036854775807) (h : WpL P ops n K rest ((d, .string (s ++ t)) :: env) w) :
    WpL P ops n K (⟨some d, .binOp .add xt x y yt, ty, pos, after, none⟩ :: rest) env w :=
  l_val _ hd (fun a hf => e_sadd hx hy hl a w hf) h
theorem e_seql {x y : Operand} {xt yt : TypeId} {s t : ByteArray} (hx : ev env x = some (.string s)) (hy : ev env y = some (.string t)) :
    Ev P n env ⟨some d, .binOp .eql xt x y yt, ty, pos, after, none⟩ (.bool (s.toList == t.toList)) :=
  fun a w hf => run_bins (hf.eval hx) (hf.eval hy) (by simp [binOp, Op.stringOp, pure, Sem.run])
theorem l_seql {x y : Operand} {xt yt : TypeId} {s t : ByteArray} (hd : Nat.ble (d + 1) n = true) (hx : ev env x = some (.string s)) (hy : ev env y = some (.string t)) (h : WpL P ops n K rest ((d, .bool (s.toList == t.toList)) :: env) w) :
    WpL P ops n K (⟨some d, .binOp .eql xt x y yt, ty, pos, after, none⟩ :: rest) env w :=
  l_val _ hd (fun a hf => e_seql hx hy a w hf) h
theorem e_sneq {x y : Operand} {xt yt : TypeId} {s t : ByteArray} (hx : ev env x = some (.string s)) (hy : ev env y = some (.string t)) :
    Ev P n env ⟨some d, .binOp .neq xt x y yt, ty, pos, after, none⟩ (.bool (!(s.toList == t.toList))) :=
  fun a w hf => run_bins (hf.eval hx) (hf.eval hy) (by simp [binOp, Op.stringOp, pure, Sem.run])
theorem l_sneq {x y : Operand} {xt yt : TypeId} {s t : ByteArray} (hd : Nat.ble (d + 1) n = true) (hx : ev env x = some (.string s)) (hy : ev env y = some (.string t)) (h : WpL P ops n K rest ((d, .bool (!(s.toList == t.toList))) :: env) w) :
    WpL P ops n K (⟨some d, .binOp .neq xt x y yt, ty, pos, after, none⟩ :: rest) env w :=
  l_val _ hd (fun a hf => e_sneq hx hy a w hf) h
theorem e_slss {x y : Operand} {xt yt : TypeId} {s t : ByteArray} (hx : ev env x = some (.string s)) (hy : ev env y = some (.string t)) :
    Ev P n env ⟨some d, .binOp .lss xt x y yt, ty, pos, after, none⟩ (.bool (Op.bytesLess s.toList t.toList)) :=
  fun a w hf => run_bins (hf.eval hx) (hf.eval hy) (by simp [binOp, Op.stringOp, pure, Sem.run])
theorem l_slss {x y : Operand} {xt yt : TypeId} {s t : ByteArray} (hd : Nat.ble (d + 1) n = true) (hx : ev env x = some (.string s)) (hy : ev env y = some (.string t)) (h : WpL P ops n K rest ((d, .bool (Op.bytesLess s.toList t.toList)) :: env) w) :
    WpL P ops n K (⟨some d, .binOp .lss xt x y yt, ty, pos, after, none⟩ :: rest) env w :=
  l_val _ hd (fun a hf => e_slss hx hy a w hf) h
theorem e_not {x : Operand} {xt : TypeId} {b : Bool} (hx : ev env x = some (.bool b)) :
    Ev P n env ⟨some d, .unOp .not xt x, ty, pos, after, none⟩ (.bool (!b)) :=
  fun a w hf => by simp [execOp, hf.eval hx, Op.unary, Sem.run_bind, Sem.run_pure, Result.andThen_ok]
theorem l_not {x : Operand} {xt : TypeId} {b : Bool} (hd : Nat.ble (d + 1) n = true) (hx : ev env x = some (.bool b)) (h : WpL P ops n K rest ((d, .bool (!b)) :: env) w) :
    WpL P ops n K (⟨some d, .unOp .not xt x, ty, pos, after, none⟩ :: rest) env w :=
  l_val _ hd (fun a hf => e_not hx a w hf) h
theorem e_neg {x : Operand} {xt : TypeId} {k : IntKind} {i : Int} (hx : ev env x = some (.int k i)) :
    Ev P n env ⟨some d, .unOp .neg xt x, ty, pos, after, none⟩ (.int k (k.wrap (0 - i))) :=
  fun a w hf => by simp [execOp, hf.eval hx, Op.unary, Op.intArith, Sem.run_bind, Sem.run_pure, Result.andThen_ok]
theorem l_neg {x : Operand} {xt : TypeId} {k : IntKind} {i : Int} (hd : Nat.ble (d + 1) n = true) (hx : ev env x = some (.int k i)) (h : WpL P ops n K rest ((d, .int k (k.wrap (0 - i))) :: env) w) :
    WpL P ops n K (⟨some d, .unOp .neg xt x, ty, pos, after, none⟩ :: rest) env w :=
  l_val _ hd (fun a hf => e_neg hx a w hf) h
theorem e_len {x : Operand} {t e : TypeId} {A : Option Addr} {l c : Nat} (ht : P.underlying t = some (.slice e)) (hx : ev env x = some (.slice A l c)) :
    Ev P n env ⟨some d, .call { callee := .builtin .len, args := #[x], argTypes := #[t] }, ty, pos, after, none⟩ (.int .i64 (l : Int)) :=
  fun a w hf => by simp [execOp, resolve, invoke, builtin, Builtin.len_, hf.eval hx, run_underlying ht, goInt, Sem.run_bind, Sem.run_pure, Result.andThen_ok]
theorem l_len {x : Operand} {t e : TypeId} {A : Option Addr} {l c : Nat} (hd : Nat.ble (d + 1) n = true) (ht : P.underlying t = some (.slice e)) (hx : ev env x = some (.slice A l c)) (h : WpL P ops n K rest ((d, .int .i64 (l : Int)) :: env) w) :
    WpL P ops n K (⟨some d, .call { callee := .builtin .len, args := #[x], argTypes := #[t] }, ty, pos, after, none⟩ :: rest) env w :=
  l_val _ hd (fun a hf => e_len ht hx a w hf) h
theorem e_len_string {x : Operand} {t : TypeId} {s : ByteArray} (ht : P.underlying t = some .string) (hx : ev env x = some (.string s)) :
    Ev P n env ⟨some d, .call { callee := .builtin .len, args := #[x], argTypes := #[t] }, ty, pos, after, none⟩ (.int .i64 (s.size : Int)) :=
  fun a w hf => by simp [execOp, resolve, invoke, builtin, Builtin.len_, hf.eval hx, run_underlying ht, goInt, Sem.run_bind, Sem.run_pure, Result.andThen_ok]
theorem l_len_string {x : Operand} {t : TypeId} {s : ByteArray} (hd : Nat.ble (d + 1) n = true) (ht : P.underlying t = some .string) (hx : ev env x = some (.string s)) (h : WpL P ops n K rest ((d, .int .i64 (s.size : Int)) :: env) w) :
    WpL P ops n K (⟨some d, .call { callee := .builtin .len, args := #[x], argTypes := #[t] }, ty, pos, after, none⟩ :: rest) env w :=
  l_val _ hd (fun a hf => e_len_string ht hx a w hf) h
theorem e_min {x y : Operand} {ts : Array TypeId} {k : IntKind} {i j : Int} (hx : ev env x = some (.int k i)) (hy : ev env y = some (.int k j)) :
    Ev P n env ⟨some d, .call { callee := .builtin .min, args := #[x, y], argTypes := ts }, ty, pos, after, none⟩ (.int k (if j < i then j else i)) :=
  fun a w hf => by simp [execOp, resolve, invoke, builtin, hf.eval hx, hf.eval hy, Builtin.min_, Builtin.min2, Sem.run_bind, Sem.run_pure, Result.andThen_ok]
theorem l_min {x y : Operand} {ts : Array TypeId} {k : IntKind} {i j : Int} (hd : Nat.ble (d + 1) n = true) (hx : ev env x = some (.int k i)) (hy : ev env y = some (.int k j)) (h : WpL P ops n K rest ((d, .int k (if j < i then j else i)) :: env) w) :
    WpL P ops n K (⟨some d, .call { callee := .builtin .min, args := #[x, y], argTypes := ts }, ty, pos, after, none⟩ :: rest) env w :=
  l_val _ hd (fun a hf => e_min hx hy a w hf) h
theorem e_max {x y : Operand} {ts : Array TypeId} {k : IntKind} {i j : Int} (hx : ev env x = some (.int k i)) (hy : ev env y = some (.int k j)) :
    Ev P n env ⟨some d, .call { callee := .builtin .max, args := #[x, y], argTypes := ts }, ty, pos, after, none⟩ (.int k (if j > i then j else i)) :=
  fun a w hf => by simp [execOp, resolve, invoke, builtin, hf.eval hx, hf.eval hy, Builtin.max_, Builtin.max2, Sem.run_bind, Sem.run_pure, Result.andThen_ok]
theorem l_max {x y : Operand} {ts : Array TypeId} {k : IntKind} {i j : Int} (hd : Nat.ble (d + 1) n = true) (hx : ev env x = some (.int k i)) (hy : ev env y = some (.int k j)) (h : WpL P ops n K rest ((d, .int k (if j > i then j else i)) :: env) w) :
    WpL P ops n K (⟨some d, .call { callee := .builtin .max, args := #[x, y], argTypes := ts }, ty, pos, after, none⟩ :: rest) env w :=
  l_val _ hd (fun a hf => e_max hx hy a w hf) h
theorem e_indexAddr {x y : Operand} {t e : TypeId} {ad : Addr} {l c s : Nat} {k : IntKind} {i : Int} (ht : P.underlying t = some (.slice e)) (hs : SzIs P e s) (hx : ev env x = some (.slice (some ad) l c)) (hy : ev env y = some (.int k i)) (h0 : 0 ≤ i) (h1 : i < l) :
    Ev P n env ⟨some d, .indexAddr t x y, ty, pos, after, none⟩ (.pointer (some (ad.add (i.toNat * s)))) :=
  fun a w hf => by
    simp [execOp, hf.eval hx, hf.eval hy, Instr.indexAt, asIntOf, run_underlying ht, hs.run, h0, h1, Sem.run_bind, Sem.run_pure, Result.andThen_ok]
theorem l_indexAddr {x y : Operand} {t e : TypeId} {ad : Addr} {l c s : Nat} {k : IntKind} {i : Int} (hd : Nat.ble (d + 1) n = true) (ht : P.underlying t = some (.slice e)) (hs : SzIs P e s) (hx : ev env x = some (.slice (some ad) l c)) (hy : ev env y = some (.int k i)) (h0 : 0 ≤ i) (h1 : i < l) (h : WpL P ops n K rest ((d, .pointer (some (ad.add (i.toNat * s)))) :: env) w) :
    WpL P ops n K (⟨some d, .indexAddr t x y, ty, pos, after, none⟩ :: rest) env w :=
  l_val _ hd (fun a hf => e_indexAddr ht hs hx hy h0 h1 a w hf) h
theorem e_fieldAddr {x : Operand} {t : TypeId} {ad : Addr} {fs : Array Field} {f : Nat} {fd : Field} {s : Nat} (ht : P.underlying t = some (.struct fs)) (hfd : fs[f]? = some fd) (hs : SzIs P fd.type (s + 1)) (hx : ev env x = some (.pointer (some ad))) :
    Ev P n env ⟨some d, .fieldAddr t x f, ty, pos, after, none⟩ (.pointer (some (ad.add fd.offset))) :=
  fun a w hf => by
    simp [execOp, hf.eval hx, Instr.fieldAt, Instr.sureAddr, fieldPlace, hfd, run_underlying ht, hs.run, Sem.run_bind, Sem.run_pure, Result.andThen_ok]
theorem l_fieldAddr {x : Operand} {t : TypeId} {ad : Addr} {fs : Array Field} {f : Nat} {fd : Field} {s : Nat} (hd : Nat.ble (d + 1) n = true) (ht : P.underlying t = some (.struct fs)) (hfd : fs[f]? = some fd) (hs : SzIs P fd.type (s + 1)) (hx : ev env x = some (.pointer (some ad))) (h : WpL P ops n K rest ((d, .pointer (some (ad.add fd.offset))) :: env) w) :
    WpL P ops n K (⟨some d, .fieldAddr t x f, ty, pos, after, none⟩ :: rest) env w :=
  l_val _ hd (fun a hf => e_fieldAddr ht hfd hs hx a w hf) h
theorem e_nilCheck {x : Operand} {ad : Addr} (hx : ev env x = some (.pointer (some ad))) :
    Ev P n env ⟨some d, .nilCheck x, ty, pos, after, none⟩ (.pointer (some ad)) :=
  fun a w hf => by simp [execOp, hf.eval hx, pure, Sem.run]
theorem l_nilCheck {x : Operand} {ad : Addr} (hd : Nat.ble (d + 1) n = true) (hx : ev env x = some (.pointer (some ad))) (h : WpL P ops n K rest ((d, .pointer (some ad)) :: env) w) :
    WpL P ops n K (⟨some d, .nilCheck x, ty, pos, after, none⟩ :: rest) env w :=
  l_val _ hd (fun a hf => e_nilCheck hx a w hf) h
theorem e_extract {x : Operand} {vs : Array Value} {i : Nat} {v : Value} (hx : ev env x = some (.tuple vs)) (hv : vs[i]? = some v) :
    Ev P n env ⟨some d, .extract x i, ty, pos, after, none⟩ (v) :=
  fun a w hf => by simp [execOp, hf.eval hx, Instr.extract, hv, Sem.run_bind, Sem.run_pure, Result.andThen_ok]
theorem l_extract {x : Operand} {vs : Array Value} {i : Nat} {v : Value} (hd : Nat.ble (d + 1) n = true) (hx : ev env x = some (.tuple vs)) (hv : vs[i]? = some v) (h : WpL P ops n K rest ((d, v) :: env) w) :
    WpL P ops n K (⟨some d, .extract x i, ty, pos, after, none⟩ :: rest) env w :=
  l_val _ hd (fun a hf => e_extract hx hv a w hf) h
theorem e_convInt {x : Operand} {t u : TypeId} {k k' : IntKind} {i : Int} {td : TypeDesc} (hs : P.underlying t = some td) (ht : P.underlying u = some (.int k')) (hx : ev env x = some (.int k i)) :
    Ev P n env ⟨some d, .convert t u x, ty, pos, after, none⟩ (.int k' (k'.wrap i)) :=
  fun a w hf => by
    simp [execOp, hf.eval hx, convert, Conv.intToInt, run_underlying ht, run_underlying hs, Sem.run_bind, Sem.run_pure, Result.andThen_ok]
theorem l_convInt {x : Operand} {t u : TypeId} {k k' : IntKind} {i : Int} {td : TypeDesc} (hd : Nat.ble (d + 1) n = true) (hs : P.underlying t = some td) (ht : P.underlying u = some (.int k')) (hx : ev env x = some (.int k i)) (h : WpL P ops n K rest ((d, .int k' (k'.wrap i)) :: env) w) :
    WpL P ops n K (⟨some d, .convert t u x, ty, pos, after, none⟩ :: rest) env w :=
  l_val _ hd (fun a hf => e_convInt hs ht hx a w hf) h
theorem e_makeFunc {fn : Fn} {xs : Array Operand} {vs : Array Value} (hx : ∀ a, Fits n env a → xs.map a.eval = vs) :
    Ev P n env ⟨some d, .makeFunc fn #[] xs, ty, pos, after, none⟩ (.func fn #[] vs) :=
  fun a w hf => by simp [execOp, hx a hf, Instr.makeFunc, Sem.run_bind, Sem.run_pure, Result.andThen_ok]
theorem l_makeFunc {fn : Fn} {xs : Array Operand} {vs : Array Value} (hd : Nat.ble (d + 1) n = true) (hx : ∀ a, Fits n env a → xs.map a.eval = vs) (h : WpL P ops n K rest ((d, .func fn #[] vs) :: env) w) :
    WpL P ops n K (⟨some d, .makeFunc fn #[] xs, ty, pos, after, none⟩ :: rest) env w :=
  l_val _ hd (fun a hf => e_makeFunc hx a w hf) h
theorem e_slice_h {x y : Operand} {t e : TypeId} {A : Option Addr} {l c s : Nat} {k : IntKind} {i : Int} (ht : P.underlying t = some (.slice e)) (hs : SzIs P e s) (hx : ev env x = some (.slice A l c)) (hy : ev env y = some (.int k i)) (h0 : 0 ≤ i) (h1 : i ≤ c) :
    Ev P n env ⟨some d, .slice t x none (some y) none, ty, pos, after, none⟩ (.slice A i.toNat c) :=
  fun a w hf => by
    cases A <;> simp [execOp, hf.eval hx, hf.eval hy, Instr.sliceAt, Instr.slice, Instr.sliceBounds, Instr.sliceBound, asIntOf, run_underlying ht, hs.run, h0, h1, Addr.add, Sem.run_bind, Sem.run_pure, Result.andThen_ok]
theorem l_slice_h {x y : Operand} {t e : TypeId} {A : Option Addr} {l c s : Nat} {k : IntKind} {i : Int} (hd : Nat.ble (d + 1) n = true) (ht : P.underlying t = some (.slice e)) (hs : SzIs P e s) (hx : ev env x = some (.slice A l c)) (hy : ev env y = some (.int k i)) (h0 : 0 ≤ i) (h1 : i ≤ c) (h : WpL P ops n K rest ((d, .slice A i.toNat c) :: env) w) :
    WpL P ops n K (⟨some d, .slice t x none (some y) none, ty, pos, after, none⟩ :: rest) env w :=
  l_val _ hd (fun a hf => e_slice_h ht hs hx hy h0 h1 a w hf) h
theorem e_slice_l {x y : Operand} {t e : TypeId} {A : Option Addr} {l c s : Nat} {k : IntKind} {i : Int} (ht : P.underlying t = some (.slice e)) (hs : SzIs P e s) (hx : ev env x = some (.slice A l c)) (hy : ev env y = some (.int k i)) (h0 : 0 ≤ i) (h1 : i ≤ l) (h2 : l ≤ c) :
    Ev P n env ⟨some d, .slice t x (some y) none none, ty, pos, after, none⟩ (.slice (if c - i.toNat = 0 then A else A.map (·.add (i.toNat * s))) (l - i.toNat) (c - i.toNat)) :=
  fun a w hf => by
    have e1 : (c = i.toNat) ↔ (c - i.toNat = 0) := by omega
    cases A <;> simp [execOp, hf.eval hx, hf.eval hy, Instr.sliceAt, Instr.slice, Instr.sliceBounds, Instr.sliceBound, asIntOf, run_underlying ht, hs.run, h0, h1, e1, Sem.run_bind, Sem.run_pure, Result.andThen_ok]
theorem l_slice_l {x y : Operand} {t e : TypeId} {A : Option Addr} {l c s : Nat} {k : IntKind} {i : Int} (hd : Nat.ble (d + 1) n = true) (ht : P.underlying t = some (.slice e)) (hs : SzIs P e s) (hx : ev env x = some (.slice A l c)) (hy : ev env y = some (.int k i)) (h0 : 0 ≤ i) (h1 : i ≤ l) (h2 : l ≤ c) (h : WpL P ops n K rest ((d, .slice (if c - i.toNat = 0 then A else A.map (·.add (i.toNat * s))) (l - i.toNat) (c - i.toNat)) :: env) w) :
    WpL P ops n K (⟨some d, .slice t x (some y) none none, ty, pos, after, none⟩ :: rest) env w :=
  l_val _ hd (fun a hf => e_slice_l ht hs hx hy h0 h1 h2 a w hf) h
theorem e_sslice {x y z : Operand} {t : TypeId} {s : ByteArray} {k k' : IntKind} {i j : Int} (ht : P.underlying t = some .string) (hx : ev env x = some (.string s)) (hy : ev env y = some (.int k i)) (hz : ev env z = some (.int k' j)) (h0 : 0 ≤ i) (h1 : i ≤ j) (h2 : j ≤ s.size) :
    Ev P n env ⟨some d, .slice t x (some y) (some z) none, ty, pos, after, none⟩ (.string (s.extract i.toNat j.toNat)) :=
  fun a w hf => by
    have h3 : 0 ≤ j := by omega
    have h4 : i ≤ (j.toNat : Int) := by omega
    simp [execOp, hf.eval hx, hf.eval hy, hf.eval hz, Instr.sliceAt, Instr.slice, Instr.sliceBounds, Instr.sliceBound, asIntOf, run_underlying ht, h0, h2, h3, h4, Sem.run_bind, Sem.run_pure, Result.andThen_ok]
    intro hh; exact absurd hh (by omega)
theorem l_sslice {x y z : Operand} {t : TypeId} {s : ByteArray} {k k' : IntKind} {i j : Int} (hd : Nat.ble (d + 1) n = true) (ht : P.underlying t = some .string) (hx : ev env x = some (.string s)) (hy : ev env y = some (.int k i)) (hz : ev env z = some (.int k' j)) (h0 : 0 ≤ i) (h1 : i ≤ j) (h2 : j ≤ s.size) (h : WpL P ops n K rest ((d, .string (s.extract i.toNat j.toNat)) :: env) w) :
    WpL P ops n K (⟨some d, .slice t x (some y) (some z) none, ty, pos, after, none⟩ :: rest) env w :=
  l_val _ hd (fun a hf => e_sslice ht hx hy hz h0 h1 h2 a w hf) h
theorem e_index_string {x y : Operand} {t : TypeId} {s : ByteArray} {k : IntKind} {i : Int} (ht : P.underlying t = some .string) (hx : ev env x = some (.string s)) (hy : ev env y = some (.int k i)) (h0 : 0 ≤ i) (h1 : i.toNat < s.size) :
    Ev P n env ⟨some d, .index t x y, ty, pos, after, none⟩ (.int .u8 (((s[i.toNat]'h1).toNat : Nat) : Int)) :=
  fun a w hf => by
    have h2 : s[i.toNat]? = some s[i.toNat] := by rw [getElem?_pos s i.toNat h1]
    simp [execOp, hf.eval hx, hf.eval hy, Instr.index, asIntOf, run_underlying ht, h0, h2, Sem.run_bind, Sem.run_pure, Result.andThen_ok]
theorem l_index_string {x y : Operand} {t : TypeId} {s : ByteArray} {k : IntKind} {i : Int} (hd : Nat.ble (d + 1) n = true) (ht : P.underlying t = some .string) (hx : ev env x = some (.string s)) (hy : ev env y = some (.int k i)) (h0 : 0 ≤ i) (h1 : i.toNat < s.size) (h : WpL P ops n K rest ((d, .int .u8 (((s[i.toNat]'h1).toNat : Nat) : Int)) :: env) w) :
    WpL P ops n K (⟨some d, .index t x y, ty, pos, after, none⟩ :: rest) env w :=
  l_val _ hd (fun a hf => e_index_string ht hx hy h0 h1 a w hf) h
end Go.Proofs.Fw
namespace Go.Proofs.Fw

/-- A kind of data: how many cells it takes, and what its cells stand for: by what nobody changes, and by what is owned. -/
structure Kd (α : Type) where
  sz : Nat
  rep : PH → PH → List Value → α → Prop
  mono : ∀ {I I' h cs x}, PH.sub I I' → rep I h cs x → rep I' h cs x
  up : ∀ {I h h' cs x}, PH.sub h h' → rep I h cs x → rep I h' cs x
  len : ∀ {I h cs x}, rep I h cs x → cs.length = sz
  one : ∀ {I h cs x}, rep I h cs x → ∀ v ∈ cs, v.oneCell' = true
def Kd.Pers {α : Type} (K : Kd α) : Prop := ∀ {I h cs x}, K.rep I h cs x → K.rep I PH.empty cs x
/-- What is owned by one kind is read by the other, once nobody changes it any more. -/
def Frz {α : Type} (K K' : Kd α) : Prop := ∀ {I h cs x}, PH.disj I h → K.rep I h cs x → K'.rep (PH.un I h) PH.empty cs x
theorem Kd.Pers.frz {α : Type} {K : Kd α} (p : K.Pers) : Frz K K := fun _ r => K.mono (PH.un_left _ _) (p r)
/-- These cells stand for x. -/
def pts {α : Type} (K : Kd α) (cs : List Value) (x : α) : Res := ⟨fun I h => K.rep I h cs x, fun s r => K.mono s r, fun s r => K.up s r⟩
/-- This value, of one cell, stands for x. -/
abbrev pt {α : Type} (K : Kd α) (v : Value) (x : α) : Res := pts K [v] x

def kInt (k : IntKind) : Kd Int := ⟨1, fun _ _ cs n => cs = [.int k n] ∧ k.min ≤ n ∧ n ≤ k.max, fun _ r => r, fun _ r => r, fun r => by rw [r.1]; rfl, fun r v hv => by rw [r.1] at hv; simp at hv; subst hv; rfl⟩
def kBool : Kd Bool := ⟨1, fun _ _ cs b => cs = [.bool b], fun _ r => r, fun _ r => r, fun r => by rw [r]; rfl, fun r v hv => by rw [r] at hv; simp at hv; subst hv; rfl⟩
def kStr : Kd ByteArray := ⟨1, fun _ _ cs s => cs = [.string s] ∧ s.size ≤ maxLen, fun _ r => r, fun _ r => r, fun r => by rw [r.1]; rfl, fun r v hv => by rw [r.1] at hv; simp at hv; subst hv; rfl⟩
theorem kInt_pers (k : IntKind) : (kInt k).Pers := fun r => r
theorem kBool_pers : kBool.Pers := fun r => r
theorem kStr_pers : kStr.Pers := fun r => r

/-- The elements of a row. -/
def Elems {α : Type} (K : Kd α) (I : PH) (l : List Value) : PH → Nat → List α → Prop
  | _, _, [] => True
  | h, off, x :: xs => ∃ h1 h2, PH.disj h1 h2 ∧ PH.sub h1 h ∧ PH.sub h2 h ∧ K.rep I h1 ((l.drop off).take K.sz) x ∧ Elems K I l h2 (off + K.sz) xs
section elems
variable {α : Type} {K K' : Kd α} {I I' h h' : PH} {l l' : List Value} {off : Nat} {xs ys : List α}
theorem Elems.mono (s : PH.sub I I') : ∀ {xs : List α} {h : PH} {off : Nat}, Elems K I l h off xs → Elems K I' l h off xs
  | [], _, _, _ => trivial
  | x :: xs, _, _, ⟨h1, h2, d, s1, s2, r, e⟩ => ⟨h1, h2, d, s1, s2, K.mono s r, e.mono s⟩
theorem Elems.up (s : PH.sub h h') (e : Elems K I l h off xs) : Elems K I l h' off xs := by
  cases xs with
  | nil => trivial
  | cons x xs => obtain ⟨h1, h2, d, s1, s2, r, e⟩ := e; exact ⟨h1, h2, d, PH.sub_trans s1 s, PH.sub_trans s2 s, r, e⟩
theorem Elems.get : ∀ {xs : List α} {h : PH} {off : Nat} (i : Nat) (hi : i < xs.length), Elems K I l h off xs → ∃ h', PH.sub h' h ∧ K.rep I h' ((l.drop (off + i * K.sz)).take K.sz) xs[i]
  | x :: xs, h, off, 0, _, ⟨h1, h2, d, s1, s2, r, e⟩ => ⟨h1, s1, by simpa using r⟩
  | x :: xs, h, off, i + 1, hi, ⟨h1, h2, d, s1, s2, r, e⟩ => by
    obtain ⟨h', s', r'⟩ := Elems.get i (by simpa using hi) e
    refine ⟨h', PH.sub_trans s' s2, ?_⟩
    rw [show off + (i + 1) * K.sz = off + K.sz + i * K.sz from by rw [Nat.add_mul]; omega]
    exact r'
/-- Only the cells count. -/
theorem Elems.congr : ∀ {xs : List α} {h : PH} {off off' : Nat}, (∀ i, i < xs.length → (l.drop (off + i * K.sz)).take K.sz = (l'.drop (off' + i * K.sz)).take K.sz) → Elems K I l h off xs → Elems K I l' h off' xs
  | [], _, _, _, _, _ => trivial
  | x :: xs, h, off, off', hc, ⟨h1, h2, d, s1, s2, r, e⟩ => by
    refine ⟨h1, h2, d, s1, s2, ?_, Elems.congr (fun i hi => ?_) e⟩
    · have := hc 0 (by simp)
      simp only [Nat.zero_mul, Nat.add_zero] at this
      rw [← this]; exact r
    · have := hc (i + 1) (by simpa using hi)
      rw [show off + (i + 1) * K.sz = off + K.sz + i * K.sz from by rw [Nat.add_mul]; omega, show off' + (i + 1) * K.sz = off' + K.sz + i * K.sz from by rw [Nat.add_mul]; omega] at this
      exact this
theorem Elems.fits : ∀ {xs : List α} {h : PH} {off : Nat}, 0 < K.sz → Elems K I l h off xs → xs = [] ∨ off + xs.length * K.sz ≤ l.length
  | [], _, _, _, _ => .inl rfl
  | x :: xs, h, off, hs, ⟨h1, h2, d, s1, s2, r, e⟩ => by
    refine .inr ?_
    have := K.len r
    simp only [List.length_take, List.length_drop] at this
    rcases Elems.fits hs e with h0 | h0
    · subst h0; simp; omega
    · simp only [List.length_cons, Nat.add_mul, Nat.one_mul]; omega
theorem Elems.append {g : PH} : ∀ {xs ys : List α} {h h' : PH} {off : Nat}, PH.disj h g → PH.sub h h' → PH.sub g h' → Elems K I l h off xs → Elems K I l g (off + xs.length * K.sz) ys → Elems K I l h' off (xs ++ ys)
  | [], ys, h, h', off, d, s, t, e, f => by simpa using Elems.up t (by simpa using f)
  | x :: xs, ys, h, h', off, d, s, t, ⟨h1, h2, d', s1, s2, r, e⟩, f => by
    have dg : PH.disj h2 g := PH.disj_symm (PH.disj_sub (PH.disj_symm d) s2)
    have dg1 : PH.disj h1 g := PH.disj_symm (PH.disj_sub (PH.disj_symm d) s1)
    refine ⟨h1, PH.un h2 g, PH.disj_un d' dg1, PH.sub_trans s1 s, PH.un_sub (PH.sub_trans s2 s) t, r, Elems.append (h' := PH.un h2 g) dg (PH.un_left _ _) (PH.un_right dg) e ?_⟩
    rw [show off + K.sz + xs.length * K.sz = off + (x :: xs).length * K.sz from by simp [Nat.add_mul]; omega]
    exact f
theorem Elems.split : ∀ {xs ys : List α} {h : PH} {off : Nat}, Elems K I l h off (xs ++ ys) → ∃ h1 h2, PH.disj h1 h2 ∧ PH.sub h1 h ∧ PH.sub h2 h ∧ Elems K I l h1 off xs ∧ Elems K I l h2 (off + xs.length * K.sz) ys
  | [], ys, h, off, e => ⟨PH.empty, h, PH.empty_disj _, PH.empty_sub _, PH.sub_refl _, trivial, by simpa using e⟩
  | x :: xs, ys, h, off, ⟨h1, h2, d, s1, s2, r, e⟩ => by
    obtain ⟨g1, g2, d', t1, t2, e1, e2⟩ := Elems.split e
    refine ⟨PH.un h1 g1, g2, PH.un_disj (PH.disj_sub d t2) d', PH.un_sub s1 (PH.sub_trans t1 s2), PH.sub_trans t2 s2, ⟨h1, g1, PH.disj_sub d t1, PH.un_left _ _, PH.un_right (PH.disj_sub d t1), r, e1⟩, ?_⟩
    rw [show off + (x :: xs).length * K.sz = off + K.sz + xs.length * K.sz from by simp [Nat.add_mul]; omega]
    exact e2
theorem Elems.frz (f : Frz K K') (hsz : K.sz = K'.sz) : ∀ {xs : List α} {h : PH} {off : Nat}, PH.disj I h → Elems K I l h off xs → Elems K' (PH.un I h) l PH.empty off xs
  | [], _, _, _, _ => trivial
  | x :: xs, h, off, d, ⟨h1, h2, d', s1, s2, r, e⟩ => by
    refine ⟨PH.empty, PH.empty, PH.disj_empty _, PH.empty_sub _, PH.empty_sub _, ?_, ?_⟩
    · have := f (PH.disj_sub d s1) r
      rw [← hsz]
      exact K'.mono (PH.un_sub (PH.un_left _ _) (PH.sub_trans s1 (PH.un_right d))) this
    · have := Elems.frz f hsz (PH.disj_sub d s2) e
      rw [← hsz]
      exact this.mono (PH.un_sub (PH.un_left _ _) (PH.sub_trans s2 (PH.un_right d)))
theorem Elems.pers (p : K.Pers) : ∀ {xs : List α} {h : PH} {off : Nat}, Elems K I l h off xs → Elems K I l PH.empty off xs
  | [], _, _, _ => trivial
  | x :: xs, h, off, ⟨h1, h2, d, s1, s2, r, e⟩ => ⟨PH.empty, PH.empty, PH.disj_empty _, PH.empty_sub _, PH.empty_sub _, p r, Elems.pers p e⟩
end elems

/-- A slice that is read. -/
def rs {α : Type} (K : Kd α) : Kd (List α) := {
  sz := 1
  rep I h cs xs := ∃ A c, cs = [.slice A xs.length c] ∧ xs.length ≤ c ∧ c ≤ maxLen ∧ (xs = [] ∨ ∃ b off cells e fr, A = some ⟨b, off, none⟩ ∧ I b = some (.cells cells e fr) ∧ Elems K I cells.toList PH.empty off xs)
  mono s := fun ⟨A, c, h1, h2, h3, h4⟩ => ⟨A, c, h1, h2, h3, h4.imp id fun ⟨b, off, cells, e, fr, k1, k2, k3⟩ => ⟨b, off, cells, e, fr, k1, s _ _ k2, k3.mono s⟩⟩
  up s r := r
  len := fun ⟨A, c, h1, _⟩ => by rw [h1]; rfl
  one := fun ⟨A, c, h1, _⟩ v hv => by rw [h1] at hv; simp at hv; subst hv; rfl }
theorem rs_pers {α : Type} (K : Kd α) : (rs K).Pers := fun r => r
/-- A slice that is owned, its elements' type being e. -/
def os {α : Type} (e : TypeId) (K : Kd α) : Kd (List α) := {
  sz := 1
  rep I h cs xs := (cs = [.slice none 0 0] ∧ xs = []) ∨ ∃ b cap cells h', cs = [.slice (some ⟨b, 0, none⟩) xs.length cap] ∧ h b = some (.cells cells e (0, 0)) ∧ h' b = none ∧ PH.sub h' h ∧ xs.length ≤ cap ∧ cap ≤ maxLen ∧ cells.size = cap * K.sz ∧ Elems K I cells.toList h' 0 xs
  mono s := fun r => r.imp id fun ⟨b, cap, cells, h', k1, k2, k3, k4, k5, k6, k7, k8⟩ => ⟨b, cap, cells, h', k1, k2, k3, k4, k5, k6, k7, k8.mono s⟩
  up s := fun r => r.imp id fun ⟨b, cap, cells, h', k1, k2, k3, k4, k5, k6, k7, k8⟩ => ⟨b, cap, cells, h', k1, s _ _ k2, k3, PH.sub_trans k4 s, k5, k6, k7, k8⟩
  len := fun r => by rcases r with ⟨h, _⟩ | ⟨b, cap, cells, h', h, _⟩ <;> rw [h] <;> rfl
  one := fun r v hv => by rcases r with ⟨h, _⟩ | ⟨b, cap, cells, h', h, _⟩ <;> rw [h] at hv <;> simp at hv <;> subst hv <;> rfl }
theorem os_frz {α : Type} {e : TypeId} {K K' : Kd α} (f : Frz K K') (hsz : K.sz = K'.sz) : Frz (os e K) (rs K') := by
  intro I h cs xs d r
  rcases r with ⟨h1, h2⟩ | ⟨b, cap, cells, h', k1, k2, k3, k4, k5, k6, k7, k8⟩
  · subst h2; exact ⟨none, 0, h1, Nat.le_refl _, Nat.zero_le _, .inl rfl⟩
  · refine ⟨_, cap, k1, k5, k6, .inr ⟨b, 0, cells, e, (0, 0), rfl, PH.un_right d _ _ k2, ?_⟩⟩
    exact (Elems.frz f hsz (PH.disj_sub d k4) k8).mono (PH.un_sub (PH.un_left _ _) (PH.sub_trans k4 (PH.un_right d)))

variable {w0 w w' : World} {L L' : List Res} {α : Type} {K K' : Kd α} {v u : Value} {cs : List Value} {x : α} {xs ys : List α} {e : TypeId}
theorem St.frz (f : Frz K K') (h : St w0 (pts K cs x :: L) w) : St w0 (pts K' cs x :: L) w := by
  obtain ⟨I, g, d, a, c, h1, h2, d2, s1, s2, r, l⟩ := h.mem
  have d1 : PH.disj I h1 := PH.disj_sub d s1
  refine ⟨h.b1, h.b2, h.b3, PH.un I h1, h2, PH.un_disj (PH.disj_sub d s2) d2, ?_, PH.le_sub c s2, PH.empty, h2, PH.empty_disj _, PH.empty_sub _, PH.sub_refl _, f d1 r, l.mono (PH.un_left _ _)⟩
  intro b o e
  unfold PH.un at e
  split at e
  · rename_i u hu; cases e; exact a b _ hu
  · exact c b o (s1 b o e)
theorem St.dup (p : K.Pers) (h : St w0 (pts K cs x :: L) w) : St w0 (pts K cs x :: pts K cs x :: L) w := by
  obtain ⟨I, g, d, a, c, h1, h2, d2, s1, s2, r, l⟩ := h.mem
  exact ⟨h.b1, h.b2, h.b3, I, g, d, a, c, PH.empty, g, PH.empty_disj _, PH.empty_sub _, PH.sub_refl _, p r, h1, h2, d2, s1, s2, r, l⟩
theorem St.add (h : St w0 L w) (r : K.rep PH.empty PH.empty cs x) : St w0 (pts K cs x :: L) w := by
  obtain ⟨I, g, d, a, c, s⟩ := h.mem
  exact ⟨h.b1, h.b2, h.b3, I, g, d, a, c, PH.empty, g, PH.empty_disj _, PH.empty_sub _, PH.sub_refl _, K.mono (PH.empty_sub _) r, s⟩
theorem St.addInt (h : St w0 L w) (k : IntKind) (n : Int) (h1 : k.min ≤ n) (h2 : n ≤ k.max) : St w0 (pt (kInt k) (.int k n) n :: L) w := h.add ⟨rfl, h1, h2⟩
theorem St.addBool (h : St w0 L w) (b : Bool) : St w0 (pt kBool (.bool b) b :: L) w := h.add rfl
theorem St.addStr (h : St w0 L w) (s : ByteArray) (hs : s.size ≤ maxLen) : St w0 (pt kStr (.string s) s :: L) w := h.add ⟨rfl, hs⟩
/-- What the memory says of the first resource. -/
theorem St.rep (h : St w0 (pts K cs x :: L) w) : ∃ I g, PH.le I w ∧ PH.le g w ∧ K.rep I g cs x := by
  obtain ⟨I, g, d, a, c, h1, h2, d2, s1, s2, r, l⟩ := h.mem
  exact ⟨I, h1, a, PH.le_sub c s1, r⟩
theorem St.int {k : IntKind} {n : Int} (h : St w0 (pt (kInt k) v n :: L) w) : v = .int k n ∧ k.min ≤ n ∧ n ≤ k.max := by
  obtain ⟨I, g, _, _, r⟩ := h.rep
  obtain ⟨r1, r2⟩ := r
  exact ⟨by simpa using r1, r2⟩
theorem St.bool {b : Bool} (h : St w0 (pt kBool v b :: L) w) : v = .bool b := by
  obtain ⟨I, g, _, _, r⟩ := h.rep
  have r' : [v] = [Value.bool b] := r
  simpa using r'
theorem St.str {s : ByteArray} (h : St w0 (pt kStr v s :: L) w) : v = .string s ∧ s.size ≤ maxLen := by
  obtain ⟨I, g, _, _, r⟩ := h.rep
  obtain ⟨r1, r2⟩ := r
  exact ⟨by simpa using r1, r2⟩
theorem St.rs_form (h : St w0 (pt (rs K) v xs :: L) w) : ∃ A c, v = .slice A xs.length c ∧ xs.length ≤ c ∧ c ≤ maxLen := by
  obtain ⟨I, g, _, _, r⟩ := h.rep
  obtain ⟨A, c, r1, r2, r3, _⟩ := r
  exact ⟨A, c, by simpa using r1, r2, r3⟩
theorem St.os_form (h : St w0 (pt (os e K) v xs :: L) w) : ∃ A c, v = .slice A xs.length c ∧ xs.length ≤ c ∧ c ≤ maxLen := by
  obtain ⟨I, g, _, _, r⟩ := h.rep
  rcases r with ⟨r1, r2⟩ | ⟨b, cap, cells, h', k1, k2, k3, k4, k5, k6, k7, k8⟩
  · subst r2; exact ⟨none, 0, by simpa using r1, by simp, Nat.zero_le _⟩
  · exact ⟨_, cap, by simpa using k1, k5, k6⟩
theorem cell_le {I : PH} {w : World} (hl : PH.le I w) {b : Nat} {cells : Array Value} {e : TypeId} {fr : Nat × Nat} (hb : I b = some (.cells cells e fr)) (j : Nat) : w.cell? ⟨b, j, none⟩ = cells[j]? := by
  simp [World.cell?, hl b _ hb]
theorem addr_add (b off j : Nat) : (⟨b, off, none⟩ : Addr).add j = ⟨b, off + j, none⟩ := by
  unfold Addr.add
  split <;> simp_all
theorem cell_of_take {l : List Value} {j : Nat} {v : Value} (h : (l.drop j).take 1 = [v]) : l[j]? = some v := by
  cases hd : l.drop j with
  | nil => rw [hd] at h; simp at h
  | cons x r =>
    rw [hd] at h
    simp at h
    subst h
    have := congrArg (·[0]?) hd
    simpa using this
theorem take_one {l : List Value} {j : Nat} (h : ((l.drop j).take 1).length = 1) : ∃ v, (l.drop j).take 1 = [v] := by
  match hl : (l.drop j).take 1, h with
  | [v], _ => exact ⟨v, rfl⟩
/-- An element that is read, of one cell. -/
theorem St.rs_cell (h : St w0 (pt (rs K) v xs :: L) w) (hs : K.sz = 1) {A : Option Addr} {l c : Nat} (hv : v = .slice A l c) (i : Nat) (hi : i < xs.length) :
    ∃ ad u, A = some ad ∧ w.cell? (ad.add i) = some u ∧ St w0 (pt K u xs[i] :: pt (rs K) v xs :: L) w := by
  obtain ⟨I, g, d, a, cc, h1, h2, d2, s1, s2, r, l⟩ := h.mem
  obtain ⟨A', c', r1, r2, r3, r4⟩ := r
  rcases r4 with r4 | ⟨b, off, cells, e, fr, k1, k2, k3⟩
  · subst r4; simp at hi
  · subst hv
    simp at r1
    obtain ⟨rfl, rfl, rfl⟩ := r1
    obtain ⟨h', s', r'⟩ := Elems.get i hi k3
    have hlen := K.len r'
    rw [hs] at hlen
    simp only [hs, Nat.mul_one] at r' hlen
    obtain ⟨u, hu⟩ := take_one hlen
    rw [hu] at r'
    refine ⟨_, u, k1, ?_, ⟨h.b1, h.b2, h.b3, I, g, d, a, cc, PH.empty, g, PH.empty_disj _, PH.empty_sub _, PH.sub_refl _, K.up s' r', h1, h2, d2, s1, s2, ⟨A, c, rfl, r2, r3, .inr ⟨b, off, cells, e, fr, k1, k2, k3⟩⟩, l⟩⟩
    rw [addr_add, cell_le a k2]
    have := cell_of_take hu
    simpa using this
/-- An element of what is owned, the element itself being read alone. -/
theorem St.os_cell (h : St w0 (pt (os e K) v xs :: L) w) (hs : K.sz = 1) (p : K.Pers) {A : Option Addr} {l c : Nat} (hv : v = .slice A l c) (i : Nat) (hi : i < xs.length) :
    ∃ ad u, A = some ad ∧ w.cell? (ad.add i) = some u ∧ St w0 (pt K u xs[i] :: pt (os e K) v xs :: L) w := by
  obtain ⟨I, g, d, a, cc, h1, h2, d2, s1, s2, r, l⟩ := h.mem
  have r0 := r
  rcases r with ⟨r1, r2⟩ | ⟨b, cap, cells, h', k1, k2, k3, k4, k5, k6, k7, k8⟩
  · subst r2; simp at hi
  · subst hv
    simp at k1
    obtain ⟨rfl, rfl, rfl⟩ := k1
    obtain ⟨g', s', r'⟩ := Elems.get i hi k8
    have hlen := K.len r'
    rw [hs] at hlen
    simp only [hs, Nat.mul_one] at r' hlen
    obtain ⟨u, hu⟩ := take_one hlen
    rw [hu] at r'
    refine ⟨_, u, rfl, ?_, ⟨h.b1, h.b2, h.b3, I, g, d, a, cc, PH.empty, g, PH.empty_disj _, PH.empty_sub _, PH.sub_refl _, p r', h1, h2, d2, s1, s2, r0, l⟩⟩
    rw [addr_add, cell_le (PH.le_sub cc s1) k2]
    have := cell_of_take hu
    simpa using this
end Go.Proofs.Fw
namespace Go.Proofs.Fw
variable {P : Program} {n : Nat} {env : Env} {a : Act} {w w' : World} {ops : Array Oper} {K : Env → World → Prop} {rest : List Oper} {d : Nat} {ty : TypeId} {pos : String} {after : Array Edge}
variable {w0 : World} {L L' : List Res}

/-! ### cells -/
theorem setCell_heap {b off : Nat} {cs : Array Value} {e : TypeId} {v : Value} (hb : w.heap[b]? = some (.cells cs e (0, 0))) : (w.setCell ⟨b, off, none⟩ v).heap[b]? = some (.cells (cs.setIfInBounds off v) e (0, 0)) := by
  simp [World.setCell, Array.getElem?_modify, hb]
theorem setCell_other {b off c : Nat} {v : Value} (hne : c ≠ b) : (w.setCell ⟨b, off, none⟩ v).heap[c]? = w.heap[c]? := by
  simp only [World.setCell, Array.getElem?_modify]
  rw [if_neg (fun e => hne e.symm)]
theorem St.setCell {b off : Nat} {cs : Array Value} {e : TypeId} (v : Value) (h : St w0 (blk b (.cells cs e (0, 0)) :: L) w) : St w0 (blk b (.cells (cs.setIfInBounds off v) e (0, 0)) :: L) (w.setCell ⟨b, off, none⟩ v) :=
  h.change rfl rfl rfl (setCell_heap h.blk_at) fun c hc u hu => by rw [setCell_other hc]; exact hu
theorem St.blk_cell {b off : Nat} {cs : Array Value} {e : TypeId} (h : St w0 (blk b (.cells cs e (0, 0)) :: L) w) : w.cell? ⟨b, off, none⟩ = cs[off]? := by
  simp [World.cell?, h.blk_at]
theorem St.blk_free {b off : Nat} {cs : Array Value} {e : TypeId} (h : St w0 (blk b (.cells cs e (0, 0)) :: L) w) : w.frozen? ⟨b, off, none⟩ = false := by
  simp [World.frozen?, h.blk_at]
theorem St.frz_cell {b off : Nat} {cs : Array Value} {e : TypeId} {fr : Nat × Nat} (h : St w0 (Fw.frz b (.cells cs e fr) :: L) w) : w.cell? ⟨b, off, none⟩ = cs[off]? := by
  simp [World.cell?, h.frz_at]

/-- A type of one cell that is no struct and no array. -/
def Plain (P : Program) (t : TypeId) : Prop := (∃ i, P.info? t = some i ∧ i.size = 1) ∧ ∃ td, P.underlying t = some td ∧ (∀ fs, td ≠ .struct fs) ∧ ∀ m e, td ≠ .array m e
theorem Plain.notAgg {t : TypeId} (h : Plain P t) : (isAgg t).run P w = .ok false w := by
  obtain ⟨_, td, h1, h2, h3⟩ := h
  simp only [isAgg, Sem.run_bind, run_underlying h1, Result.andThen_ok]
  cases td <;> first | rfl | exact absurd rfl (h2 _) | exact absurd rfl (h3 _ _)
theorem Plain.size {t : TypeId} (h : Plain P t) : (sizeOf t).run P w = .ok 1 w := SzIs.run h.1
theorem cells_one {v : Value} (h : v.oneCell' = true) : v.cells = #[v] := by cases v <;> first | rfl | simp [Value.oneCell'] at h
theorem run_load {t : TypeId} {ad : Addr} {v : Value} (ht : Plain P t) (hc : w.cell? ad = some v) : (loadVar t ad).run P w = .ok v w := by
  simp [loadVar, Sem.run_bind, ht.notAgg, load, Sem.run, hc, Result.andThen_ok]
theorem run_store1 {t : TypeId} {ad : Addr} {v u : Value} (ht : Plain P t) (hv : v.oneCell' = true) (hc : w.cell? ad = some u) (hf : w.frozen? ad = false) : (storeVar t ad v).run P w = .ok () (w.setCell ad v) := by
  have ha : ad.add 0 = ad := rfl
  simp [storeVar, Sem.run_bind, ht.size, cells_one hv, storeCells, run_store _ _ _ _ _ hv, ha, hc, hf, Result.andThen_ok, Sem.run_pure]
theorem l_load {x : Operand} {t : TypeId} {ad : Addr} {v : Value} (hd : Nat.ble (d + 1) n = true) (ht : Plain P t) (hx : ev env x = some (.pointer (some ad))) (hc : w.cell? ad = some v) (h : WpL P ops n K rest ((d, v) :: env) w) :
    WpL P ops n K (⟨some d, .load t x, ty, pos, after, none⟩ :: rest) env w :=
  l_val v hd (fun a hf => by simp [execOp, hf.eval hx, Instr.loadAt, Instr.sureAddr, Sem.run_bind, Sem.run_pure, Result.andThen_ok, run_load ht hc]) h
theorem l_store {x y : Operand} {t : TypeId} {ad : Addr} {v u : Value} (ht : Plain P t) (hx : ev env x = some (.pointer (some ad))) (hy : ev env y = some v) (hv : v.oneCell' = true) (hc : w.cell? ad = some u) (hf : w.frozen? ad = false)
    (h : WpL P ops n K rest env (w.setCell ad v)) : WpL P ops n K (⟨none, .store t x y, ty, pos, after, none⟩ :: rest) env w :=
  l_unit (fun a hfit => by simp [execOp, hfit.eval hx, hfit.eval hy, Instr.storeAt, Instr.sureAddr, Sem.run_bind, Sem.run_pure, Result.andThen_ok, run_store1 ht hv hc hf]) h

/-! ### new blocks -/
def ZeroIs (P : Program) (t : TypeId) (z : Value) : Prop := ∃ i, P.info? t = some i ∧ i.zero = some z
theorem ZeroIs.run {t : TypeId} {z : Value} (h : ZeroIs P t z) : (zeroValue t).run P w = .ok z w := by
  obtain ⟨i, hi, hz⟩ := h
  simp [zeroValue, typeInfo, hi, hz, Sem.run_bind, program, Sem.run, Sem.run_pure, Result.andThen_ok]
theorem run_newVar (t : TypeId) (v : Value) : (newVar t v).run P w = .ok ⟨w.heap.size, 0, none⟩ (w.alloc (.cells v.cells t)) := by
  simp [newVar, newRow, newObj, Sem.run_bind, Sem.run, Sem.run_pure, Result.andThen_ok]
theorem l_alloc {t : TypeId} {z : Value} (hd : Nat.ble (d + 1) n = true) (hz : ZeroIs P t z) (hs : St w0 L w)
    (h : ∀ b w', St w0 (blk b (.cells z.cells t) :: L) w' → WpL P ops n K rest ((d, .pointer (some ⟨b, 0, none⟩)) :: env) w') : WpL P ops n K (⟨some d, .alloc t, ty, pos, after, none⟩ :: rest) env w :=
  l_val _ hd (fun a hf => by simp [execOp, Instr.alloc, Sem.run_bind, hz.run, run_newVar, Sem.run_pure, Result.andThen_ok]) (h _ _ (hs.alloc _))
theorem l_box {x : Operand} {t : TypeId} {v : Value} (hd : Nat.ble (d + 1) n = true) (hx : ev env x = some v) (hs : St w0 L w)
    (h : ∀ b w', St w0 (blk b (.cells v.cells t) :: L) w' → WpL P ops n K rest ((d, .pointer (some ⟨b, 0, none⟩)) :: env) w') : WpL P ops n K (⟨some d, .box t x, ty, pos, after, none⟩ :: rest) env w :=
  l_val _ hd (fun a hf => by simp [execOp, hf.eval hx, Instr.box, Sem.run_bind, run_newVar, Sem.run_pure, Result.andThen_ok]) (h _ _ (hs.alloc _))

variable {α : Type} {Kx : Kd α} {e : TypeId}
/-- A new block of one element is a slice that is owned. -/
theorem St.blk_os1 {b : Nat} {v : Value} {x : α} (h : St w0 (blk b (.cells #[v] e (0, 0)) :: pt Kx v x :: L) w) (hs : Kx.sz = 1) : St w0 (pt (os e Kx) (.slice (some ⟨b, 0, none⟩) 1 1) [x] :: L) w := by
  obtain ⟨I, g, d, a, c, h1, h2, d2, s1, s2, r, h3, h4, d3, s3, s4, r2, l⟩ := h.mem
  have r' : h1 b = some (.cells #[v] e (0, 0)) := r
  have hb3 : h3 b = none := by
    rcases d2 b with e' | e'
    · rw [r'] at e'; cases e'
    · cases hh : h3 b with
      | none => rfl
      | some o => rw [s3 b o hh] at e'; cases e'
  refine ⟨h.b1, h.b2, h.b3, I, g, d, a, c, PH.un h1 h3, h4, PH.un_disj (PH.disj_sub d2 s4) d3, PH.un_sub s1 (PH.sub_trans s3 s2), PH.sub_trans s4 s2, ?_, l⟩
  refine .inr ⟨b, 1, #[v], h3, rfl, PH.un_left _ _ _ _ r', hb3, PH.un_right (PH.disj_sub d2 s3), Nat.le_refl _, by simp [maxLen], by simp [hs], h3, PH.empty, PH.disj_empty _, PH.sub_refl _, PH.empty_sub _, ?_, trivial⟩
  simp only [hs, List.drop_zero]
  exact r2
theorem pt_one {v : Value} {x : α} (h : St w0 (pt Kx v x :: L) w) : v.oneCell' = true := by
  obtain ⟨I, g, _, _, r⟩ := h.rep
  exact Kx.one r v (by simp)
/-- []T{x} -/
theorem l_buildSlice1 {t : TypeId} {y : Operand} {v : Value} {x : α} {z : Value} (hd : Nat.ble (d + 1) n = true) (ht : P.underlying t = some (.slice e)) (he : SzIs P e 1) (hz : ZeroIs P e z) (hy : ev env y = some v) (hs : Kx.sz = 1) (hst : St w0 (pt Kx v x :: L) w)
    (h : ∀ u w', St w0 (pt (os e Kx) u [x] :: L) w' → WpL P ops n K rest ((d, u) :: env) w') : WpL P ops n K (⟨some d, .buildSlice t 1 #[(0, y)], ty, pos, after, none⟩ :: rest) env w := by
  have hv := pt_one hst
  refine l_val (w' := w.alloc (.cells #[v] e)) (.slice (some ⟨w.heap.size, 0, none⟩) 1 1) hd (fun a hf => ?_) (h _ _ ((hst.alloc _).blk_os1 hs))
  have hfill : ∀ f : Nat → Value, Instr.fill (fun i => some (i, 1)) (Array.map f (Array.range 1)) [(0, v)] = some #[v] := fun f => by
    have : Array.range 1 = #[0] := rfl
    simp [Instr.fill, cells_one hv, this]
  simp [execOp, hf.eval hy, Instr.buildSlice, Sem.run_bind, run_underlying ht, he.run, hz.run, Sem.run_pure, Result.andThen_ok, hfill, newRow, newObj, Sem.run]

/-- What one cell after the other stands for. -/
theorem elems_replicate {K : Kd α} {I : PH} (hs : K.sz = 1) {z : Value} {x : α} (r : K.rep PH.empty PH.empty [z] x) : ∀ (m off : Nat) (l : List Value), (∀ i, i < m → l[off + i]? = some z) → Elems K I l PH.empty off (List.replicate m x)
  | 0, off, l, h => trivial
  | m + 1, off, l, h => by
    rw [List.replicate_succ]
    refine ⟨PH.empty, PH.empty, PH.disj_empty _, PH.sub_refl _, PH.sub_refl _, ?_, ?_⟩
    · have h0 := h 0 (by omega)
      have hlt := (List.getElem?_eq_some_iff.1 h0).1
      have hlt' : off < l.length := by omega
      have : (l.drop off).take K.sz = [z] := by
        rw [hs, List.drop_eq_getElem_cons hlt']
        have : l[off] = z := by
          have := (List.getElem?_eq_some_iff.1 h0).2
          simpa using this
        simp [this]
      rw [this]
      exact K.mono (PH.empty_sub _) r
    · rw [hs]
      exact elems_replicate hs r m (off + 1) l fun i hi => by
        have := h (i + 1) (by omega)
        rwa [show off + (i + 1) = off + 1 + i from by omega] at this
/-- make([]T, m) -/
theorem l_makeSlice {t : TypeId} {y z : Operand} {k1 k2 : IntKind} {m : Nat} {zv : Value} {zx : α} {bytes : Nat} (hd : Nat.ble (d + 1) n = true) (ht : P.underlying t = some (.slice e)) (hi : (P.info? e).map (fun i => (i.zero, i.size, i.bytes)) = some (some zv, 1, bytes)) (hs : Kx.sz = 1)
    (hzr : Kx.rep PH.empty PH.empty [zv] zx) (hy : ev env y = some (.int k1 (m : Int))) (hz : ev env z = some (.int k2 (m : Int))) (hb : bytes * m ≤ 2 ^ 48) (hm : m ≤ maxLen) (hst : St w0 L w)
    (h : ∀ u w', St w0 (pt (os e Kx) u (List.replicate m zx) :: L) w' → WpL P ops n K rest ((d, u) :: env) w') : WpL P ops n K (⟨some d, .makeSlice t y z, ty, pos, after, none⟩ :: rest) env w := by
  have hone : zv.oneCell' = true := Kx.one hzr zv (by simp)
  have hmm : m ≤ 9223372036854775807 := by simpa [maxLen] using hm
  have hrun := run_make_row' (P := P) t e zv bytes ht hi (cells_one hone) k1 k2 m hb hmm w
  refine l_val (w' := w.alloc (.cells (madeCells #[zv] m) e)) (.slice (some ⟨w.heap.size, 0, none⟩) m m) hd (fun a hf => ?_) (h _ _ ?_)
  · simp only [execOp, hf.eval hy, hf.eval hz, Sem.run_bind, hrun, Result.andThen_ok, Sem.run_pure]
  · have hmade : ∀ i, i < m → (madeCells #[zv] m)[i]? = some zv := by
      intro i hi
      simp [madeCells, hi, Nat.mod_one]
    have hsz : (madeCells #[zv] m).size = m := by simp [madeCells]
    have hst2 := hst.alloc (.cells (madeCells #[zv] m) e)
    obtain ⟨I, g, dd, aa, c, h1, h2, d2, s1, s2, r, l⟩ := hst2.mem
    refine ⟨hst2.b1, hst2.b2, hst2.b3, I, g, dd, aa, c, h1, h2, d2, s1, s2, ?_, l⟩
    refine .inr ⟨w.heap.size, m, madeCells #[zv] m, PH.empty, by simp, r, rfl, PH.empty_sub _, by simp, hm, by rw [hsz, hs, Nat.mul_one], ?_⟩
    exact elems_replicate hs hzr m 0 _ fun i hi => by
      have := hmade i hi
      simpa using this
end Go.Proofs.Fw
namespace Go.Proofs.Fw
variable {P : Program} {n : Nat} {env : Env} {a : Act} {w w' : World} {ops : Array Oper} {K : Env → World → Prop} {rest : List Oper} {d : Nat} {ty : TypeId} {pos : String} {after : Array Edge}
variable {w0 : World} {L L' : List Res} {α : Type} {Kx : Kd α} {e : TypeId} {v u : Value} {x : α} {xs ys : List α}

theorem take_one_eq (l : List Value) (j : Nat) : (l.drop j).take 1 = l[j]?.toList := by
  rcases Nat.lt_or_ge j l.length with h | h
  · rw [List.drop_eq_getElem_cons h, List.getElem?_eq_getElem h]; rfl
  · rw [List.drop_eq_nil_of_le h, List.getElem?_eq_none h]; rfl
theorem Elems.set {I : PH} (hs : Kx.sz = 1) : ∀ {xs : List α} {l : List Value} {h h' hv : PH} {off : Nat} (i : Nat), i < xs.length → PH.disj h hv → PH.sub h h' → PH.sub hv h' → Elems Kx I l h off xs → Kx.rep I hv [v] x → Elems Kx I (l.set (off + i) v) h' off (xs.set i x)
  | y :: xs, l, h, h', hv, off, 0, hi, dj, s, t, ⟨h1, h2, d, s1, s2, r, e⟩, rv => by
    have hl : off < l.length := by
      have := Kx.len r
      simp only [List.length_take, List.length_drop, hs] at this
      omega
    refine ⟨hv, h2, PH.disj_symm (PH.disj_symm (PH.disj_sub (PH.disj_symm dj) s2)), t, PH.sub_trans s2 s, ?_, ?_⟩
    · rw [hs, take_one_eq, Nat.add_zero, List.getElem?_set_self hl]; exact rv
    · refine Elems.congr (fun j hj => ?_) e
      rw [hs, take_one_eq, take_one_eq, List.getElem?_set_ne (by omega)]
  | y :: xs, l, h, h', hv, off, i + 1, hi, dj, s, t, ⟨h1, h2, d, s1, s2, r, e⟩, rv => by
    have d2v : PH.disj h2 hv := PH.disj_symm (PH.disj_sub (PH.disj_symm dj) s2)
    have d1v : PH.disj h1 hv := PH.disj_symm (PH.disj_sub (PH.disj_symm dj) s1)
    refine ⟨h1, PH.un h2 hv, PH.disj_un d d1v, PH.sub_trans s1 s, PH.un_sub (PH.sub_trans s2 s) t, ?_, ?_⟩
    · rw [hs, take_one_eq, List.getElem?_set_ne (by omega), ← take_one_eq, ← hs]; exact r
    · have := Elems.set (h' := PH.un h2 hv) hs i (by simpa using hi) d2v (PH.un_left _ _) (PH.un_right d2v) e rv
      rw [hs] at this ⊢
      rw [show off + (i + 1) = off + 1 + i from by omega]
      exact this
/-- A store into what is owned. -/
theorem St.os_set (h : St w0 (pt (os e Kx) u xs :: pt Kx v x :: L) w) (hs : Kx.sz = 1) {A : Option Addr} {l c : Nat} (hu : u = .slice A l c) (i : Nat) (hi : i < xs.length) :
    ∃ ad y, A = some ad ∧ w.cell? (ad.add i) = some y ∧ w.frozen? (ad.add i) = false ∧ St w0 (pt (os e Kx) u (xs.set i x) :: L) (w.setCell (ad.add i) v) := by
  obtain ⟨I, g, dg, aI, cg, h1, h2, d2, s1, s2, r, h3, h4, d3, s3, s4, rv, l'⟩ := h.mem
  rcases r with ⟨r1, r2⟩ | ⟨b, cap, cells, h', k1, k2, k3, k4, k5, k6, k7, k8⟩
  · subst r2; simp at hi
  · subst hu
    simp at k1
    obtain ⟨rfl, rfl, rfl⟩ := k1
    have hgb : g b = some (.cells cells e (0, 0)) := s1 b _ k2
    have hwb : w.heap[b]? = some (.cells cells e (0, 0)) := cg b _ hgb
    have hlt : i < cells.size := by rw [k7, hs]; omega
    have hv : v.oneCell' = true := Kx.one rv v (by simp)
    have hIb : I b = none := by
      rcases dg b with e' | e'
      · exact e'
      · rw [hgb] at e'; cases e'
    have h2b : h2 b = none := by
      rcases d2 b with e' | e'
      · rw [k2] at e'; cases e'
      · exact e'
    have hb' : PH.disj (PH.one b (.cells (cells.setIfInBounds i v) e (0, 0))) h2 := PH.one_disj h2b
    have d'3 : PH.disj h' h3 := PH.disj_sub2 d2 k4 s3
    have hn : PH.un h' h3 b = none := by
      have : h3 b = none := by
        cases hh : h3 b with
        | none => rfl
        | some o => rw [s3 b o hh] at h2b; cases h2b
      simp [PH.un, k3, this]
    have dn4 : PH.disj (PH.un h' h3) h4 := PH.un_disj (PH.disj_sub2 d2 k4 s4) d3
    have keep : ∀ {k : PH}, k b = none → PH.le k w → PH.le k (w.setCell ⟨b, i, none⟩ v) := fun {k} hk hl y o e' => by
      have hy : y ≠ b := fun e'' => by subst e''; rw [hk] at e'; cases e'
      rw [setCell_other hy]; exact hl y o e'
    have dI : PH.disj I (PH.un (PH.one b (.cells (cells.setIfInBounds i v) e (0, 0))) (PH.un (PH.un h' h3) h4)) := by
      refine PH.disj_un (PH.disj_symm (PH.one_disj hIb)) (PH.disj_un (PH.disj_un ?_ ?_) ?_)
      · exact PH.disj_sub dg (PH.sub_trans k4 s1)
      · exact PH.disj_sub dg (PH.sub_trans s3 s2)
      · exact PH.disj_sub dg (PH.sub_trans s4 s2)
    have h4b : h4 b = none := by
      cases hh : h4 b with
      | none => rfl
      | some o => rw [s4 b o hh] at h2b; cases h2b
    have dbn : PH.disj (PH.one b (.cells (cells.setIfInBounds i v) e (0, 0))) (PH.un h' h3) := PH.one_disj hn
    refine ⟨_, (cells[i]?).getD undef, rfl, ?_, ?_, ⟨h.b1, h.b2, h.b3, I, PH.un (PH.one b (.cells (cells.setIfInBounds i v) e (0, 0))) (PH.un (PH.un h' h3) h4), dI, ?_, ?_,
      PH.un (PH.one b (.cells (cells.setIfInBounds i v) e (0, 0))) (PH.un h' h3), h4, PH.un_disj (PH.one_disj h4b) dn4, ?_, ?_, ?_, l'⟩⟩
    · rw [addr_add, Nat.zero_add, cell_le (PH.le_sub cg s1) k2]
      simp [hlt]
    · rw [addr_add]
      simp [World.frozen?, hwb]
    · rw [addr_add, Nat.zero_add]; exact keep hIb aI
    · rw [addr_add, Nat.zero_add]
      intro y o e'
      unfold PH.un at e'
      split at e'
      · rename_i oo hoo
        cases e'
        unfold PH.one at hoo
        split at hoo
        · rename_i hy; subst hy; cases hoo; exact setCell_heap hwb
        · cases hoo
      · rename_i hoo
        have hy : y ≠ b := fun e'' => by subst e''; simp [PH.one] at hoo
        rw [setCell_other hy]
        have : PH.sub (PH.un (PH.un h' h3) h4) g := PH.un_sub (PH.un_sub (PH.sub_trans k4 s1) (PH.sub_trans s3 s2)) (PH.sub_trans s4 s2)
        exact cg y o (this y o e')
    · refine PH.un_sub (PH.un_left _ _) (PH.sub_trans (PH.un_left _ _) (PH.un_right ?_))
      exact PH.disj_un dbn (PH.one_disj h4b)
    · refine PH.sub_trans (PH.un_right dn4) (PH.un_right ?_)
      exact PH.disj_un dbn (PH.one_disj h4b)
    · refine .inr ⟨b, c, cells.setIfInBounds i v, PH.un h' h3, by simp, PH.un_left _ _ _ _ (PH.one_at _ _), hn, PH.un_right dbn, by simpa using k5, k6, by simpa using k7, ?_⟩
      have := Elems.set (h' := PH.un h' h3) hs i hi d'3 (PH.un_left _ _) (PH.un_right d'3) k8 rv
      simpa using this

/-! ### append -/
theorem window {A B : List Value} {N o s : Nat} (h : A.take N = B.take N) (ho : o + s ≤ N) : (A.drop o).take s = (B.drop o).take s := by
  have key : ∀ C : List Value, ((C.take N).drop o).take s = (C.drop o).take s := fun C => by
    rw [List.drop_take, List.take_take, Nat.min_eq_left (by omega)]
  rw [← key A, ← key B, h]
theorem size_fits {A : List Value} {m s : Nat} {i : Nat} (hi : i < m) : 0 + i * s + s ≤ m * s := by
  have : (i + 1) * s ≤ m * s := Nat.mul_le_mul_right s hi
  rw [Nat.add_mul, Nat.one_mul] at this
  omega
theorem elems_one {I h : PH} {l : List Value} {off : Nat} (e : Elems Kx I l h off xs) : ∀ u ∈ (l.drop off).take (xs.length * Kx.sz), u.oneCell' = true := by
  induction xs generalizing h off with
  | nil => intro u hu; simp at hu
  | cons x xs ih =>
    obtain ⟨h1, h2, d, s1, s2, r, e⟩ := e
    intro u hu
    rw [List.length_cons, Nat.add_mul, Nat.one_mul, Nat.add_comm, List.take_add] at hu
    rcases List.mem_append.1 hu with hu | hu
    · exact Kx.one r u hu
    · rw [List.drop_drop] at hu
      exact ih e u hu
/-- append(v, u...), both owned; what u's elements own goes over. -/
theorem run_append {T ty : TypeId} {i : TypeInfo} {z : Value} {bytes : Nat} (hT : P.underlying T = some (.slice e)) (hi : (P.info? e).map (fun i => (i.zero, i.size, i.bytes)) = some (some z, Kx.sz, bytes)) (hz : z.cells.size = Kx.sz) (hsz : 0 < Kx.sz)
    (h : St w0 (pt (os e Kx) v xs :: pt (os e Kx) u ys :: L) w) (hb : (xs.length + ys.length) * bytes ≤ 140737488355328) (hm : xs.length + ys.length ≤ maxLen) :
    ∃ v' w', (Builtin.append_ #[T, T] ty #[v, u]).run P w = .ok v' w' ∧ St w0 (pt (os e Kx) v' (xs ++ ys) :: L) w' := by
  obtain ⟨I, g, dg, aI, cg, h1, h2, d2, s1, s2, r, h3, h4, d3, s3, s4, ru, l'⟩ := h.mem
  obtain ⟨i0, hi0, hzz⟩ := Option.map_eq_some_iff.1 hi
  simp only [Prod.mk.injEq] at hzz
  obtain ⟨hz0, hz1, hz2⟩ := hzz
  rcases ru with ⟨u1, u2⟩ | ⟨ub, ucap, ucells, uh, u1, u2, u3, u4, u5, u6, u7, u8⟩
  · -- nothing is appended
    simp at u1
    subst u1 u2
    refine ⟨v, w, ?_, ?_⟩
    · obtain ⟨A, c, hv, hc, _⟩ := h.os_form
      subst hv
      cases A with
      | none => simp [Builtin.append_, run_underlying hT, sizeOf, typeInfo, hi0, Builtin.lenOf, hc, Builtin.firstCells]
      | some ad => simp [Builtin.append_, run_underlying hT, sizeOf, typeInfo, hi0, Builtin.lenOf, hc, Builtin.firstCells, storeCells]
    · rw [List.append_nil]
      exact (h.perm (List.Perm.swap _ _ _)).drop
  · simp at u1
    subst u1
    have hgu : g ub = some (.cells ucells e (0, 0)) := s2 _ _ (s3 _ _ u2)
    have hwu := cg _ _ hgu
    have hufit : ys.length * Kx.sz ≤ ucells.size := by rw [u7]; exact Nat.mul_le_mul_right _ u5
    -- what is appended
    obtain ⟨news, hnews⟩ : ∃ l, l = ucells.toList.take (ys.length * Kx.sz) := ⟨_, rfl⟩
    have hnl : news.length = ys.length * Kx.sz := by have hl : ucells.toList.length = ucells.size := Array.length_toList; rw [hnews, List.length_take, hl]; omega
    have hncell : ∀ j y, news[j]? = some y → w.cell? ((⟨ub, 0, none⟩ : Addr).add j) = some y := by
      intro j y hy
      rw [addr_add, Nat.zero_add, cell_le cg hgu]
      rw [hnews, List.getElem?_take] at hy
      split at hy
      · simpa using hy
      · cases hy
    have hn1 : ∀ y ∈ news, y.oneCell' = true := by
      have := elems_one u8
      rw [List.drop_zero, ← hnews] at this
      exact this
    -- what it is appended to
    have hv0 : ∃ cv hv', w.ownsRow 0 e Kx.sz v xs.length cv ∧ PH.sub hv' h1 ∧ (∀ b, v.ownBlock = some b → hv' b = none ∧ h1 b = w.heap[b]? ∧ (h1 b).isSome) ∧
        (∀ l : List Value, l.take (xs.length * Kx.sz) = cv → Elems Kx I l hv' 0 xs) ∧ cv.length = xs.length * Kx.sz := by
      rcases r with ⟨r1, r2⟩ | ⟨b, cap, cells, h', k1, k2, k3, k4, k5, k6, k7, k8⟩
      · simp at r1
        subst r1 r2
        exact ⟨[], PH.empty, World.ownsRow_nil w 0 e Kx.sz, PH.empty_sub _, fun b hb => by simp [Value.ownBlock] at hb, fun _ _ => trivial, by simp⟩
      · simp at k1
        subst k1
        have hgb : g b = some (.cells cells e (0, 0)) := s1 _ _ k2
        have hwb := cg _ _ hgb
        have hfit : xs.length * Kx.sz ≤ cells.size := by rw [k7]; exact Nat.mul_le_mul_right _ k5
        refine ⟨cells.toList.take (xs.length * Kx.sz), h', ⟨by have hl : cells.toList.length = cells.size := Array.length_toList; rw [List.length_take, hl]; omega, .inr ⟨b, cap, cells, rfl, Nat.zero_le _, hwb, k5, k6, k7, rfl⟩⟩, k4, ?_, ?_, by have hl : cells.toList.length = cells.size := Array.length_toList; rw [List.length_take, hl]; omega⟩
        · intro c hc
          simp [Value.ownBlock] at hc
          subst hc
          exact ⟨k3, by rw [k2, hwb], by rw [k2]; rfl⟩
        · intro l hl
          exact Elems.congr (fun i hi => window hl.symm (size_fits (A := l) hi)) k8
    obtain ⟨cv, hv', hown, hvs, hvb, hvE, hcvl⟩ := hv0
    obtain ⟨v', w', hrun, hown', hgr, _, hat⟩ := run_append_own_at (P := P) w 0 T ty e i0 z Kx.sz bytes hT hi0 hz0 hz1 hz2 hz hsz v xs.length cv hown ⟨ub, 0, none⟩ ys.length ucap news hnl hncell hn1 hm hb (Nat.zero_le _)
    refine ⟨v', w', hrun, ?_⟩
    have hIw : ∀ b, I b ≠ none → b < w.heap.size := fun b hb => by
      cases hI : I b with
      | none => exact absurd hI hb
      | some o => exact (Array.getElem?_eq_some_iff.1 (aI b o hI)).1
    have hgw : ∀ b, g b ≠ none → b < w.heap.size := fun b hb => by
      cases hI : g b with
      | none => exact absurd hI hb
      | some o => exact (Array.getElem?_eq_some_iff.1 (cg b o hI)).1
    -- a part of the heap that does not hold v's block lives on
    have keep : ∀ {k : PH}, PH.le k w → (∀ b, v.ownBlock = some b → k b = none) → PH.le k w' := fun {k} hk hne b o hb => by
      have hwb := hk b o hb
      rw [hgr.block b (Array.getElem?_eq_some_iff.1 hwb).1 (fun e' => by rw [hne b e'.symm] at hb; cases hb)]
      exact hwb
    have hIv : ∀ b, v.ownBlock = some b → I b = none := fun b hb => by
      obtain ⟨_, _, hsome⟩ := hvb b hb
      rcases dg b with e' | e'
      · exact e'
      · cases hh : h1 b with
        | none => rw [hh] at hsome; cases hsome
        | some o => rw [s1 b o hh] at e'; cases e'
    have h2v : ∀ b, v.ownBlock = some b → h2 b = none := fun b hb => by
      obtain ⟨_, _, hsome⟩ := hvb b hb
      rcases d2 b with e' | e'
      · rw [e'] at hsome; cases hsome
      · exact e'
    have dvu : PH.disj hv' uh := PH.disj_sub2 d2 hvs (PH.sub_trans u4 s3)
    have dE4 : PH.disj (PH.un hv' uh) h4 := PH.un_disj (PH.disj_sub2 d2 hvs s4) (PH.disj_symm (PH.disj_sub (PH.disj_symm d3) u4))
    rcases hown'.2 with ⟨e1, e2⟩ | ⟨nb, ncap, cur, e1, _, hcur, hn2, hn3, hn4, hn5⟩
    · -- nothing at all
      have x0 : xs = [] := List.eq_nil_of_length_eq_zero (by omega)
      have y0 : ys = [] := List.eq_nil_of_length_eq_zero (by omega)
      subst x0 y0 e1
      refine ⟨(hgr.os).trans h.b1, (hgr.tape).trans h.b2, (hgr.output).trans h.b3, I, h4, PH.disj_sub dg (PH.sub_trans s4 s2), keep aI hIv, keep (PH.le_sub cg (PH.sub_trans s4 s2)) (fun b hb => ?_), PH.empty, h4, PH.empty_disj _, PH.empty_sub _, PH.sub_refl _, .inl ⟨rfl, rfl⟩, l'⟩
      cases hh : h4 b with
      | none => rfl
      | some o => have := h2v b hb; rw [s4 b o hh] at this; cases this
    · subst e1
      have hnb : nb = w.heap.size ∨ v.ownBlock = some nb := by
        rcases hat with hat | hat
        · exact .inr (by rw [← hat]; rfl)
        · exact .inl (by simpa [Value.ownBlock] using hat)
      have away : ∀ {k : PH}, PH.le k w → (∀ b, v.ownBlock = some b → k b = none) → k nb = none := fun {k} hk hne => by
        rcases hnb with hnb | hnb
        · subst hnb
          cases hh : k w.heap.size with
          | none => rfl
          | some o => have := hk _ _ hh; simp at this
        · exact hne nb hnb
      have hle4 : PH.le h4 w := PH.le_sub cg (PH.sub_trans s4 s2)
      have h4v : ∀ b, v.ownBlock = some b → h4 b = none := fun b hb => by
        cases hh : h4 b with
        | none => rfl
        | some o => have := h2v b hb; rw [s4 b o hh] at this; cases this
      have hleU : PH.le uh w := PH.le_sub cg (PH.sub_trans (PH.sub_trans u4 s3) s2)
      have hUv : ∀ b, v.ownBlock = some b → uh b = none := fun b hb => by
        cases hh : uh b with
        | none => rfl
        | some o => have := h2v b hb; rw [s3 b o (u4 b o hh)] at this; cases this
      have hleV : PH.le hv' w := PH.le_sub cg (PH.sub_trans hvs s1)
      have hVv : ∀ b, v.ownBlock = some b → hv' b = none := fun b hb => (hvb b hb).1
      have hE : PH.un hv' uh nb = none := by simp [PH.un, away hleV hVv, away hleU hUv]
      have h4n : h4 nb = none := away hle4 h4v
      have hIn : I nb = none := away aI hIv
      have dN : PH.disj (PH.one nb (.cells cur e (0, 0))) (PH.un hv' uh) := PH.one_disj hE
      have dN4 : PH.disj (PH.un (PH.one nb (.cells cur e (0, 0))) (PH.un hv' uh)) h4 := PH.un_disj (PH.one_disj h4n) dE4
      have dIE : PH.disj I (PH.un hv' uh) := PH.disj_un (PH.disj_sub dg (PH.sub_trans hvs s1)) (PH.disj_sub dg (PH.sub_trans (PH.sub_trans u4 s3) s2))
      refine ⟨(hgr.os).trans h.b1, (hgr.tape).trans h.b2, (hgr.output).trans h.b3, I, PH.un (PH.un (PH.one nb (.cells cur e (0, 0))) (PH.un hv' uh)) h4,
        PH.disj_un (PH.disj_un (PH.disj_symm (PH.one_disj hIn)) dIE) (PH.disj_sub dg (PH.sub_trans s4 s2)), keep aI hIv, ?_,
        PH.un (PH.one nb (.cells cur e (0, 0))) (PH.un hv' uh), h4, dN4, PH.un_left _ _, PH.un_right dN4, ?_, l'⟩
      · have big : PH.le (PH.un (PH.un hv' uh) h4) w' := by
          have : PH.le (PH.un (PH.un hv' uh) h4) w := PH.le_sub cg (PH.un_sub (PH.un_sub (PH.sub_trans hvs s1) (PH.sub_trans (PH.sub_trans u4 s3) s2)) (PH.sub_trans s4 s2))
          exact keep this (fun b hb => by simp [PH.un, hVv b hb, hUv b hb, h4v b hb])
        intro b o hb
        unfold PH.un at hb
        cases ho : PH.one nb (.cells cur e (0, 0)) b with
        | some o' =>
          simp only [ho] at hb
          cases hb
          unfold PH.one at ho
          split at ho
          · rename_i hy; subst hy; cases ho; exact hcur
          · cases ho
        | none =>
          simp only [ho] at hb
          exact big b o (by unfold PH.un; exact hb)
      · refine .inr ⟨nb, ncap, cur, PH.un hv' uh, by simp, PH.un_left _ _ _ _ (PH.one_at _ _), hE, PH.un_right dN, by simpa using hn2, hn3, hn4, ?_⟩
        have hx : cur.toList.take (xs.length * Kx.sz) = cv := by
          have := congrArg (List.take (xs.length * Kx.sz)) hn5
          rw [List.take_take, Nat.min_eq_left (Nat.mul_le_mul_right _ (by omega)), List.take_left' hcvl] at this
          exact this
        have hy : (cur.toList.drop (xs.length * Kx.sz)).take (ys.length * Kx.sz) = ucells.toList.take (ys.length * Kx.sz) := by
          have := congrArg (List.drop (xs.length * Kx.sz)) hn5
          rw [List.drop_left' hcvl, List.drop_take, hnews] at this
          rw [show (xs.length + ys.length) * Kx.sz - xs.length * Kx.sz = ys.length * Kx.sz from by rw [Nat.add_mul]; omega] at this
          exact this
        refine Elems.append dvu (PH.un_left _ _) (PH.un_right dvu) (hvE _ hx) (Elems.congr (fun i hi => ?_) u8)
        have h1 := window (o := 0 + i * Kx.sz) (s := Kx.sz) hy (size_fits (A := cur.toList) hi)
        rw [List.drop_drop, Nat.zero_add] at h1
        rw [Nat.zero_add, Nat.zero_add, h1]
theorem l_append {s t : Operand} {T : TypeId} {z : Value} {bytes : Nat} (hd : Nat.ble (d + 1) n = true) (hT : P.underlying T = some (.slice e)) (hi : (P.info? e).map (fun i => (i.zero, i.size, i.bytes)) = some (some z, Kx.sz, bytes)) (hz : z.cells.size = Kx.sz) (hsz : 0 < Kx.sz)
    (hs : ev env s = some v) (ht : ev env t = some u) (h : St w0 (pt (os e Kx) v xs :: pt (os e Kx) u ys :: L) w) (hb : (xs.length + ys.length) * bytes ≤ 140737488355328) (hm : xs.length + ys.length ≤ maxLen)
    (k : ∀ v' w', St w0 (pt (os e Kx) v' (xs ++ ys) :: L) w' → WpL P ops n K rest ((d, v') :: env) w') :
    WpL P ops n K (⟨some d, .call { callee := .builtin .append, args := #[s, t], argTypes := #[T, T] }, ty, pos, after, none⟩ :: rest) env w := by
  obtain ⟨v', w', hrun, hst⟩ := run_append (P := P) (ty := ty) (i := default) hT hi hz hsz h hb hm
  refine l_val v' hd (fun a hf => ?_) (k v' w' hst)
  simp only [execOp, resolve, invoke, builtin, Sem.run_bind, Sem.run_pure, Result.andThen_ok, List.map_toArray, List.map_cons, List.map_nil, hf.eval hs, hf.eval ht, hrun]

/-! ### calls -/
def evs (env : Env) : List Operand → Option (List Value)
  | [] => some []
  | x :: r => match ev env x with
    | none => none
    | some v => (evs env r).map (v :: ·)
theorem Fits.evals (h : Fits n env a) : ∀ {l : List Operand} {vs : List Value}, evs env l = some vs → l.map a.eval = vs
  | [], vs, hv => by simp [evs] at hv; subst hv; rfl
  | x :: r, vs, hv => by
    unfold evs at hv
    cases hx : ev env x with
    | none => simp [hx] at hv
    | some v =>
      simp only [hx] at hv
      obtain ⟨us, hu, rfl⟩ := Option.map_eq_some_iff.1 hv
      rw [List.map_cons, h.eval hx, h.evals hu]
theorem run_call {f : FuncId} {fn : Func} {ρ : Operand → Value} {args : List Operand} {ts : Array TypeId} {vs : List Value} {dst : Option Nat} {cal : Operand} (hf : P.funcs[f]? = some fn) (hb : fn.body.isSome = true) (hn : (fn.name == "runtime.NumGoroutine") = false)
    {caps : List Value} (hcal : ρ cal = .func (.func f) #[] caps.toArray) (hargs : args.map ρ = vs) :
    (execOp ρ ⟨dst, .call { callee := .value cal, args := args.toArray, argTypes := ts }, ty, pos, after, none⟩).run P w = .ok (.enter f (vs ++ caps).toArray) w := by
  have hn' : ¬ fn.name = "runtime.NumGoroutine" := by simpa using hn
  have hb' : ¬ fn.body = none := by intro h; rw [h] at hb; cases hb
  simp [execOp, resolve, hcal, Deferred.ofValue, invoke, callFunc, Sem.run_bind, Sem.run_pure, Result.andThen_ok, program, Sem.run, hf, hn', hb', hargs]
/-- A call of a function of the program, by its name or by a value that bears what it caught. -/
theorem l_callv {f : FuncId} {fn : Func} {args : List Operand} {ts : Array TypeId} {vs caps : List Value} {R : Ending → World → Prop} {cal : Operand} (hd : Nat.ble (d + 1) n = true) (hf : P.funcs[f]? = some fn) (hb : fn.body.isSome = true) (hn : (fn.name == "runtime.NumGoroutine") = false)
    (hcal : ev env cal = some (.func (.func f) #[] caps.toArray)) (hargs : evs env args = some vs) (hc : Calls P f (vs ++ caps).toArray w R) (k : ∀ e w', R e w' → ∃ v, e = .returned v ∧ WpL P ops n K rest ((d, v) :: env) w') :
    WpL P ops n K (⟨some d, .call { callee := .value cal, args := args.toArray, argTypes := ts }, ty, pos, after, none⟩ :: rest) env w := by
  refine ⟨fun Q a hfit hQ => ?_⟩
  refine wpList_plain rfl fun KK hK => ?_
  unfold Oper.wp
  rw [run_call hf hb hn (hfit.eval hcal) (hfit.evals hargs)]
  refine hc.mono fun e w' hR => ?_
  obtain ⟨v, rfl, hw⟩ := k e w' hR
  exact hK _ _ (hw.go Q _ (hfit.put hd v) hQ)
theorem l_call {f : FuncId} {fn : Func} {args : List Operand} {ts : Array TypeId} {vs : List Value} {R : Ending → World → Prop} (hd : Nat.ble (d + 1) n = true) (hf : P.funcs[f]? = some fn) (hb : fn.body.isSome = true) (hn : (fn.name == "runtime.NumGoroutine") = false)
    (hargs : evs env args = some vs) (hc : Calls P f vs.toArray w R) (k : ∀ e w', R e w' → ∃ v, e = .returned v ∧ WpL P ops n K rest ((d, v) :: env) w') :
    WpL P ops n K (⟨some d, .call { callee := .value (.func f), args := args.toArray, argTypes := ts }, ty, pos, after, none⟩ :: rest) env w :=
  l_callv (caps := []) hd hf hb hn rfl hargs (by rw [List.append_nil]; exact hc) k
end Go.Proofs.Fw
namespace Go.Proofs.Fw
variable {P : Program} {ops : Array Oper} {Q : Exit → Act → World → Prop} {md : Region.Mode} {C : World → Prop} {flag : Nat → Bool}

/-- Whatever order is picked from here on; an operation that bears the flag leaves C true. -/
def wpG (P : Program) (md : Region.Mode) (ops : Array Oper) (Q : Exit → Act → World → Prop) (C : World → Prop) (flag : Nat → Bool) : Nat → Array Bool → Act → World → Prop
  | 0, listed, a, w => Region.ready md ops listed = [] ∧ Q .normal a w
  | fuel + 1, listed, a, w =>
    (Region.ready md ops listed = [] → Q .normal a w) ∧
    ∀ i ∈ Region.ready md ops listed, wpOp P ops Q i (fun a' w' => (flag i = true → C w → C w') ∧ wpG P md ops Q C flag fuel (listed.setIfInBounds i true) a' w') a w
theorem wpAny_of_wpG : ∀ (fuel : Nat) (listed : Array Bool) (a : Act) (w : World), wpG P md ops Q C flag fuel listed a w → wpAny P md ops Q fuel listed a w
  | 0, _, _, _, h => h
  | fuel + 1, _, _, _, h => ⟨h.1, fun i hi => wpOp_mono (fun a' w' h' => wpAny_of_wpG fuel _ a' w' h'.2) (h.2 i hi)⟩
/-- Those in W can't come up before i does. -/
def Waits (md : Region.Mode) (ops : Array Oper) (i : Nat) (W : List Nat) : Prop :=
  ∀ j ∈ W, ∃ oj e, ops[j]? = some oj ∧ e ∈ oj.after ∧ Region.binds md e = true ∧ (e.on = i ∨ e.on ∈ W)
theorem getD_false_of {listed : Array Bool} {j : Nat} (h : listed.getD j true = false) : listed.getD j false = false := by
  rcases Nat.lt_or_ge j listed.size with h' | h'
  · simp [h'] at h ⊢; exact h
  · simp [Array.getElem?_eq_none h'] at h
theorem wpG_first {i : Nat} {oi : Oper} {v : Value} {W : List Nat} (hi : ops[i]? = some oi) (hsel : ∀ (j : Nat) (o : Oper) cs b, ops[j]? = some o → o.op ≠ .select cs b)
    (hQ : ∀ c a w, Q (.panic c) (a.put oi.dst v) w → Q (.panic c) a w) (hW : Waits md ops i W) :
    ∀ (fuel : Nat) (listed : Array Bool) (a : Act) (w : World),
      (∀ j oj, ops[j]? = some oj → j ≠ i → listed.getD j true = false → (∀ e ∈ oj.after, Region.binds md e = true → e.on ≠ i) → oi.apart ops oj = true) →
      (∀ j ∈ W, listed.getD j true = false) → (∀ j, j ≠ i → j ∉ W → listed.getD j true = false → flag j = true) →
      i ∈ Region.ready md ops listed → YieldsIf P ops C oi v a → C w →
      wpG P md ops Q C flag fuel (listed.setIfInBounds i true) (a.put oi.dst v) w → wpG P md ops Q C flag (fuel + 1) listed a w := by
  intro fuel
  induction fuel with
  | zero =>
    intro listed a w _ _ _ hr hy hC H
    refine ⟨fun h => (by rw [h] at hr; cases hr), fun j hj => ?_⟩
    by_cases hji : j = i
    · subst hji; exact hy.wpOp hi hC ⟨fun _ h => h, H⟩
    · have := ready_mono hj hji
      rw [H.1] at this
      cases this
  | succ fuel ih =>
    intro listed a w hfree hWu hfl hr hy hC H
    refine ⟨fun h => (by rw [h] at hr; cases hr), fun j hj => ?_⟩
    by_cases hji : j = i
    · subst hji; exact hy.wpOp hi hC ⟨fun _ h => h, H⟩
    · have h1 := H.2 j (ready_mono hj hji)
      obtain ⟨hjun, oj, hoj, hall⟩ := mem_ready.1 hj
      have hiun := (mem_ready.1 hr).1
      have hnot : ∀ e ∈ oj.after, Region.binds md e = true → e.on ≠ i := fun e he hb heq => by
        have h1 := hall e he hb
        rw [heq, getD_false_of hiun] at h1
        cases h1
      have hjW : j ∉ W := fun hjW => by
        obtain ⟨oj', e, hoj', he, hb, hon⟩ := hW j hjW
        rw [hoj] at hoj'
        cases hoj'
        have h1 := hall e he hb
        rcases hon with hon | hon
        · rw [hon, getD_false_of hiun] at h1; cases h1
        · rw [getD_false_of (hWu _ hon)] at h1; cases h1
      have hflag := hfl j hji hjW hjun
      have h2 := wpOp_putIf hoj (hfree j oj hoj hji hjun hnot) (fun cs b => hsel i oi cs b hi) (fun cs b => hsel j oj cs b hoj) hQ hy h1
      have back : ∀ k, (listed.setIfInBounds j true).getD k true = false → listed.getD k true = false := fun k hun => by
        by_cases hjk : j = k
        · subst hjk; exact hjun
        · rw [getD_set_ne true hjk] at hun; exact hun
      refine wpOp_mono (fun a' w' h3 => ⟨h3.2.1, ih (listed.setIfInBounds j true) a' w' (fun k ok hk hki hun hno => hfree k ok hk hki (back k hun) hno) (fun k hk => ?_) (fun k hki hkW hun => hfl k hki hkW (back k hun)) (ready_mono hr (Ne.symm hji)) h3.1 (h3.2.1 hflag hC) ?_⟩) h2
      · rw [getD_set_ne true (fun e => by subst e; exact hjW hk)]
        exact hWu k hk
      · rw [Array.setIfInBounds_comm _ _ hji]
        exact h3.2.2

theorem YieldsIf.weak {C C' : World → Prop} {o : Oper} {v : Value} {a : Act} (h : YieldsIf P ops C o v a) (k : ∀ w, C' w → C w) : YieldsIf P ops C' o v a :=
  h.imp (fun ⟨h1, h2⟩ => ⟨h1, fun w hw => h2 w (k w hw)⟩) id
theorem wpG_first0 {i : Nat} {oi : Oper} {v : Value} (hi : ops[i]? = some oi) (hsel : ∀ (j : Nat) (o : Oper) cs b, ops[j]? = some o → o.op ≠ .select cs b)
    (hQ : ∀ c a w, Q (.panic c) (a.put oi.dst v) w → Q (.panic c) a w) :
    ∀ (fuel : Nat) (listed : Array Bool) (a : Act) (w : World),
      (∀ j oj, ops[j]? = some oj → j ≠ i → listed.getD j true = false → (∀ e ∈ oj.after, Region.binds md e = true → e.on ≠ i) → oi.apart ops oj = true) →
      i ∈ Region.ready md ops listed → YieldsIf P ops (fun _ => True) oi v a →
      wpG P md ops Q C flag fuel (listed.setIfInBounds i true) (a.put oi.dst v) w → wpG P md ops Q C flag (fuel + 1) listed a w := by
  intro fuel
  induction fuel with
  | zero =>
    intro listed a w _ hr hy H
    refine ⟨fun h => (by rw [h] at hr; cases hr), fun j hj => ?_⟩
    by_cases hji : j = i
    · subst hji; exact hy.wpOp hi trivial ⟨fun _ h => h, H⟩
    · have := ready_mono hj hji
      rw [H.1] at this
      cases this
  | succ fuel ih =>
    intro listed a w hfree hr hy H
    refine ⟨fun h => (by rw [h] at hr; cases hr), fun j hj => ?_⟩
    by_cases hji : j = i
    · subst hji; exact hy.wpOp hi trivial ⟨fun _ h => h, H⟩
    · have h1 := H.2 j (ready_mono hj hji)
      obtain ⟨hjun, oj, hoj, hall⟩ := mem_ready.1 hj
      have hiun := (mem_ready.1 hr).1
      have hnot : ∀ e ∈ oj.after, Region.binds md e = true → e.on ≠ i := fun e he hb heq => by
        have h1 := hall e he hb
        rw [heq, getD_false_of hiun] at h1
        cases h1
      have h2 := wpOp_putIf hoj (hfree j oj hoj hji hjun hnot) (fun cs b => hsel i oi cs b hi) (fun cs b => hsel j oj cs b hoj) hQ hy h1
      have back : ∀ k, (listed.setIfInBounds j true).getD k true = false → listed.getD k true = false := fun k hun => by
        by_cases hjk : j = k
        · subst hjk; exact hjun
        · rw [getD_set_ne true hjk] at hun; exact hun
      refine wpOp_mono (fun a' w' h3 => ⟨h3.2.1, ih (listed.setIfInBounds j true) a' w' (fun k ok hk hki hun hno => hfree k ok hk hki (back k hun) hno) (ready_mono hr (Ne.symm hji)) h3.1 ?_⟩) h2
      rw [Array.setIfInBounds_comm _ _ hji]
      exact h3.2.2

/-- A step of the order: an operation that only yields (with those that can't come up before it), or one that is the only one that may come up. -/
inductive Step where
  | p (i : Nat) (W : List Nat)
  | q (i : Nat) (W : List Nat)
  | x (i : Nat)
  | s (is : List Nat)
  | g (is : List Nat) (pre : Nat → List Nat)
def waitsB (md : Region.Mode) (ops : Array Oper) (i : Nat) (W : List Nat) : Bool :=
  W.all fun j => match ops[j]? with
    | some oj => oj.after.any fun e => Region.binds md e && (e.on == i || W.contains e.on)
    | none => false
theorem waits_of {i : Nat} {W : List Nat} (h : waitsB md ops i W = true) : Waits md ops i W := by
  intro j hj
  have := List.all_eq_true.1 h j hj
  cases ho : ops[j]? with
  | none => rw [ho] at this; cases this
  | some oj =>
    rw [ho] at this
    simp only [] at this
    obtain ⟨e, he, h2⟩ := Array.any_eq_true'.1 this
    simp only [Bool.and_eq_true, Bool.or_eq_true, beq_iff_eq, List.contains_iff_mem] at h2
    exact ⟨oj, e, rfl, he, h2.1, h2.2⟩
/-- Several that may come up in whatever order. -/
def ordS (md : Region.Mode) (ops : Array Oper) (next : Array Bool → Bool) : Nat → List Nat → Array Bool → Bool
  | 0, is, listed => is.isEmpty && next listed
  | f + 1, is, listed => match is.isEmpty with
    | true => next listed
    | false => Region.ready md ops listed == is && is.all fun i => ordS md ops next f (is.erase i) (listed.setIfInBounds i true)
def wpS (P : Program) (ops : Array Oper) (Q : Exit → Act → World → Prop) (C : World → Prop) (flag : Nat → Bool) (K : Act → World → Prop) : Nat → List Nat → Act → World → Prop
  | 0, is, a, w => is = [] → K a w
  | f + 1, is, a, w => (is = [] → K a w) ∧ ∀ i ∈ is, wpOp P ops Q i (fun a' w' => (flag i = true → C w → C w') ∧ wpS P ops Q C flag K f (is.erase i) a' w') a w
/-- Several that may come up in whatever order, but that some wait for others. -/
def ordG (md : Region.Mode) (ops : Array Oper) (pre : Nat → List Nat) (next : Array Bool → Bool) : Nat → List Nat → Array Bool → Bool
  | 0, is, listed => is.isEmpty && next listed
  | f + 1, is, listed => match is.isEmpty with
    | true => next listed
    | false => !(Region.ready md ops listed).isEmpty && (Region.ready md ops listed).all fun i => is.contains i && ((pre i).all fun q => !is.contains q) && ordG md ops pre next f (is.erase i) (listed.setIfInBounds i true)
def wpT (P : Program) (ops : Array Oper) (Q : Exit → Act → World → Prop) (C : World → Prop) (flag : Nat → Bool) (pre : Nat → List Nat) (K : Act → World → Prop) : Nat → List Nat → Act → World → Prop
  | 0, is, a, w => is = [] → K a w
  | f + 1, is, a, w => (is = [] → K a w) ∧ ∀ i ∈ is, (∀ q ∈ pre i, q ∉ is) → wpOp P ops Q i (fun a' w' => (flag i = true → C w → C w') ∧ wpT P ops Q C flag pre K f (is.erase i) a' w') a w
/-- Is the order one that serves? -/
def ordB (md : Region.Mode) (ops : Array Oper) (flag : Nat → Bool) : List Step → Array Bool → Bool
  | [], listed => Region.ready md ops listed == []
  | .q i W :: r, listed => (Region.ready md ops listed).contains i && Region.free md ops listed i && waitsB md ops i W && (W.all fun j => !(listed.getD j true)) &&
      ((List.range ops.size).all fun j => j == i || W.contains j || listed.getD j true || flag j) && ordB md ops flag r (listed.setIfInBounds i true)
  | .p i W :: r, listed => (Region.ready md ops listed).contains i && Region.free md ops listed i && ordB md ops flag r (listed.setIfInBounds i true)
  | .x i :: r, listed => Region.ready md ops listed == [i] && ordB md ops flag r (listed.setIfInBounds i true)
  | .s is :: r, listed => ordS md ops (ordB md ops flag r) is.length is listed
  | .g is pre :: r, listed => ordG md ops pre (ordB md ops flag r) is.length is listed
def steps : List Step → Nat
  | [] => 0
  | .s is :: r => is.length + steps r
  | .g is _ :: r => is.length + steps r
  | .x _ :: r => 1 + steps r
  | .p _ _ :: r => 1 + steps r
  | .q _ _ :: r => 1 + steps r
/-- The walk along the order. -/
def wpD (P : Program) (ops : Array Oper) (Q : Exit → Act → World → Prop) (C : World → Prop) (flag : Nat → Bool) : List Step → Act → World → Prop
  | [], a, w => Q .normal a w
  | .q i _ :: r, a, w => C w ∧ ∃ o v, ops[i]? = some o ∧ YieldsIf P ops C o v a ∧ wpD P ops Q C flag r (a.put o.dst v) w
  | .p i _ :: r, a, w => ∃ o v, ops[i]? = some o ∧ YieldsIf P ops (fun _ => True) o v a ∧ wpD P ops Q C flag r (a.put o.dst v) w
  | .x i :: r, a, w => wpOp P ops Q i (fun a' w' => (flag i = true → C w → C w') ∧ wpD P ops Q C flag r a' w') a w
  | .s is :: r, a, w => wpS P ops Q C flag (wpD P ops Q C flag r) is.length is a w
  | .g is pre :: r, a, w => wpT P ops Q C flag pre (wpD P ops Q C flag r) is.length is a w
def quietQ (Q : Exit → Act → World → Prop) : Exit → Act → World → Prop
  | .normal, a, w => Q .normal a w
  | _, _, _ => False
theorem wpG_of_wpS {next : Array Bool → Bool} {K : Act → World → Prop} : ∀ (f : Nat) (is : List Nat) (m fuel : Nat) (listed : Array Bool) (a : Act) (w : World), is.length ≤ f → listed.size = ops.size → is.length + m ≤ fuel → ordS md ops next f is listed = true → wpS P ops Q C flag K f is a w →
    (∀ fuel listed a w, listed.size = ops.size → m ≤ fuel → next listed = true → K a w → wpG P md ops Q C flag fuel listed a w) → wpG P md ops Q C flag fuel listed a w
  | 0, is, m, fuel, listed, a, w, hl, hz, hf, hB, h, hk => by
    have : is = [] := List.length_eq_zero_iff.1 (by omega)
    subst this
    simp only [ordS, List.isEmpty_nil, Bool.true_and] at hB
    exact hk _ _ _ _ hz (by simpa using hf) hB (h rfl)
  | f + 1, [], m, fuel, listed, a, w, hl, hz, hf, hB, h, hk => by
    simp only [ordS, List.isEmpty_nil] at hB
    exact hk _ _ _ _ hz (by simpa using hf) hB (h.1 rfl)
  | f + 1, i0 :: r, m, fuel, listed, a, w, hl, hz, hf, hB, h, hk => by
    simp only [ordS, List.isEmpty_cons, Bool.and_eq_true, beq_iff_eq] at hB
    obtain ⟨hr, hall⟩ := hB
    obtain ⟨fu, rfl⟩ : ∃ fu, fuel = fu + 1 := ⟨fuel - 1, by simp at hf; omega⟩
    refine ⟨fun h0 => (by rw [hr] at h0; cases h0), fun j hj => ?_⟩
    rw [hr] at hj
    have hlen : ((i0 :: r).erase j).length = r.length := by rw [List.length_erase_of_mem hj]; rfl
    refine wpOp_mono (fun a' w' h' => ⟨h'.1, wpG_of_wpS f _ m fu _ _ _ (by rw [hlen]; simpa using hl) (by simpa using hz) (by rw [hlen]; simp at hf; omega) (List.all_eq_true.1 hall j hj) h'.2 hk⟩) (h.2 j hj)
theorem wpG_of_wpT {next : Array Bool → Bool} {K : Act → World → Prop} {pre : Nat → List Nat} : ∀ (f : Nat) (is : List Nat) (m fuel : Nat) (listed : Array Bool) (a : Act) (w : World), is.length ≤ f → listed.size = ops.size → is.length + m ≤ fuel → ordG md ops pre next f is listed = true → wpT P ops Q C flag pre K f is a w →
    (∀ fuel listed a w, listed.size = ops.size → m ≤ fuel → next listed = true → K a w → wpG P md ops Q C flag fuel listed a w) → wpG P md ops Q C flag fuel listed a w
  | 0, is, m, fuel, listed, a, w, hl, hz, hf, hB, h, hk => by
    have : is = [] := List.length_eq_zero_iff.1 (by omega)
    subst this
    simp only [ordG, List.isEmpty_nil, Bool.true_and] at hB
    exact hk _ _ _ _ hz (by simpa using hf) hB (h rfl)
  | f + 1, [], m, fuel, listed, a, w, hl, hz, hf, hB, h, hk => by
    simp only [ordG, List.isEmpty_nil] at hB
    exact hk _ _ _ _ hz (by simpa using hf) hB (h.1 rfl)
  | f + 1, i0 :: r, m, fuel, listed, a, w, hl, hz, hf, hB, h, hk => by
    simp only [ordG, List.isEmpty_cons, Bool.and_eq_true] at hB
    obtain ⟨hne, hall⟩ := hB
    obtain ⟨fu, rfl⟩ : ∃ fu, fuel = fu + 1 := ⟨fuel - 1, by simp at hf; omega⟩
    refine ⟨fun h0 => (by rw [h0] at hne; simp at hne), fun j hj => ?_⟩
    have hj2 := List.all_eq_true.1 hall j hj
    simp only [Bool.and_eq_true, List.contains_iff_mem] at hj2
    obtain ⟨⟨hj3, hj4⟩, hj5⟩ := hj2
    have hlen : ((i0 :: r).erase j).length = r.length := by rw [List.length_erase_of_mem hj3]; rfl
    refine wpOp_mono (fun a' w' h' => ⟨h'.1, wpG_of_wpT f _ m fu _ _ _ (by rw [hlen]; simpa using hl) (by simpa using hz) (by rw [hlen]; simp at hf; omega) hj5 h'.2 hk⟩) (h.2 j hj3 fun q hq hq' => ?_)
    have := List.all_eq_true.1 hj4 q hq
    simp only [Bool.not_eq_true', ← Bool.not_eq_true, List.contains_iff_mem] at this
    exact this hq'
theorem wpG_of_wpD (hs : Region.noSelect ops = true) (hQ : ∀ c a w, ¬ Q (.panic c) a w) : ∀ (l : List Step) (fuel : Nat) (listed : Array Bool) (a : Act) (w : World), listed.size = ops.size → steps l ≤ fuel → ordB md ops flag l listed = true → wpD P ops Q C flag l a w → wpG P md ops Q C flag fuel listed a w
  | [], fuel, listed, a, w, hz, hf, hB, h => by
    have hr : Region.ready md ops listed = [] := by simpa [ordB] using hB
    cases fuel with
    | zero => exact ⟨hr, h⟩
    | succ f => exact ⟨fun _ => h, by rw [hr]; simp⟩
  | .q i W :: r, fuel, listed, a, w, hz, hf, hB, h => by
    obtain ⟨f, rfl⟩ : ∃ f, fuel = f + 1 := ⟨fuel - 1, by simp only [steps] at hf; omega⟩
    obtain ⟨hC, o, v, ho, hy, h⟩ := h
    simp only [ordB, Bool.and_eq_true] at hB
    obtain ⟨⟨⟨⟨⟨h1, h2⟩, h3⟩, h4⟩, h5⟩, h6⟩ := hB
    refine wpG_first ho (Region.noSelect_spec hs) (fun c a w hq => absurd hq (hQ _ _ _)) (waits_of h3) f listed a w (Region.free_spec ho h2) (fun j hj => ?_) (fun j hji hjW hun => ?_) (by simpa using h1) hy hC
      (wpG_of_wpD hs hQ r f _ _ _ (by simpa using hz) (by simp only [steps] at hf; omega) h6 h)
    · have := List.all_eq_true.1 h4 j hj
      simpa using this
    · rcases Nat.lt_or_ge j ops.size with hj | hj
      · have := List.all_eq_true.1 h5 j (List.mem_range.2 hj)
        simp only [Bool.or_eq_true, beq_iff_eq, List.contains_iff_mem] at this
        rcases this with ((h | h) | h) | h
        · exact absurd h hji
        · exact absurd h hjW
        · rw [hun] at h; cases h
        · exact h
      · rw [← hz] at hj
        simp [Array.getElem?_eq_none hj] at hun
  | .p i W :: r, fuel, listed, a, w, hz, hf, hB, h => by
    obtain ⟨f, rfl⟩ : ∃ f, fuel = f + 1 := ⟨fuel - 1, by simp only [steps] at hf; omega⟩
    obtain ⟨o, v, ho, hy, h⟩ := h
    simp only [ordB, Bool.and_eq_true] at hB
    obtain ⟨⟨h1, h2⟩, h6⟩ := hB
    have hrec := wpG_of_wpD hs hQ r f _ _ _ (by simpa using hz) (by simp only [steps] at hf; omega) h6 h
    exact wpG_first0 ho (Region.noSelect_spec hs) (fun c a w hq => absurd hq (hQ _ _ _)) f listed a w (Region.free_spec ho h2) (by simpa using h1) hy hrec
  | .x i :: r, fuel, listed, a, w, hz, hf, hB, h => by
    obtain ⟨f, rfl⟩ : ∃ f, fuel = f + 1 := ⟨fuel - 1, by simp only [steps] at hf; omega⟩
    simp only [ordB, Bool.and_eq_true, beq_iff_eq] at hB
    obtain ⟨hr, hB⟩ := hB
    refine ⟨fun h0 => (by rw [hr] at h0; cases h0), fun j hj => ?_⟩
    rw [hr] at hj
    simp only [List.mem_singleton] at hj
    subst hj
    exact wpOp_mono (fun a' w' h' => ⟨h'.1, wpG_of_wpD hs hQ r f _ _ _ (by simpa using hz) (by simp only [steps] at hf; omega) hB h'.2⟩) h
  | .s is :: r, fuel, listed, a, w, hz, hf, hB, h =>
    wpG_of_wpS is.length is (steps r) fuel listed a w (Nat.le_refl _) hz (by simpa only [steps] using hf) hB h fun fuel listed a w hz hf hB h => wpG_of_wpD hs hQ r fuel listed a w hz hf hB h
  | .g is pre :: r, fuel, listed, a, w, hz, hf, hB, h =>
    wpG_of_wpT is.length is (steps r) fuel listed a w (Nat.le_refl _) hz (by simpa only [steps] using hf) hB h fun fuel listed a w hz hf hB h => wpG_of_wpD hs hQ r fuel listed a w hz hf hB h
/-! ### over what is known of the slots -/
variable {n : Nat} {K : Env → World → Prop} {env : Env} {w : World} {l : List Oper}
structure WpD (P : Program) (ops : Array Oper) (C : World → Prop) (flag : Nat → Bool) (n : Nat) (K : Env → World → Prop) (l : List Step) (env : Env) (w : World) : Prop where
  mk :: (go : ∀ (Q : Exit → Act → World → Prop) (a : Act), Fits n env a → (∀ env' a' w', Fits n env' a' → K env' w' → Q .normal a' w') → wpD P ops Q C flag l a w)
theorem c_draw {id : Nat} {l : List Oper} {Q : Exit → Env → World → Prop} {w0 : World} {L : List Res} (hm : P.follows .mixedOrders = true) (C : World → World → Prop) (flag : Nat → Bool) (ord : List Step) (hs : Region.noSelect l.toArray = true) (hlen : Nat.ble (steps ord) l.length = true)
    (hB : ordB .any l.toArray flag ord (Array.replicate l.length false) = true) (hst : St w0 L w) (h : ∀ w1, St w0 L w1 → (∀ ad, w1.cell? ad = w.cell? ad) → WpD P l.toArray (C w1) flag n (Q .normal) ord env w1) : WpC P n Q (.region id l.toArray true) env w := by
  refine ⟨fun Q' a hf hQ => ?_⟩
  refine Code.wp_mono (Q := fun e a w => match e with | .normal => Q' .normal a w | _ => False) (fun e a w h => by cases e <;> first | exact h | exact h.elim) ?_
  refine wp_region_any hm (wpAny_of_wpG _ _ _ _ (wpG_of_wpD hs (fun c a w => fun h => h) ord _ _ _ _ (by simp) (by simpa using Nat.le_of_ble_eq_true hlen) (by simpa using hB) ((h _ hst.drew (fun _ => rfl)).go _ a hf fun env' a' w' hf' hk => hQ _ _ _ _ hf' hk)))
/-- The same, the world being told to the letter. -/
theorem c_drawE {id : Nat} {l : List Oper} {Q : Exit → Env → World → Prop} (hm : P.follows .mixedOrders = true) (flag : Nat → Bool) (ord : List Step) (hs : Region.noSelect l.toArray = true) (hlen : Nat.ble (steps ord) l.length = true)
    (hB : ordB .any l.toArray flag ord (Array.replicate l.length false) = true) (h : WpD P l.toArray (fun W => W = w.drew) flag n (Q .normal) ord env w.drew) : WpC P n Q (.region id l.toArray true) env w := by
  refine ⟨fun Q' a hf hQ => ?_⟩
  refine Code.wp_mono (Q := fun e a w => match e with | .normal => Q' .normal a w | _ => False) (fun e a w h => by cases e <;> first | exact h | exact h.elim) ?_
  refine wp_region_any hm (wpAny_of_wpG _ _ _ _ (wpG_of_wpD hs (fun c a w => fun h => h) ord _ _ _ _ (by simp) (by simpa using Nat.le_of_ble_eq_true hlen) (by simpa using hB) (h.go _ a hf fun env' a' w' hf' hk => hQ _ _ _ _ hf' hk)))
theorem d_nil (h : K env w) : WpD P ops C flag n K [] env w := ⟨fun Q a hf hQ => hQ _ _ _ hf h⟩
variable {d i : Nat} {W : List Nat} {r : List Step} {op : Op} {ty : TypeId} {pos : String} {after : Array Edge} {v : Value}
/-- An operation that only yields, whatever the world is. -/
theorem d_val (hi : ops[i]? = some ⟨some d, op, ty, pos, after, none⟩) (hd : Nat.ble (d + 1) n = true) (he : Ev P n env ⟨some d, op, ty, pos, after, none⟩ v) (h : WpD P ops C flag n K r ((d, v) :: env) w) : WpD P ops C flag n K (.p i W :: r) env w :=
  ⟨fun Q a hf hQ => ⟨_, v, hi, .inl ⟨rfl, fun w _ => he a w hf⟩, h.go Q _ (hf.put hd v) hQ⟩⟩
/-- The same, guarded by what says yes. -/
theorem d_yes {j dj : Nat} {want : Bool} (hi : ops[i]? = some ⟨some d, op, ty, pos, after, some (j, want)⟩) (hd : Nat.ble (d + 1) n = true) (hj : (ops[j]?).bind (·.dst) = some dj) (hb : lk env dj = some (.bool want))
    (he : Ev P n env ⟨some d, op, ty, pos, after, none⟩ v) (h : WpD P ops C flag n K r ((d, v) :: env) w) : WpD P ops C flag n K (.p i W :: r) env w :=
  ⟨fun Q a hf hQ => ⟨_, v, hi, .inl ⟨by simp [Region.wanted, yielded, hj, hf.at_ dj _ hb], fun w _ => he a w hf⟩, h.go Q _ (hf.put hd v) hQ⟩⟩
/-- An operation that only yields where C holds. -/
theorem d_valC (hi : ops[i]? = some ⟨some d, op, ty, pos, after, none⟩) (hd : Nat.ble (d + 1) n = true) (hC : C w) (he : ∀ a w, C w → Fits n env a → (execOp a.eval ⟨some d, op, ty, pos, after, none⟩).run P w = .ok (.value v) w) (h : WpD P ops C flag n K r ((d, v) :: env) w) : WpD P ops C flag n K (.q i W :: r) env w :=
  ⟨fun Q a hf hQ => ⟨hC, _, v, hi, .inl ⟨rfl, fun w hw => he a w hw hf⟩, h.go Q _ (hf.put hd v) hQ⟩⟩
theorem d_load1 {x : Operand} {t : TypeId} {ad : Addr} {w1 : World} (hi : ops[i]? = some ⟨some d, .load t x, ty, pos, after, none⟩) (hd : Nat.ble (d + 1) n = true) (ht : Plain P t) (hx : ev env x = some (.pointer (some ad))) (hc : w1.cell? ad = some v)
    (h : WpD P ops (fun W => W = w1) flag n K r ((d, v) :: env) w1) : WpD P ops (fun W => W = w1) flag n K (.q i W :: r) env w1 :=
  d_valC hi hd rfl (fun a w hw hf => by subst hw; simp [execOp, hf.eval hx, Instr.loadAt, Instr.sureAddr, Sem.run_bind, Sem.run_pure, Result.andThen_ok, run_load ht hc]) h
theorem d_load {x : Operand} {t : TypeId} {ad : Addr} (hi : ops[i]? = some ⟨some d, .load t x, ty, pos, after, none⟩) (hd : Nat.ble (d + 1) n = true) (hC : C w) (ht : Plain P t) (hx : ev env x = some (.pointer (some ad))) (hc : ∀ w, C w → w.cell? ad = some v)
    (h : WpD P ops C flag n K r ((d, v) :: env) w) : WpD P ops C flag n K (.q i W :: r) env w :=
  d_valC hi hd hC (fun a w hw hf => by simp [execOp, hf.eval hx, Instr.loadAt, Instr.sureAddr, Sem.run_bind, Sem.run_pure, Result.andThen_ok, run_load ht (hc w hw)]) h
/-- A guard that says no. -/
theorem d_no {j dj : Nat} {want b : Bool} (hi : ops[i]? = some ⟨some d, op, ty, pos, after, some (j, want)⟩) (hd : Nat.ble (d + 1) n = true) (hj : (ops[j]?).bind (·.dst) = some dj) (hb : lk env dj = some (.bool b)) (hne : (b == want) = false)
    (h : WpD P ops C flag n K r ((d, undef) :: env) w) : WpD P ops C flag n K (.p i W :: r) env w := by
  refine ⟨fun Q a hf hQ => ?_⟩
  have hne' : b ≠ want := by simpa using hne
  exact ⟨_, undef, hi, .inr ⟨by simp [Region.wanted, yielded, hj, hf.at_ dj _ hb, hne'], rfl⟩, h.go Q _ (hf.put hd undef) hQ⟩
theorem upon_congr {o : Oper} {a : Act} {K K' : Act → World → Prop} {Q Q' : Exit → Act → World → Prop} {r : Result Next} (hK : ∀ a w, K a w → K' a w) (hp : ∀ c a w, Q (.panic c) a w → Q' (.panic c) a w) (hl : LetsOut Q → LetsOut Q') (h : o.upon P a K Q r) : o.upon P a K' Q' r := by
  cases r with
  | ok x w =>
    cases x <;> simp only [Oper.upon] at h ⊢
    case value v => exact hK _ _ h
    case skip => exact hK _ _ h
    case defer d => exact hK _ _ h
    case enter f args =>
      refine Calls.mono h fun e w'' he => ?_
      cases e with
      | returned u => exact hK _ _ he
      | panicked c => exact hp _ _ _ he
      | outgrown => exact hl he
    case row row args => exact Rows.mono h fun u w'' he => hK _ _ he
  | halt x w =>
    cases x <;> simp only [Oper.upon] at h ⊢
    case panic v => exact hp _ _ _ h
/-- An operation that is the only one that may come up: as in a list of one. -/
theorem d_step {dst : Option Nat} (hi : ops[i]? = some ⟨dst, op, ty, pos, after, none⟩) (h : WpL P ops n (fun env w' => (flag i = true → C w → C w') ∧ WpD P ops C flag n K r env w') [⟨dst, op, ty, pos, after, none⟩] env w) : WpD P ops C flag n K (.x i :: r) env w := by
  refine ⟨fun Q a hf hQ => ?_⟩
  have := h.go (fun e a w' => match e with | .normal => (flag i = true → C w → C w') ∧ wpD P ops Q C flag r a w' | _ => Q e a w') a hf (fun env' a' w' hf' hk => ⟨hk.1, hk.2.go Q a' hf' hQ⟩)
  unfold wpD wpOp
  rw [hi]
  unfold wpList at this
  simp only [] at this ⊢
  split
  · rename_i hw
    rw [if_pos hw] at this
    rcases this with h | ⟨h1, h2⟩
    · exact .inl (upon_congr (fun a w h => h) (fun c a w h => h) (fun h => h) h)
    · exact .inr ⟨h1, h2⟩
  · rename_i hw
    exact absurd rfl hw
theorem WpD.weak {l : List Step} (small : Env) (hs : Fw.Sub env small) (h : WpD P ops C flag n K l small w) : WpD P ops C flag n K l env w := ⟨fun Q a hf hQ => h.go Q a (hf.sub hs) hQ⟩
/-- Several that may come up in whatever order: what is true behind each of them. -/
theorem d_set {is : List Nat} (J : List Nat → Env → World → Prop) (h0 : J [] env w) (hstep : ∀ D i env w, J D env w → i ∈ is → i ∉ D → ∃ o, ops[i]? = some o ∧ o.guard = none ∧ WpL P ops n (fun env' w' => (flag i = true → C w → C w') ∧ J (i :: D) env' w') [o] env w)
    (hend : ∀ D env w, J D env w → (∀ i ∈ is, i ∈ D) → WpD P ops C flag n K r env w) (hnd : is.Nodup) : WpD P ops C flag n K (.s is :: r) env w := by
  refine ⟨fun Q a hf hQ => ?_⟩
  show wpS P ops Q C flag (wpD P ops Q C flag r) is.length is a w
  have main : ∀ (f : Nat) (todo : List Nat) (D : List Nat) (env : Env) (a : Act) (w : World), Fits n env a → todo.length ≤ f → todo.Nodup → (∀ i ∈ todo, i ∈ is ∧ i ∉ D) → (∀ i ∈ is, i ∈ D ∨ i ∈ todo) → J D env w → wpS P ops Q C flag (wpD P ops Q C flag r) f todo a w := by
    intro f
    induction f with
    | zero =>
      intro todo D env a w hf hl hn h1 h2 hJ
      intro ht
      subst ht
      exact (hend D env w hJ fun i hi => (h2 i hi).resolve_right (by simp)).go Q a hf hQ
    | succ f ih =>
      intro todo D env a w hf hl hn h1 h2 hJ
      refine ⟨fun ht => ?_, fun i hi => ?_⟩
      · subst ht
        exact (hend D env w hJ fun i hi => (h2 i hi).resolve_right (by simp)).go Q a hf hQ
      · obtain ⟨⟨dst, op, ty, pos, after, guard⟩, ho, hg, hw⟩ := hstep D i env w hJ (h1 i hi).1 (h1 i hi).2
        simp only [] at hg
        subst hg
        have hlen : (todo.erase i).length = todo.length - 1 := List.length_erase_of_mem hi
        have := hw.go (fun e a w' => match e with | .normal => (flag i = true → C w → C w') ∧ wpS P ops Q C flag (wpD P ops Q C flag r) f (todo.erase i) a w' | _ => Q e a w') a hf (fun env' a' w' hf' hk => ⟨hk.1, ih (todo.erase i) (i :: D) env' a' w' hf' (by omega) (hn.erase i) (fun j hj => by
          have hj' := List.mem_of_mem_erase hj
          refine ⟨(h1 j hj').1, fun hmem => ?_⟩
          rcases List.mem_cons.1 hmem with rfl | hmem
          · exact absurd hj (hn.not_mem_erase)
          · exact (h1 j hj').2 hmem) (fun j hj => by
          rcases h2 j hj with h | h
          · exact .inl (List.mem_cons_of_mem _ h)
          · by_cases hji : j = i
            · subst hji; exact .inl (List.mem_cons_self)
            · exact .inr ((List.mem_erase_of_ne hji).2 h)) hk.2⟩)
        unfold wpOp
        rw [ho]
        unfold wpList at this
        simp only [] at this ⊢
        split
        · rename_i hw
          rw [if_pos hw] at this
          rcases this with h | ⟨h1, h2⟩
          · exact .inl (upon_congr (fun a w h => h) (fun c a w h => h) (fun h => h) h)
          · exact .inr ⟨h1, h2⟩
        · rename_i hw
          exact absurd rfl hw
  exact main is.length is [] env a w hf (Nat.le_refl _) hnd (fun i hi => ⟨hi, by simp⟩) (fun i hi => .inr hi) h0
/-- Several that may come up in whatever order: what is true behind each of them; some wait for others. -/
theorem d_grp {is : List Nat} {pre : Nat → List Nat} (J : List Nat → Env → World → Prop) (h0 : J [] env w) (hstep : ∀ D i env w, J D env w → i ∈ is → i ∉ D → (∀ q ∈ pre i, q ∈ is → q ∈ D) → ∃ o, ops[i]? = some o ∧ o.guard = none ∧ WpL P ops n (fun env' w' => (flag i = true → C w → C w') ∧ J (i :: D) env' w') [o] env w)
    (hend : ∀ D env w, J D env w → (∀ i ∈ is, i ∈ D) → WpD P ops C flag n K r env w) (hnd : is.Nodup) : WpD P ops C flag n K (.g is pre :: r) env w := by
  refine ⟨fun Q a hf hQ => ?_⟩
  show wpT P ops Q C flag pre (wpD P ops Q C flag r) is.length is a w
  have main : ∀ (f : Nat) (todo : List Nat) (D : List Nat) (env : Env) (a : Act) (w : World), Fits n env a → todo.length ≤ f → todo.Nodup → (∀ i ∈ todo, i ∈ is ∧ i ∉ D) → (∀ i ∈ is, i ∈ D ∨ i ∈ todo) → J D env w → wpT P ops Q C flag pre (wpD P ops Q C flag r) f todo a w := by
    intro f
    induction f with
    | zero =>
      intro todo D env a w hf hl hn h1 h2 hJ
      intro ht
      subst ht
      exact (hend D env w hJ fun i hi => (h2 i hi).resolve_right (by simp)).go Q a hf hQ
    | succ f ih =>
      intro todo D env a w hf hl hn h1 h2 hJ
      refine ⟨fun ht => ?_, fun i hi hpre => ?_⟩
      · subst ht
        exact (hend D env w hJ fun i hi => (h2 i hi).resolve_right (by simp)).go Q a hf hQ
      · obtain ⟨⟨dst, op, ty, pos, after, guard⟩, ho, hg, hw⟩ := hstep D i env w hJ (h1 i hi).1 (h1 i hi).2 (fun q hq hqi => (h2 q hqi).resolve_right (hpre q hq))
        simp only [] at hg
        subst hg
        have hlen : (todo.erase i).length = todo.length - 1 := List.length_erase_of_mem hi
        have := hw.go (fun e a w' => match e with | .normal => (flag i = true → C w → C w') ∧ wpT P ops Q C flag pre (wpD P ops Q C flag r) f (todo.erase i) a w' | _ => Q e a w') a hf (fun env' a' w' hf' hk => ⟨hk.1, ih (todo.erase i) (i :: D) env' a' w' hf' (by omega) (hn.erase i) (fun j hj => by
          have hj' := List.mem_of_mem_erase hj
          refine ⟨(h1 j hj').1, fun hmem => ?_⟩
          rcases List.mem_cons.1 hmem with rfl | hmem
          · exact absurd hj (hn.not_mem_erase)
          · exact (h1 j hj').2 hmem) (fun j hj => by
          rcases h2 j hj with h | h
          · exact .inl (List.mem_cons_of_mem _ h)
          · by_cases hji : j = i
            · subst hji; exact .inl (List.mem_cons_self)
            · exact .inr ((List.mem_erase_of_ne hji).2 h)) hk.2⟩)
        unfold wpOp
        rw [ho]
        unfold wpList at this
        simp only [] at this ⊢
        split
        · rename_i hw
          rw [if_pos hw] at this
          rcases this with h | ⟨h1, h2⟩
          · exact .inl (upon_congr (fun a w h => h) (fun c a w h => h) (fun h => h) h)
          · exact .inr ⟨h1, h2⟩
        · rename_i hw
          exact absurd rfl hw
  exact main is.length is [] env a w hf (Nat.le_refl _) hnd (fun i hi => ⟨hi, by simp⟩) (fun i hi => .inr hi) h0
end Go.Proofs.Fw
