/- The walk: small conveniences. No condition. -/
import Derived.Test.YthamopcfpmkbfaaFwM
set_option linter.unusedVariables false
set_option linter.unusedSimpArgs false
namespace Go.Proofs.Fw
variable {P : Program} {n : Nat} {env : Env} {a : Act} {w w' : World} {ops : Array Oper} {K : Env → World → Prop} {rest : List Oper} {d : Nat} {ty : TypeId} {pos : String} {after : Array Edge}
variable {w0 : World} {L L' : List Res}

theorem SzIs.of {t : TypeId} {s : Nat} (h : (P.info? t).map (·.size) = some s) : SzIs P t s := by
  obtain ⟨i, hi, e⟩ := Option.map_eq_some_iff.1 h; exact ⟨i, hi, e⟩
theorem ZeroIs.of {t : TypeId} {z : Value} (h : (P.info? t).bind (·.zero) = some z) : ZeroIs P t z := by
  obtain ⟨i, hi, e⟩ := Option.bind_eq_some_iff.1 h; exact ⟨i, hi, e⟩
def plainB (P : Program) (t : TypeId) : Bool := match P.underlying t with
  | some (.struct _) | some (.array _ _) | none => false
  | _ => true
theorem Plain.of {t : TypeId} (h : (P.info? t).map (·.size) = some 1) (hb : plainB P t = true) : Plain P t := by
  refine ⟨SzIs.of h, ?_⟩
  unfold plainB at hb
  cases hu : P.underlying t with
  | none => rw [hu] at hb; cases hb
  | some td => exact ⟨td, rfl, fun fs e => (by subst e; rw [hu] at hb; cases hb), fun m e' e => (by subst e; rw [hu] at hb; cases hb)⟩
theorem wrap_i64 {x : Int} (h1 : -9223372036854775808 ≤ x) (h2 : x ≤ 9223372036854775807) : IntKind.i64.wrap x = x := IntWalk.i64_in _ (by omega)
theorem i64_min : IntKind.i64.min = -9223372036854775808 := by decide
theorem i64_max : IntKind.i64.max = 9223372036854775807 := by decide
theorem St.i64 {v : Value} {m : Int} (h : St w0 (pt (kInt .i64) v m :: L) w) : v = .int .i64 m ∧ -9223372036854775808 ≤ m ∧ m ≤ 9223372036854775807 := by
  have := h.int
  rwa [i64_min, i64_max] at this
theorem St.addI64 (h : St w0 L w) (m : Int) (h1 : -9223372036854775808 ≤ m) (h2 : m ≤ 9223372036854775807) : St w0 (pt (kInt .i64) (.int .i64 m) m :: L) w := h.addInt .i64 m (by rw [i64_min]; exact h1) (by rw [i64_max]; exact h2)
theorem St.os_form' {α : Type} {Kx : Kd α} {e : TypeId} {v : Value} {xs : List α} (h : St w0 (pt (os e Kx) v xs :: L) w) {l : Nat} (hl : xs.length = l) : ∃ A c, v = .slice A l c ∧ l ≤ c ∧ c ≤ maxLen := by subst hl; exact h.os_form
theorem St.rs_form' {α : Type} {Kx : Kd α} {v : Value} {xs : List α} (h : St w0 (pt (rs Kx) v xs :: L) w) {l : Nat} (hl : xs.length = l) : ∃ A c, v = .slice A l c ∧ l ≤ c ∧ c ≤ maxLen := by subst hl; exact h.rs_form
section ints
variable {x y : Operand} {xt yt : TypeId} {i j : Int}
theorem l_addr (hd : Nat.ble (d + 1) n = true) (hx : ev env x = some (.int .i64 i)) (hy : ev env y = some (.int .i64 j)) (h1 : -9223372036854775808 ≤ i + j) (h2 : i + j ≤ 9223372036854775807) (h : WpL P ops n K rest ((d, .int .i64 (i + j)) :: env) w) :
    WpL P ops n K (⟨some d, .binOp .add xt x y yt, ty, pos, after, none⟩ :: rest) env w :=
  l_add hd hx hy (by rw [wrap_i64 h1 h2]; exact h)
theorem l_subr (hd : Nat.ble (d + 1) n = true) (hx : ev env x = some (.int .i64 i)) (hy : ev env y = some (.int .i64 j)) (h1 : -9223372036854775808 ≤ i - j) (h2 : i - j ≤ 9223372036854775807) (h : WpL P ops n K rest ((d, .int .i64 (i - j)) :: env) w) :
    WpL P ops n K (⟨some d, .binOp .sub xt x y yt, ty, pos, after, none⟩ :: rest) env w :=
  l_sub hd hx hy (by rw [wrap_i64 h1 h2]; exact h)
theorem e_addr (hx : ev env x = some (.int .i64 i)) (hy : ev env y = some (.int .i64 j)) (h1 : -9223372036854775808 ≤ i + j) (h2 : i + j ≤ 9223372036854775807) : Ev P n env ⟨some d, .binOp .add xt x y yt, ty, pos, after, none⟩ (.int .i64 (i + j)) := by
  have := e_add (P := P) (n := n) (d := d) (ty := ty) (pos := pos) (after := after) (xt := xt) (yt := yt) hx hy
  rwa [wrap_i64 h1 h2] at this
theorem e_subr (hx : ev env x = some (.int .i64 i)) (hy : ev env y = some (.int .i64 j)) (h1 : -9223372036854775808 ≤ i - j) (h2 : i - j ≤ 9223372036854775807) : Ev P n env ⟨some d, .binOp .sub xt x y yt, ty, pos, after, none⟩ (.int .i64 (i - j)) := by
  have := e_sub (P := P) (n := n) (d := d) (ty := ty) (pos := pos) (after := after) (xt := xt) (yt := yt) hx hy
  rwa [wrap_i64 h1 h2] at this
end ints
theorem vT {p : Prop} [Decidable p] (h : p) : Value.bool (decide p) = .bool true := by rw [decide_eq_true h]
theorem vF {p : Prop} [Decidable p] (h : ¬ p) : Value.bool (decide p) = .bool false := by rw [decide_eq_false h]
theorem vnT {p : Prop} [Decidable p] (h : ¬ p) : Value.bool (!decide p) = .bool true := by rw [decide_eq_false h]; rfl
theorem vnF {p : Prop} [Decidable p] (h : p) : Value.bool (!decide p) = .bool false := by rw [decide_eq_true h]; rfl
/-- Ways meet again behind the first part: what is known there is told. -/
theorem c_seqS {x y : Code} {Q : Exit → Env → World → Prop} (small : Env) (S : World → Prop) (hx : WpC P n (Then (fun env w => Fw.Sub env small ∧ S w) Q) x env w) (hy : ∀ w, S w → WpC P n Q y small w) : WpC P n Q (.seq x y) env w :=
  c_seq (hx.mono fun e env w h => by
    cases e with
    | normal => exact WpC.weak small h.1 (hy w h.2)
    | _ => exact h)
/-- A function's body, its slots' number told. -/
theorem f_one {f : FuncId} {fn : Func} {c : Code} {vs : List Value} {r m : Nat} {R : Ending → World → Prop} (hf : P.funcs[f]? = some fn) (hb : fn.body = some c) (hr : fn.results = #[.tmp r]) (hm : fn.ntmps = m) (hn : Nat.ble vs.length m = true)
    (h : WpC P m (fun e env w => (e = .normal ∨ e = .ret) ∧ ∃ v, lk env r = some v ∧ R (.returned v) w) c (argsEnv 0 vs) w) : Calls P f vs.toArray w R := by
  subst hm; exact calls_one hf hb hr hn h
theorem f_two {f : FuncId} {fn : Func} {c : Code} {vs : List Value} {r s m : Nat} {R : Ending → World → Prop} (hf : P.funcs[f]? = some fn) (hb : fn.body = some c) (hr : fn.results = #[.tmp r, .tmp s]) (hm : fn.ntmps = m) (hn : Nat.ble vs.length m = true)
    (h : WpC P m (fun e env w => (e = .normal ∨ e = .ret) ∧ ∃ v u, lk env r = some v ∧ lk env s = some u ∧ R (.returned (.tuple #[v, u])) w) c (argsEnv 0 vs) w) : Calls P f vs.toArray w R := by
  subst hm; exact calls_two hf hb hr hn h
theorem f_zero {f : FuncId} {fn : Func} {c : Code} {vs : List Value} {m : Nat} {R : Ending → World → Prop} (hf : P.funcs[f]? = some fn) (hb : fn.body = some c) (hr : fn.results = #[]) (hm : fn.ntmps = m) (hn : Nat.ble vs.length m = true)
    (h : WpC P m (fun e env w => (e = .normal ∨ e = .ret) ∧ R (.returned (.tuple #[])) w) c (argsEnv 0 vs) w) : Calls P f vs.toArray w R := by
  subst hm; exact calls_zero hf hb hr hn h
/-- What a function hands back: a value that stands for x, and the memory. -/
def Gives {α : Type} (w0 : World) (Kd : Kd α) (x : α) (L : List Res) (e : Ending) (w : World) : Prop := ∃ v, e = .returned v ∧ St w0 (pt Kd v x :: L) w
end Go.Proofs.Fw
