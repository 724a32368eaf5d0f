/- The walk's operations that touch no memory. No condition. -/
import Derived.Test.YthamopcfpmkbfaaFwA
set_option linter.unusedVariables false
set_option linter.unusedSimpArgs false
namespace Go.Proofs.Fw
variable {P : Program} {n : Nat} {env : Env} {a : Act} {w w' : World} {ops : Array Oper} {K : Env → World → Prop} {rest : List Oper} {d : Nat} {ty : TypeId} {pos : String} {after : Array Edge}

theorem l_nil (h : K env w) : WpL P ops n K [] env w := ⟨fun Q a hf hQ => wpList_nil (hQ _ _ _ hf h)⟩
/-- An operation that yields a value. -/
theorem l_val {op : Op} (v : Value) (hd : Nat.ble (d + 1) n = true) (hrun : ∀ a, Fits n env a → (execOp a.eval ⟨some d, op, ty, pos, after, none⟩).run P w = .ok (.value v) w')
    (h : WpL P ops n K rest ((d, v) :: env) w') : WpL P ops n K (⟨some d, op, ty, pos, after, none⟩ :: rest) env w := by
  refine ⟨fun Q a hf hQ => ?_⟩
  refine wpList_plain rfl fun KK hK => ?_
  unfold Oper.wp
  rw [hrun a hf]
  exact hK _ _ (h.go Q _ (hf.put hd v) hQ)
/-- In whatever world the operation yields v, and leaves the world as it is. -/
def Ev (P : Program) (n : Nat) (env : Env) (o : Oper) (v : Value) : Prop := ∀ (a : Act) (w : World), Fits n env a → (execOp a.eval o).run P w = .ok (.value v) w
/-- An operation that yields nothing. -/
theorem l_unit {op : Op} (hrun : ∀ a, Fits n env a → (execOp a.eval ⟨none, op, ty, pos, after, none⟩).run P w = .ok .skip w')
    (h : WpL P ops n K rest env w') : WpL P ops n K (⟨none, op, ty, pos, after, none⟩ :: rest) env w := by
  refine ⟨fun Q a hf hQ => ?_⟩
  refine wpList_plain rfl fun KK hK => ?_
  unfold Oper.wp
  rw [hrun a hf]
  exact hK _ _ (h.go Q _ (hf.put_none undef) hQ)
/-- A slot's value spelled otherwise. -/
theorem l_set {l : List Oper} (i : Nat) (v' : Value) {v : Value} (hi : lk env i = some v) (hv : v = v') (h : WpL P ops n K l ((i, v') :: env) w) : WpL P ops n K l env w := by
  subst hv
  exact ⟨fun Q a hf hQ => h.go Q a (hf.dup hi) hQ⟩
theorem c_set {c : Code} {Q : Exit → Env → World → Prop} (i : Nat) (v' : Value) {v : Value} (hi : lk env i = some v) (hv : v = v') (h : WpC P n Q c ((i, v') :: env) w) : WpC P n Q c env w := by
  subst hv
  exact ⟨fun Q a hf hQ => h.go Q a (hf.dup hi) hQ⟩
/-- A guard that says yes. -/
theorem l_yes {op : Op} {j dj : Nat} {want : Bool} {dst : Option Nat} (hj : (ops[j]?).bind (·.dst) = some dj) (hb : lk env dj = some (.bool want))
    (h : WpL P ops n K (⟨dst, op, ty, pos, after, none⟩ :: rest) env w) : WpL P ops n K (⟨dst, op, ty, pos, after, some (j, want)⟩ :: rest) env w := by
  refine ⟨fun Q a hf hQ => ?_⟩
  have h1 := h.go Q a hf hQ
  have hw : Region.wanted ⟨dst, op, ty, pos, after, some (j, want)⟩ (yielded ops a.tmps) = true := by
    simp [Region.wanted, yielded, hj, hf.at_ dj _ hb]
  unfold wpList at h1 ⊢
  rw [if_pos hw]
  rw [if_pos (by rfl)] at h1
  exact h1
/-- A guard that says no. -/
theorem l_no {op : Op} {j dj : Nat} {want b : Bool} (hd : Nat.ble (d + 1) n = true) (hj : (ops[j]?).bind (·.dst) = some dj) (hb : lk env dj = some (.bool b)) (hne : (b == want) = false)
    (h : WpL P ops n K rest ((d, undef) :: env) w) : WpL P ops n K (⟨some d, op, ty, pos, after, some (j, want)⟩ :: rest) env w := by
  refine ⟨fun Q a hf hQ => ?_⟩
  have hne' : b ≠ want := by simpa using hne
  have hw : Region.wanted ⟨some d, op, ty, pos, after, some (j, want)⟩ (yielded ops a.tmps) = false := by
    simp [Region.wanted, yielded, hj, hf.at_ dj _ hb, hne']
  exact wpList_skip hw (h.go Q _ (hf.put hd undef) hQ)
/-- A guard whose own operation was passed over. -/
theorem l_no' {op : Op} {j dj : Nat} {want : Bool} (hd : Nat.ble (d + 1) n = true) (hj : (ops[j]?).bind (·.dst) = some dj) (hb : lk env dj = some undef)
    (h : WpL P ops n K rest ((d, undef) :: env) w) : WpL P ops n K (⟨some d, op, ty, pos, after, some (j, want)⟩ :: rest) env w := by
  refine ⟨fun Q a hf hQ => ?_⟩
  have hw : Region.wanted ⟨some d, op, ty, pos, after, some (j, want)⟩ (yielded ops a.tmps) = false := by
    simp [Region.wanted, yielded, hj, hf.at_ dj _ hb, undef]
  exact wpList_skip hw (h.go Q _ (hf.put hd undef) hQ)

theorem int_beq (i j : Int) : (i == j) = decide (i = j) := by rw [Bool.eq_iff_iff]; simp
theorem run_bin {x y : Operand} {xt yt : TypeId} {k : IntKind} {i j : Int} {op : BinOp} {ρ : Operand → Value} (hx : ρ x = .int k i) (hy : ρ y = .int k j) {v : Value} (hv : (binOp op xt (.int k i) (.int k j)).run P w = .ok v w) :
    (execOp ρ ⟨some d, .binOp op xt x y yt, ty, pos, after, none⟩).run P w = .ok (.value v) w := by
  simp only [execOp, hx, hy]
  have hg : (eqGuard op xt x y (.int k i) (.int k j)).run P w = .ok () w := by cases op <;> simp [eqGuard, Sem.run_pure]
  simp [Sem.run_bind, hg, hv, Result.andThen_ok, Sem.run_pure]
theorem run_bins {x y : Operand} {xt yt : TypeId} {i j : ByteArray} {op : BinOp} {ρ : Operand → Value} (hx : ρ x = .string i) (hy : ρ y = .string j) {v : Value} (hv : (binOp op xt (.string i) (.string j)).run P w = .ok v w) :
    (execOp ρ ⟨some d, .binOp op xt x y yt, ty, pos, after, none⟩).run P w = .ok (.value v) w := by
  simp only [execOp, hx, hy]
  have hg : (eqGuard op xt x y (.string i) (.string j)).run P w = .ok () w := by cases op <;> simp [eqGuard, Sem.run_pure]
  simp [Sem.run_bind, hg, hv, Result.andThen_ok, Sem.run_pure]
/-- The size of a type, as the program has it. -/
def SzIs (P : Program) (t : TypeId) (s : Nat) : Prop := ∃ i, P.info? t = some i ∧ i.size = s
theorem SzIs.run {t : TypeId} {s : Nat} (h : SzIs P t s) : (sizeOf t).run P w = .ok s w := by
  obtain ⟨i, hi, rfl⟩ := h
  simp [sizeOf, typeInfo, hi, Sem.run_bind, program, Sem.run, Sem.run_pure, Result.andThen_ok]
theorem e_move {x : Operand} {v : Value} (hx : ev env x = some v) :
    Ev P n env ⟨some d, .move x, ty, pos, after, none⟩ (v) :=
  fun a w hf => by simp [execOp, hf.eval hx, pure, Sem.run]
theorem l_move {x : Operand} {v : Value} (hd : Nat.ble (d + 1) n = true) (hx : ev env x = some v) (h : WpL P ops n K rest ((d, v) :: env) w) :
    WpL P ops n K (⟨some d, .move x, ty, pos, after, none⟩ :: rest) env w :=
  l_val _ hd (fun a hf => e_move hx a w hf) h
theorem e_assign {x : Operand} {v : Value} (hx : ev env x = some v) :
    Ev P n env ⟨some d, .assign x, ty, pos, after, none⟩ (v) :=
  fun a w hf => by simp [execOp, hf.eval hx, pure, Sem.run]
theorem l_assign {x : Operand} {v : Value} (hd : Nat.ble (d + 1) n = true) (hx : ev env x = some v) (h : WpL P ops n K rest ((d, v) :: env) w) :
    WpL P ops n K (⟨some d, .assign x, ty, pos, after, none⟩ :: rest) env w :=
  l_val _ hd (fun a hf => e_assign hx a w hf) h
theorem e_pick {c x y : Operand} {b : Bool} {u : Value} (hc : ev env c = some (.bool b)) (hx : (bif b then ev env x else ev env y) = some u) :
    Ev P n env ⟨some d, .pick c x y, ty, pos, after, none⟩ (u) :=
  fun a w hf => by
    cases b with
    | true => have hx' : ev env x = some u := hx; simp [execOp, hf.eval hc, hf.eval hx', asBool, pure, bind, Sem.bind, Sem.run]
    | false => have hx' : ev env y = some u := hx; simp [execOp, hf.eval hc, hf.eval hx', asBool, pure, bind, Sem.bind, Sem.run]
theorem l_pick {c x y : Operand} {b : Bool} {u : Value} (hd : Nat.ble (d + 1) n = true) (hc : ev env c = some (.bool b)) (hx : (bif b then ev env x else ev env y) = some u) (h : WpL P ops n K rest ((d, u) :: env) w) :
    WpL P ops n K (⟨some d, .pick c x y, ty, pos, after, none⟩ :: rest) env w :=
  l_val _ hd (fun a hf => e_pick hc hx a w hf) h
theorem e_add {x y : Operand} {xt yt : TypeId} {k : IntKind} {i j : Int} (hx : ev env x = some (.int k i)) (hy : ev env y = some (.int k j)) :
    Ev P n env ⟨some d, .binOp .add xt x y yt, ty, pos, after, none⟩ (.int k (k.wrap (i + j))) :=
  fun a w hf => run_bin (hf.eval hx) (hf.eval hy) (by simp [binOp, Op.intArith, pure, Sem.run])
theorem l_add {x y : Operand} {xt yt : TypeId} {k : IntKind} {i j : Int} (hd : Nat.ble (d + 1) n = true) (hx : ev env x = some (.int k i)) (hy : ev env y = some (.int k j)) (h : WpL P ops n K rest ((d, .int k (k.wrap (i + j))) :: env) w) :
    WpL P ops n K (⟨some d, .binOp .add xt x y yt, ty, pos, after, none⟩ :: rest) env w :=
  l_val _ hd (fun a hf => e_add hx hy a w hf) h
theorem e_sub {x y : Operand} {xt yt : TypeId} {k : IntKind} {i j : Int} (hx : ev env x = some (.int k i)) (hy : ev env y = some (.int k j)) :
    Ev P n env ⟨some d, .binOp .sub xt x y yt, ty, pos, after, none⟩ (.int k (k.wrap (i - j))) :=
  fun a w hf => run_bin (hf.eval hx) (hf.eval hy) (by simp [binOp, Op.intArith, pure, Sem.run])
theorem l_sub {x y : Operand} {xt yt : TypeId} {k : IntKind} {i j : Int} (hd : Nat.ble (d + 1) n = true) (hx : ev env x = some (.int k i)) (hy : ev env y = some (.int k j)) (h : WpL P ops n K rest ((d, .int k (k.wrap (i - j))) :: env) w) :
    WpL P ops n K (⟨some d, .binOp .sub xt x y yt, ty, pos, after, none⟩ :: rest) env w :=
  l_val _ hd (fun a hf => e_sub hx hy a w hf) h
theorem e_mul {x y : Operand} {xt yt : TypeId} {k : IntKind} {i j : Int} (hx : ev env x = some (.int k i)) (hy : ev env y = some (.int k j)) :
    Ev P n env ⟨some d, .binOp .mul xt x y yt, ty, pos, after, none⟩ (.int k (k.wrap (i * j))) :=
  fun a w hf => run_bin (hf.eval hx) (hf.eval hy) (by simp [binOp, Op.intArith, pure, Sem.run])
theorem l_mul {x y : Operand} {xt yt : TypeId} {k : IntKind} {i j : Int} (hd : Nat.ble (d + 1) n = true) (hx : ev env x = some (.int k i)) (hy : ev env y = some (.int k j)) (h : WpL P ops n K rest ((d, .int k (k.wrap (i * j))) :: env) w) :
    WpL P ops n K (⟨some d, .binOp .mul xt x y yt, ty, pos, after, none⟩ :: rest) env w :=
  l_val _ hd (fun a hf => e_mul hx hy a w hf) h
theorem e_quo {x y : Operand} {xt yt : TypeId} {k : IntKind} {i j : Int} (hx : ev env x = some (.int k i)) (hy : ev env y = some (.int k j)) (hj : j ≠ 0) :
    Ev P n env ⟨some d, .binOp .quo xt x y yt, ty, pos, after, none⟩ (.int k (k.wrap (i.tdiv j))) :=
  fun a w hf => run_bin (hf.eval hx) (hf.eval hy) (by simp [binOp, Op.intDiv, hj, pure, Sem.run])
theorem l_quo {x y : Operand} {xt yt : TypeId} {k : IntKind} {i j : Int} (hd : Nat.ble (d + 1) n = true) (hx : ev env x = some (.int k i)) (hy : ev env y = some (.int k j)) (hj : j ≠ 0) (h : WpL P ops n K rest ((d, .int k (k.wrap (i.tdiv j))) :: env) w) :
    WpL P ops n K (⟨some d, .binOp .quo xt x y yt, ty, pos, after, none⟩ :: rest) env w :=
  l_val _ hd (fun a hf => e_quo hx hy hj a w hf) h
theorem e_rem {x y : Operand} {xt yt : TypeId} {k : IntKind} {i j : Int} (hx : ev env x = some (.int k i)) (hy : ev env y = some (.int k j)) (hj : j ≠ 0) :
    Ev P n env ⟨some d, .binOp .rem xt x y yt, ty, pos, after, none⟩ (.int k (i.tmod j)) :=
  fun a w hf => run_bin (hf.eval hx) (hf.eval hy) (by simp [binOp, Op.intDiv, hj, pure, Sem.run])
theorem l_rem {x y : Operand} {xt yt : TypeId} {k : IntKind} {i j : Int} (hd : Nat.ble (d + 1) n = true) (hx : ev env x = some (.int k i)) (hy : ev env y = some (.int k j)) (hj : j ≠ 0) (h : WpL P ops n K rest ((d, .int k (i.tmod j)) :: env) w) :
    WpL P ops n K (⟨some d, .binOp .rem xt x y yt, ty, pos, after, none⟩ :: rest) env w :=
  l_val _ hd (fun a hf => e_rem hx hy hj a w hf) h
theorem e_lss {x y : Operand} {xt yt : TypeId} {k : IntKind} {i j : Int} (hx : ev env x = some (.int k i)) (hy : ev env y = some (.int k j)) :
    Ev P n env ⟨some d, .binOp .lss xt x y yt, ty, pos, after, none⟩ (.bool (decide (i < j))) :=
  fun a w hf => run_bin (hf.eval hx) (hf.eval hy) (by simp [binOp, Op.intCmp, pure, Sem.run])
theorem l_lss {x y : Operand} {xt yt : TypeId} {k : IntKind} {i j : Int} (hd : Nat.ble (d + 1) n = true) (hx : ev env x = some (.int k i)) (hy : ev env y = some (.int k j)) (h : WpL P ops n K rest ((d, .bool (decide (i < j))) :: env) w) :
    WpL P ops n K (⟨some d, .binOp .lss xt x y yt, ty, pos, after, none⟩ :: rest) env w :=
  l_val _ hd (fun a hf => e_lss hx hy a w hf) h
theorem e_leq {x y : Operand} {xt yt : TypeId} {k : IntKind} {i j : Int} (hx : ev env x = some (.int k i)) (hy : ev env y = some (.int k j)) :
    Ev P n env ⟨some d, .binOp .leq xt x y yt, ty, pos, after, none⟩ (.bool (decide (i ≤ j))) :=
  fun a w hf => run_bin (hf.eval hx) (hf.eval hy) (by simp [binOp, Op.intCmp, pure, Sem.run])
theorem l_leq {x y : Operand} {xt yt : TypeId} {k : IntKind} {i j : Int} (hd : Nat.ble (d + 1) n = true) (hx : ev env x = some (.int k i)) (hy : ev env y = some (.int k j)) (h : WpL P ops n K rest ((d, .bool (decide (i ≤ j))) :: env) w) :
    WpL P ops n K (⟨some d, .binOp .leq xt x y yt, ty, pos, after, none⟩ :: rest) env w :=
  l_val _ hd (fun a hf => e_leq hx hy a w hf) h
theorem e_gtr {x y : Operand} {xt yt : TypeId} {k : IntKind} {i j : Int} (hx : ev env x = some (.int k i)) (hy : ev env y = some (.int k j)) :
    Ev P n env ⟨some d, .binOp .gtr xt x y yt, ty, pos, after, none⟩ (.bool (decide (j < i))) :=
  fun a w hf => run_bin (hf.eval hx) (hf.eval hy) (by simp [binOp, Op.intCmp, pure, Sem.run])
theorem l_gtr {x y : Operand} {xt yt : TypeId} {k : IntKind} {i j : Int} (hd : Nat.ble (d + 1) n = true) (hx : ev env x = some (.int k i)) (hy : ev env y = some (.int k j)) (h : WpL P ops n K rest ((d, .bool (decide (j < i))) :: env) w) :
    WpL P ops n K (⟨some d, .binOp .gtr xt x y yt, ty, pos, after, none⟩ :: rest) env w :=
  l_val _ hd (fun a hf => e_gtr hx hy a w hf) h
theorem e_geq {x y : Operand} {xt yt : TypeId} {k : IntKind} {i j : Int} (hx : ev env x = some (.int k i)) (hy : ev env y = some (.int k j)) :
    Ev P n env ⟨some d, .binOp .geq xt x y yt, ty, pos, after, none⟩ (.bool (decide (j ≤ i))) :=
  fun a w hf => run_bin (hf.eval hx) (hf.eval hy) (by simp [binOp, Op.intCmp, pure, Sem.run])
theorem l_geq {x y : Operand} {xt yt : TypeId} {k : IntKind} {i j : Int} (hd : Nat.ble (d + 1) n = true) (hx : ev env x = some (.int k i)) (hy : ev env y = some (.int k j)) (h : WpL P ops n K rest ((d, .bool (decide (j ≤ i))) :: env) w) :
    WpL P ops n K (⟨some d, .binOp .geq xt x y yt, ty, pos, after, none⟩ :: rest) env w :=
  l_val _ hd (fun a hf => e_geq hx hy a w hf) h
theorem e_eql {x y : Operand} {xt yt : TypeId} {k : IntKind} {i j : Int} (hx : ev env x = some (.int k i)) (hy : ev env y = some (.int k j)) :
    Ev P n env ⟨some d, .binOp .eql xt x y yt, ty, pos, after, none⟩ (.bool (decide (i = j))) :=
  fun a w hf => run_bin (hf.eval hx) (hf.eval hy) (by simp [binOp, Op.intCmp, int_beq, pure, Sem.run])
theorem l_eql {x y : Operand} {xt yt : TypeId} {k : IntKind} {i j : Int} (hd : Nat.ble (d + 1) n = true) (hx : ev env x = some (.int k i)) (hy : ev env y = some (.int k j)) (h : WpL P ops n K rest ((d, .bool (decide (i = j))) :: env) w) :
    WpL P ops n K (⟨some d, .binOp .eql xt x y yt, ty, pos, after, none⟩ :: rest) env w :=
  l_val _ hd (fun a hf => e_eql hx hy a w hf) h
theorem e_neq {x y : Operand} {xt yt : TypeId} {k : IntKind} {i j : Int} (hx : ev env x = some (.int k i)) (hy : ev env y = some (.int k j)) :
    Ev P n env ⟨some d, .binOp .neq xt x y yt, ty, pos, after, none⟩ (.bool (decide (i ≠ j))) :=
  fun a w hf => run_bin (hf.eval hx) (hf.eval hy) (by simp [binOp, Op.intCmp, bne, int_beq, pure, Sem.run])
theorem l_neq {x y : Operand} {xt yt : TypeId} {k : IntKind} {i j : Int} (hd : Nat.ble (d + 1) n = true) (hx : ev env x = some (.int k i)) (hy : ev env y = some (.int k j)) (h : WpL P ops n K rest ((d, .bool (decide (i ≠ j))) :: env) w) :
    WpL P ops n K (⟨some d, .binOp .neq xt x y yt, ty, pos, after, none⟩ :: rest) env w :=
  l_val _ hd (fun a hf => e_neq hx hy a w hf) h
theorem e_sadd {x y : Operand} {xt yt : TypeId} {s t : ByteArray} (hx : ev env x = some (.string s)) (hy : ev env y = some (.string t)) (hl : s.size + t.size ≤ 9223372036854775807) :
    Ev P n env ⟨some d, .binOp .add xt x y yt, ty, pos, after, none⟩ (.string (s ++ t)) :=
  fun a w hf => run_bins (hf.eval hx) (hf.eval hy) (by simp [binOp, Op.stringOp, IntKind.max, IntKind.signed, IntKind.bits, pure, Sem.run]; omega)
theorem l_sadd {x y : Operand} {xt yt : TypeId} {s t : ByteArray} (hd : Nat.ble (d + 1) n = true) (hx : ev env x = some (.string s)) (hy : ev env y = some (.string t)) (hl : s.size + t.size ≤ 9223372036854775807) (h : WpL P ops n K rest ((d, .string (s ++ t)) :: env) w) :
    WpL P ops n K (⟨some d, .binOp .add xt x y yt, ty, pos, after, none⟩ :: rest) env w :=
  l_val _ hd (fun a hf => e_sadd hx hy hl a w hf) h
theorem e_seql {x y : Operand} {xt yt : TypeId} {s t : ByteArray} (hx : ev env x = some (.string s)) (hy : ev env y = some (.string t)) :
    Ev P n env ⟨some d, .binOp .eql xt x y yt, ty, pos, after, none⟩ (.bool (s.toList == t.toList)) :=
  fun a w hf => run_bins (hf.eval hx) (hf.eval hy) (by simp [binOp, Op.stringOp, pure, Sem.run])
theorem l_seql {x y : Operand} {xt yt : TypeId} {s t : ByteArray} (hd : Nat.ble (d + 1) n = true) (hx : ev env x = some (.string s)) (hy : ev env y = some (.string t)) (h : WpL P ops n K rest ((d, .bool (s.toList == t.toList)) :: env) w) :
    WpL P ops n K (⟨some d, .binOp .eql xt x y yt, ty, pos, after, none⟩ :: rest) env w :=
  l_val _ hd (fun a hf => e_seql hx hy a w hf) h
theorem e_sneq {x y : Operand} {xt yt : TypeId} {s t : ByteArray} (hx : ev env x = some (.string s)) (hy : ev env y = some (.string t)) :
    Ev P n env ⟨some d, .binOp .neq xt x y yt, ty, pos, after, none⟩ (.bool (!(s.toList == t.toList))) :=
  fun a w hf => run_bins (hf.eval hx) (hf.eval hy) (by simp [binOp, Op.stringOp, pure, Sem.run])
theorem l_sneq {x y : Operand} {xt yt : TypeId} {s t : ByteArray} (hd : Nat.ble (d + 1) n = true) (hx : ev env x = some (.string s)) (hy : ev env y = some (.string t)) (h : WpL P ops n K rest ((d, .bool (!(s.toList == t.toList))) :: env) w) :
    WpL P ops n K (⟨some d, .binOp .neq xt x y yt, ty, pos, after, none⟩ :: rest) env w :=
  l_val _ hd (fun a hf => e_sneq hx hy a w hf) h
theorem e_slss {x y : Operand} {xt yt : TypeId} {s t : ByteArray} (hx : ev env x = some (.string s)) (hy : ev env y = some (.string t)) :
    Ev P n env ⟨some d, .binOp .lss xt x y yt, ty, pos, after, none⟩ (.bool (Op.bytesLess s.toList t.toList)) :=
  fun a w hf => run_bins (hf.eval hx) (hf.eval hy) (by simp [binOp, Op.stringOp, pure, Sem.run])
theorem l_slss {x y : Operand} {xt yt : TypeId} {s t : ByteArray} (hd : Nat.ble (d + 1) n = true) (hx : ev env x = some (.string s)) (hy : ev env y = some (.string t)) (h : WpL P ops n K rest ((d, .bool (Op.bytesLess s.toList t.toList)) :: env) w) :
    WpL P ops n K (⟨some d, .binOp .lss xt x y yt, ty, pos, after, none⟩ :: rest) env w :=
  l_val _ hd (fun a hf => e_slss hx hy a w hf) h
theorem e_not {x : Operand} {xt : TypeId} {b : Bool} (hx : ev env x = some (.bool b)) :
    Ev P n env ⟨some d, .unOp .not xt x, ty, pos, after, none⟩ (.bool (!b)) :=
  fun a w hf => by simp [execOp, hf.eval hx, Op.unary, Sem.run_bind, Sem.run_pure, Result.andThen_ok]
theorem l_not {x : Operand} {xt : TypeId} {b : Bool} (hd : Nat.ble (d + 1) n = true) (hx : ev env x = some (.bool b)) (h : WpL P ops n K rest ((d, .bool (!b)) :: env) w) :
    WpL P ops n K (⟨some d, .unOp .not xt x, ty, pos, after, none⟩ :: rest) env w :=
  l_val _ hd (fun a hf => e_not hx a w hf) h
theorem e_neg {x : Operand} {xt : TypeId} {k : IntKind} {i : Int} (hx : ev env x = some (.int k i)) :
    Ev P n env ⟨some d, .unOp .neg xt x, ty, pos, after, none⟩ (.int k (k.wrap (0 - i))) :=
  fun a w hf => by simp [execOp, hf.eval hx, Op.unary, Op.intArith, Sem.run_bind, Sem.run_pure, Result.andThen_ok]
theorem l_neg {x : Operand} {xt : TypeId} {k : IntKind} {i : Int} (hd : Nat.ble (d + 1) n = true) (hx : ev env x = some (.int k i)) (h : WpL P ops n K rest ((d, .int k (k.wrap (0 - i))) :: env) w) :
    WpL P ops n K (⟨some d, .unOp .neg xt x, ty, pos, after, none⟩ :: rest) env w :=
  l_val _ hd (fun a hf => e_neg hx a w hf) h
theorem e_len {x : Operand} {t e : TypeId} {A : Option Addr} {l c : Nat} (ht : P.underlying t = some (.slice e)) (hx : ev env x = some (.slice A l c)) :
    Ev P n env ⟨some d, .call { callee := .builtin .len, args := #[x], argTypes := #[t] }, ty, pos, after, none⟩ (.int .i64 (l : Int)) :=
  fun a w hf => by simp [execOp, resolve, invoke, builtin, Builtin.len_, hf.eval hx, run_underlying ht, goInt, Sem.run_bind, Sem.run_pure, Result.andThen_ok]
theorem l_len {x : Operand} {t e : TypeId} {A : Option Addr} {l c : Nat} (hd : Nat.ble (d + 1) n = true) (ht : P.underlying t = some (.slice e)) (hx : ev env x = some (.slice A l c)) (h : WpL P ops n K rest ((d, .int .i64 (l : Int)) :: env) w) :
    WpL P ops n K (⟨some d, .call { callee := .builtin .len, args := #[x], argTypes := #[t] }, ty, pos, after, none⟩ :: rest) env w :=
  l_val _ hd (fun a hf => e_len ht hx a w hf) h
theorem e_len_string {x : Operand} {t : TypeId} {s : ByteArray} (ht : P.underlying t = some .string) (hx : ev env x = some (.string s)) :
    Ev P n env ⟨some d, .call { callee := .builtin .len, args := #[x], argTypes := #[t] }, ty, pos, after, none⟩ (.int .i64 (s.size : Int)) :=
  fun a w hf => by simp [execOp, resolve, invoke, builtin, Builtin.len_, hf.eval hx, run_underlying ht, goInt, Sem.run_bind, Sem.run_pure, Result.andThen_ok]
theorem l_len_string {x : Operand} {t : TypeId} {s : ByteArray} (hd : Nat.ble (d + 1) n = true) (ht : P.underlying t = some .string) (hx : ev env x = some (.string s)) (h : WpL P ops n K rest ((d, .int .i64 (s.size : Int)) :: env) w) :
    WpL P ops n K (⟨some d, .call { callee := .builtin .len, args := #[x], argTypes := #[t] }, ty, pos, after, none⟩ :: rest) env w :=
  l_val _ hd (fun a hf => e_len_string ht hx a w hf) h
theorem e_min {x y : Operand} {ts : Array TypeId} {k : IntKind} {i j : Int} (hx : ev env x = some (.int k i)) (hy : ev env y = some (.int k j)) :
    Ev P n env ⟨some d, .call { callee := .builtin .min, args := #[x, y], argTypes := ts }, ty, pos, after, none⟩ (.int k (if j < i then j else i)) :=
  fun a w hf => by simp [execOp, resolve, invoke, builtin, hf.eval hx, hf.eval hy, Builtin.min_, Builtin.min2, Sem.run_bind, Sem.run_pure, Result.andThen_ok]
theorem l_min {x y : Operand} {ts : Array TypeId} {k : IntKind} {i j : Int} (hd : Nat.ble (d + 1) n = true) (hx : ev env x = some (.int k i)) (hy : ev env y = some (.int k j)) (h : WpL P ops n K rest ((d, .int k (if j < i then j else i)) :: env) w) :
    WpL P ops n K (⟨some d, .call { callee := .builtin .min, args := #[x, y], argTypes := ts }, ty, pos, after, none⟩ :: rest) env w :=
  l_val _ hd (fun a hf => e_min hx hy a w hf) h
theorem e_max {x y : Operand} {ts : Array TypeId} {k : IntKind} {i j : Int} (hx : ev env x = some (.int k i)) (hy : ev env y = some (.int k j)) :
    Ev P n env ⟨some d, .call { callee := .builtin .max, args := #[x, y], argTypes := ts }, ty, pos, after, none⟩ (.int k (if j > i then j else i)) :=
  fun a w hf => by simp [execOp, resolve, invoke, builtin, hf.eval hx, hf.eval hy, Builtin.max_, Builtin.max2, Sem.run_bind, Sem.run_pure, Result.andThen_ok]
theorem l_max {x y : Operand} {ts : Array TypeId} {k : IntKind} {i j : Int} (hd : Nat.ble (d + 1) n = true) (hx : ev env x = some (.int k i)) (hy : ev env y = some (.int k j)) (h : WpL P ops n K rest ((d, .int k (if j > i then j else i)) :: env) w) :
    WpL P ops n K (⟨some d, .call { callee := .builtin .max, args := #[x, y], argTypes := ts }, ty, pos, after, none⟩ :: rest) env w :=
  l_val _ hd (fun a hf => e_max hx hy a w hf) h
theorem e_indexAddr {x y : Operand} {t e : TypeId} {ad : Addr} {l c s : Nat} {k : IntKind} {i : Int} (ht : P.underlying t = some (.slice e)) (hs : SzIs P e s) (hx : ev env x = some (.slice (some ad) l c)) (hy : ev env y = some (.int k i)) (h0 : 0 ≤ i) (h1 : i < l) :
    Ev P n env ⟨some d, .indexAddr t x y, ty, pos, after, none⟩ (.pointer (some (ad.add (i.toNat * s)))) :=
  fun a w hf => by
    simp [execOp, hf.eval hx, hf.eval hy, Instr.indexAt, asIntOf, run_underlying ht, hs.run, h0, h1, Sem.run_bind, Sem.run_pure, Result.andThen_ok]
theorem l_indexAddr {x y : Operand} {t e : TypeId} {ad : Addr} {l c s : Nat} {k : IntKind} {i : Int} (hd : Nat.ble (d + 1) n = true) (ht : P.underlying t = some (.slice e)) (hs : SzIs P e s) (hx : ev env x = some (.slice (some ad) l c)) (hy : ev env y = some (.int k i)) (h0 : 0 ≤ i) (h1 : i < l) (h : WpL P ops n K rest ((d, .pointer (some (ad.add (i.toNat * s)))) :: env) w) :
    WpL P ops n K (⟨some d, .indexAddr t x y, ty, pos, after, none⟩ :: rest) env w :=
  l_val _ hd (fun a hf => e_indexAddr ht hs hx hy h0 h1 a w hf) h
theorem e_fieldAddr {x : Operand} {t : TypeId} {ad : Addr} {fs : Array Field} {f : Nat} {fd : Field} {s : Nat} (ht : P.underlying t = some (.struct fs)) (hfd : fs[f]? = some fd) (hs : SzIs P fd.type (s + 1)) (hx : ev env x = some (.pointer (some ad))) :
    Ev P n env ⟨some d, .fieldAddr t x f, ty, pos, after, none⟩ (.pointer (some (ad.add fd.offset))) :=
  fun a w hf => by
    simp [execOp, hf.eval hx, Instr.fieldAt, Instr.sureAddr, fieldPlace, hfd, run_underlying ht, hs.run, Sem.run_bind, Sem.run_pure, Result.andThen_ok]
theorem l_fieldAddr {x : Operand} {t : TypeId} {ad : Addr} {fs : Array Field} {f : Nat} {fd : Field} {s : Nat} (hd : Nat.ble (d + 1) n = true) (ht : P.underlying t = some (.struct fs)) (hfd : fs[f]? = some fd) (hs : SzIs P fd.type (s + 1)) (hx : ev env x = some (.pointer (some ad))) (h : WpL P ops n K rest ((d, .pointer (some (ad.add fd.offset))) :: env) w) :
    WpL P ops n K (⟨some d, .fieldAddr t x f, ty, pos, after, none⟩ :: rest) env w :=
  l_val _ hd (fun a hf => e_fieldAddr ht hfd hs hx a w hf) h
theorem e_nilCheck {x : Operand} {ad : Addr} (hx : ev env x = some (.pointer (some ad))) :
    Ev P n env ⟨some d, .nilCheck x, ty, pos, after, none⟩ (.pointer (some ad)) :=
  fun a w hf => by simp [execOp, hf.eval hx, pure, Sem.run]
theorem l_nilCheck {x : Operand} {ad : Addr} (hd : Nat.ble (d + 1) n = true) (hx : ev env x = some (.pointer (some ad))) (h : WpL P ops n K rest ((d, .pointer (some ad)) :: env) w) :
    WpL P ops n K (⟨some d, .nilCheck x, ty, pos, after, none⟩ :: rest) env w :=
  l_val _ hd (fun a hf => e_nilCheck hx a w hf) h
theorem e_extract {x : Operand} {vs : Array Value} {i : Nat} {v : Value} (hx : ev env x = some (.tuple vs)) (hv : vs[i]? = some v) :
    Ev P n env ⟨some d, .extract x i, ty, pos, after, none⟩ (v) :=
  fun a w hf => by simp [execOp, hf.eval hx, Instr.extract, hv, Sem.run_bind, Sem.run_pure, Result.andThen_ok]
theorem l_extract {x : Operand} {vs : Array Value} {i : Nat} {v : Value} (hd : Nat.ble (d + 1) n = true) (hx : ev env x = some (.tuple vs)) (hv : vs[i]? = some v) (h : WpL P ops n K rest ((d, v) :: env) w) :
    WpL P ops n K (⟨some d, .extract x i, ty, pos, after, none⟩ :: rest) env w :=
  l_val _ hd (fun a hf => e_extract hx hv a w hf) h
theorem e_convInt {x : Operand} {t u : TypeId} {k k' : IntKind} {i : Int} {td : TypeDesc} (hs : P.underlying t = some td) (ht : P.underlying u = some (.int k')) (hx : ev env x = some (.int k i)) :
    Ev P n env ⟨some d, .convert t u x, ty, pos, after, none⟩ (.int k' (k'.wrap i)) :=
  fun a w hf => by
    simp [execOp, hf.eval hx, convert, Conv.intToInt, run_underlying ht, run_underlying hs, Sem.run_bind, Sem.run_pure, Result.andThen_ok]
theorem l_convInt {x : Operand} {t u : TypeId} {k k' : IntKind} {i : Int} {td : TypeDesc} (hd : Nat.ble (d + 1) n = true) (hs : P.underlying t = some td) (ht : P.underlying u = some (.int k')) (hx : ev env x = some (.int k i)) (h : WpL P ops n K rest ((d, .int k' (k'.wrap i)) :: env) w) :
    WpL P ops n K (⟨some d, .convert t u x, ty, pos, after, none⟩ :: rest) env w :=
  l_val _ hd (fun a hf => e_convInt hs ht hx a w hf) h
theorem e_makeFunc {fn : Fn} {xs : Array Operand} {vs : Array Value} (hx : ∀ a, Fits n env a → xs.map a.eval = vs) :
    Ev P n env ⟨some d, .makeFunc fn #[] xs, ty, pos, after, none⟩ (.func fn #[] vs) :=
  fun a w hf => by simp [execOp, hx a hf, Instr.makeFunc, Sem.run_bind, Sem.run_pure, Result.andThen_ok]
theorem l_makeFunc {fn : Fn} {xs : Array Operand} {vs : Array Value} (hd : Nat.ble (d + 1) n = true) (hx : ∀ a, Fits n env a → xs.map a.eval = vs) (h : WpL P ops n K rest ((d, .func fn #[] vs) :: env) w) :
    WpL P ops n K (⟨some d, .makeFunc fn #[] xs, ty, pos, after, none⟩ :: rest) env w :=
  l_val _ hd (fun a hf => e_makeFunc hx a w hf) h
theorem e_slice_h {x y : Operand} {t e : TypeId} {A : Option Addr} {l c s : Nat} {k : IntKind} {i : Int} (ht : P.underlying t = some (.slice e)) (hs : SzIs P e s) (hx : ev env x = some (.slice A l c)) (hy : ev env y = some (.int k i)) (h0 : 0 ≤ i) (h1 : i ≤ c) :
    Ev P n env ⟨some d, .slice t x none (some y) none, ty, pos, after, none⟩ (.slice A i.toNat c) :=
  fun a w hf => by
    cases A <;> simp [execOp, hf.eval hx, hf.eval hy, Instr.sliceAt, Instr.slice, Instr.sliceBounds, Instr.sliceBound, asIntOf, run_underlying ht, hs.run, h0, h1, Addr.add, Sem.run_bind, Sem.run_pure, Result.andThen_ok]
theorem l_slice_h {x y : Operand} {t e : TypeId} {A : Option Addr} {l c s : Nat} {k : IntKind} {i : Int} (hd : Nat.ble (d + 1) n = true) (ht : P.underlying t = some (.slice e)) (hs : SzIs P e s) (hx : ev env x = some (.slice A l c)) (hy : ev env y = some (.int k i)) (h0 : 0 ≤ i) (h1 : i ≤ c) (h : WpL P ops n K rest ((d, .slice A i.toNat c) :: env) w) :
    WpL P ops n K (⟨some d, .slice t x none (some y) none, ty, pos, after, none⟩ :: rest) env w :=
  l_val _ hd (fun a hf => e_slice_h ht hs hx hy h0 h1 a w hf) h
theorem e_slice_l {x y : Operand} {t e : TypeId} {A : Option Addr} {l c s : Nat} {k : IntKind} {i : Int} (ht : P.underlying t = some (.slice e)) (hs : SzIs P e s) (hx : ev env x = some (.slice A l c)) (hy : ev env y = some (.int k i)) (h0 : 0 ≤ i) (h1 : i ≤ l) (h2 : l ≤ c) :
    Ev P n env ⟨some d, .slice t x (some y) none none, ty, pos, after, none⟩ (.slice (if c - i.toNat = 0 then A else A.map (·.add (i.toNat * s))) (l - i.toNat) (c - i.toNat)) :=
  fun a w hf => by
    have e1 : (c = i.toNat) ↔ (c - i.toNat = 0) := by omega
    cases A <;> simp [execOp, hf.eval hx, hf.eval hy, Instr.sliceAt, Instr.slice, Instr.sliceBounds, Instr.sliceBound, asIntOf, run_underlying ht, hs.run, h0, h1, e1, Sem.run_bind, Sem.run_pure, Result.andThen_ok]
theorem l_slice_l {x y : Operand} {t e : TypeId} {A : Option Addr} {l c s : Nat} {k : IntKind} {i : Int} (hd : Nat.ble (d + 1) n = true) (ht : P.underlying t = some (.slice e)) (hs : SzIs P e s) (hx : ev env x = some (.slice A l c)) (hy : ev env y = some (.int k i)) (h0 : 0 ≤ i) (h1 : i ≤ l) (h2 : l ≤ c) (h : WpL P ops n K rest ((d, .slice (if c - i.toNat = 0 then A else A.map (·.add (i.toNat * s))) (l - i.toNat) (c - i.toNat)) :: env) w) :
    WpL P ops n K (⟨some d, .slice t x (some y) none none, ty, pos, after, none⟩ :: rest) env w :=
  l_val _ hd (fun a hf => e_slice_l ht hs hx hy h0 h1 h2 a w hf) h
theorem e_sslice {x y z : Operand} {t : TypeId} {s : ByteArray} {k k' : IntKind} {i j : Int} (ht : P.underlying t = some .string) (hx : ev env x = some (.string s)) (hy : ev env y = some (.int k i)) (hz : ev env z = some (.int k' j)) (h0 : 0 ≤ i) (h1 : i ≤ j) (h2 : j ≤ s.size) :
    Ev P n env ⟨some d, .slice t x (some y) (some z) none, ty, pos, after, none⟩ (.string (s.extract i.toNat j.toNat)) :=
  fun a w hf => by
    have h3 : 0 ≤ j := by omega
    have h4 : i ≤ (j.toNat : Int) := by omega
    simp [execOp, hf.eval hx, hf.eval hy, hf.eval hz, Instr.sliceAt, Instr.slice, Instr.sliceBounds, Instr.sliceBound, asIntOf, run_underlying ht, h0, h2, h3, h4, Sem.run_bind, Sem.run_pure, Result.andThen_ok]
    intro hh; exact absurd hh (by omega)
theorem l_sslice {x y z : Operand} {t : TypeId} {s : ByteArray} {k k' : IntKind} {i j : Int} (hd : Nat.ble (d + 1) n = true) (ht : P.underlying t = some .string) (hx : ev env x = some (.string s)) (hy : ev env y = some (.int k i)) (hz : ev env z = some (.int k' j)) (h0 : 0 ≤ i) (h1 : i ≤ j) (h2 : j ≤ s.size) (h : WpL P ops n K rest ((d, .string (s.extract i.toNat j.toNat)) :: env) w) :
    WpL P ops n K (⟨some d, .slice t x (some y) (some z) none, ty, pos, after, none⟩ :: rest) env w :=
  l_val _ hd (fun a hf => e_sslice ht hx hy hz h0 h1 h2 a w hf) h
theorem e_index_string {x y : Operand} {t : TypeId} {s : ByteArray} {k : IntKind} {i : Int} (ht : P.underlying t = some .string) (hx : ev env x = some (.string s)) (hy : ev env y = some (.int k i)) (h0 : 0 ≤ i) (h1 : i.toNat < s.size) :
    Ev P n env ⟨some d, .index t x y, ty, pos, after, none⟩ (.int .u8 (((s[i.toNat]'h1).toNat : Nat) : Int)) :=
  fun a w hf => by
    have h2 : s[i.toNat]? = some s[i.toNat] := by rw [getElem?_pos s i.toNat h1]
    simp [execOp, hf.eval hx, hf.eval hy, Instr.index, asIntOf, run_underlying ht, h0, h2, Sem.run_bind, Sem.run_pure, Result.andThen_ok]
theorem l_index_string {x y : Operand} {t : TypeId} {s : ByteArray} {k : IntKind} {i : Int} (hd : Nat.ble (d + 1) n = true) (ht : P.underlying t = some .string) (hx : ev env x = some (.string s)) (hy : ev env y = some (.int k i)) (h0 : 0 ≤ i) (h1 : i.toNat < s.size) (h : WpL P ops n K rest ((d, .int .u8 (((s[i.toNat]'h1).toNat : Nat) : Int)) :: env) w) :
    WpL P ops n K (⟨some d, .index t x y, ty, pos, after, none⟩ :: rest) env w :=
  l_val _ hd (fun a hf => e_index_string ht hx hy h0 h1 a w hf) h
end Go.Proofs.Fw
