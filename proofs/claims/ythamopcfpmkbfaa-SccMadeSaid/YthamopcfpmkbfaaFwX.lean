/- The walk: one of several resources brought ahead, and put back changed. No condition. -/
import Derived.Test.YthamopcfpmkbfaaFwO
set_option linter.unusedVariables false
set_option linter.unusedSimpArgs false
namespace Go.Proofs.Fw
variable {P : Program} {w w' W : World} {w0 : World} {L L' : List Res} {α : Type} {Kx : Kd α} {e : TypeId} {v u : Value} {x : α} {ps : List (Value × α)} {i : Nat}
theorem each_app (Kx : Kd α) : ∀ (ps qs : List (Value × α)), each Kx (ps ++ qs) = each Kx ps ++ each Kx qs
  | [], qs => rfl
  | p :: r, qs => by simp [each, each_app Kx r qs]
theorem St.each_out (h : St w0 (each Kx ps ++ L) w) (hi : i < ps.length) : St w0 (pt Kx ps[i].1 ps[i].2 :: (each Kx (ps.take i) ++ (each Kx (ps.drop (i + 1)) ++ L))) w := by
  have e1 : ps = ps.take i ++ ps[i] :: ps.drop (i + 1) := by rw [← List.drop_eq_getElem_cons hi, List.take_append_drop]
  rw [e1, each_app] at h
  simp only [each, List.append_assoc, List.cons_append] at h
  exact h.perm List.perm_middle
theorem St.each_in (h : St w0 (pt Kx v x :: (each Kx (ps.take i) ++ (each Kx (ps.drop (i + 1)) ++ L))) w) (hi : i < ps.length) : St w0 (each Kx (ps.set i (v, x)) ++ L) w := by
  rw [List.set_eq_take_append_cons_drop, if_pos hi, each_app]
  simp only [each, List.append_assoc, List.cons_append]
  exact h.perm List.perm_middle.symm
theorem St.each_out1 {R : Res} (h : St w0 (R :: (each Kx ps ++ L)) w) (hi : i < ps.length) : St w0 (pt Kx ps[i].1 ps[i].2 :: R :: (each Kx (ps.take i) ++ (each Kx (ps.drop (i + 1)) ++ L))) w := by
  have e1 : ps = ps.take i ++ ps[i] :: ps.drop (i + 1) := by rw [← List.drop_eq_getElem_cons hi, List.take_append_drop]
  rw [e1, each_app] at h
  simp only [each, List.append_assoc, List.cons_append] at h
  exact h.perm ((List.Perm.cons R List.perm_middle).trans (List.Perm.swap _ _ _))
theorem St.each_in1 {R : Res} (h : St w0 (pt Kx v x :: R :: (each Kx (ps.take i) ++ (each Kx (ps.drop (i + 1)) ++ L))) w) (hi : i < ps.length) : St w0 (R :: (each Kx (ps.set i (v, x)) ++ L)) w := by
  rw [List.set_eq_take_append_cons_drop, if_pos hi, each_app]
  simp only [each, List.append_assoc, List.cons_append]
  exact h.perm ((List.Perm.swap _ _ _).trans (List.Perm.cons R List.perm_middle.symm))
/-! ### bytes as numbers -/
def k8 : Kd Nat := ⟨1, fun _ _ cs m => cs = [.int .u8 (m : Int)] ∧ m ≤ 255, fun _ r => r, fun _ r => r, fun r => by rw [r.1]; rfl, fun r v hv => by rw [r.1] at hv; simp at hv; subst hv; rfl⟩
theorem k8_pers : k8.Pers := fun r => r
theorem St.byte {m : Nat} (h : St w0 (pt k8 v m :: L) w) : v = .int .u8 (m : Int) ∧ m ≤ 255 := by
  obtain ⟨I, g, _, _, r⟩ := h.rep
  exact ⟨by have := r.1; simpa using this, r.2⟩
theorem St.rs8_at {l c : Nat} {ad : Addr} {xs : List Nat} (h : St w0 (pt (rs k8) (.slice (some ad) l c) xs :: L) w) {i : Nat} (hi : i < xs.length) : w.cell? (ad.add i) = some (.int .u8 (xs[i] : Int)) ∧ xs[i] ≤ 255 := by
  obtain ⟨ad', u, h1, h2, h3⟩ := h.rs_cell rfl rfl i hi
  cases h1
  obtain ⟨rfl, hb⟩ := h3.byte
  exact ⟨h2, hb⟩
variable {n : Nat} {env : Env} {a : Act} {ops : Array Oper} {K : Env → World → Prop} {rest : List Oper} {d : Nat} {ty : TypeId} {pos : String} {after : Array Edge}
theorem wrap8 (m : Nat) (h : m ≤ 255) : IntKind.i64.wrap (m : Int) = (m : Int) := by
  simp only [IntKind.wrap, IntKind.signed, IntKind.bits]
  simp
  omega
theorem e_conv8 {x : Operand} {t u : TypeId} {m : Nat} {td : TypeDesc} (hs : P.underlying t = some td) (ht : P.underlying u = some (.int .i64)) (hm : m ≤ 255) (hx : ev env x = some (.int .u8 (m : Int))) :
    Ev P n env ⟨some d, .convert t u x, ty, pos, after, none⟩ (.int .i64 (m : Int)) := by
  have := e_convInt (P := P) (n := n) (env := env) (d := d) (ty := ty) (pos := pos) (after := after) hs ht hx
  rwa [wrap8 m hm] at this
theorem l_conv8 {x : Operand} {t u : TypeId} {m : Nat} {td : TypeDesc} (hd : Nat.ble (d + 1) n = true) (hs : P.underlying t = some td) (ht : P.underlying u = some (.int .i64)) (hm : m ≤ 255) (hx : ev env x = some (.int .u8 (m : Int)))
    (h : WpL P ops n K rest ((d, .int .i64 (m : Int)) :: env) w) : WpL P ops n K (⟨some d, .convert t u x, ty, pos, after, none⟩ :: rest) env w :=
  l_val _ hd (fun a hf => e_conv8 hs ht hm hx a w hf) h
theorem e_remN {x y : Operand} {xt yt : TypeId} {k : IntKind} {i j : Nat} (hx : ev env x = some (.int k (i : Int))) (hy : ev env y = some (.int k (j : Int))) (hj : j ≠ 0) : Ev P n env ⟨some d, .binOp .rem xt x y yt, ty, pos, after, none⟩ (.int k ((i % j : Nat) : Int)) := by
  have := e_rem (P := P) (n := n) (env := env) (xt := xt) (yt := yt) (d := d) (ty := ty) (pos := pos) (after := after) hx hy (by omega)
  have e : ((i : Int)).tmod (j : Int) = ((i % j : Nat) : Int) := rfl
  rwa [e] at this
theorem l_remN {x y : Operand} {xt yt : TypeId} {k : IntKind} {i j : Nat} (hd : Nat.ble (d + 1) n = true) (hx : ev env x = some (.int k (i : Int))) (hy : ev env y = some (.int k (j : Int))) (hj : j ≠ 0) (h : WpL P ops n K rest ((d, .int k ((i % j : Nat) : Int)) :: env) w) :
    WpL P ops n K (⟨some d, .binOp .rem xt x y yt, ty, pos, after, none⟩ :: rest) env w :=
  l_val _ hd (fun a hf => e_remN hx hy hj a w hf) h
/-- A slot's value is spelled anew, where the order is open. -/
theorem d_same {C : World → Prop} {flag : Nat → Bool} {r : List Step} (d : Nat) (v : Value) {u : Value} (hu : lk env d = some u) (e : u = v) (h : WpD P ops C flag n K r ((d, v) :: env) w) : WpD P ops C flag n K r env w :=
  ⟨fun Q a hf hQ => h.go Q a (hf.dup (by rw [hu, e])) hQ⟩
/-- A load that is guarded by what says yes. -/
theorem d_loadY {x : Operand} {t : TypeId} {ad : Addr} {w1 : World} {flag : Nat → Bool} {r : List Step} {W : List Nat} {i j dj : Nat} {want : Bool} {v : Value} (hi : ops[i]? = some ⟨some d, .load t x, ty, pos, after, some (j, want)⟩) (hd : Nat.ble (d + 1) n = true) (hj : (ops[j]?).bind (·.dst) = some dj) (hb : lk env dj = some (.bool want)) (ht : Plain P t) (hx : ev env x = some (.pointer (some ad))) (hc : w1.cell? ad = some v)
    (h : WpD P ops (fun W => W = w1) flag n K r ((d, v) :: env) w1) : WpD P ops (fun W => W = w1) flag n K (.q i W :: r) env w1 :=
  ⟨fun Q a hf hQ => ⟨rfl, _, v, hi, .inl ⟨by simp [Region.wanted, yielded, hj, hf.at_ dj _ hb], fun w hw => by subst hw; simp [execOp, hf.eval hx, Instr.loadAt, Instr.sureAddr, Sem.run_bind, Sem.run_pure, Result.andThen_ok, run_load ht hc]⟩, h.go Q _ (hf.put hd v) hQ⟩⟩
/-- A read whose guard says no. -/
theorem d_noQ {C : World → Prop} {flag : Nat → Bool} {r : List Step} {W : List Nat} {i j dj : Nat} {want b : Bool} {op : Op} (hC : C w) (hi : ops[i]? = some ⟨some d, op, ty, pos, after, some (j, want)⟩) (hd : Nat.ble (d + 1) n = true) (hj : (ops[j]?).bind (·.dst) = some dj) (hb : lk env dj = some (.bool b)) (hne : (b == want) = false)
    (h : WpD P ops C flag n K r ((d, undef) :: env) w) : WpD P ops C flag n K (.q i W :: r) env w := by
  refine ⟨fun Q a hf hQ => ?_⟩
  have hne' : b ≠ want := by simpa using hne
  exact ⟨hC, _, undef, hi, .inr ⟨by simp [Region.wanted, yielded, hj, hf.at_ dj _ hb, hne'], rfl⟩, h.go Q _ (hf.put hd undef) hQ⟩
end Go.Proofs.Fw
