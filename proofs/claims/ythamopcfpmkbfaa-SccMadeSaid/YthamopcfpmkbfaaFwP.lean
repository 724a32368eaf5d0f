/- The walk: elements of slices of numbers and bits, read and written at one stroke. No condition. -/
import Derived.Test.YthamopcfpmkbfaaFwK
set_option linter.unusedVariables false
set_option linter.unusedSimpArgs false
namespace Go.Proofs.Fw
variable {P : Program} {n : Nat} {env : Env} {a : Act} {w w' : World} {ops : Array Oper} {K : Env → World → Prop} {rest : List Oper} {d : Nat} {ty : TypeId} {pos : String} {after : Array Edge}
variable {w0 : World} {L L' : List Res} {α : Type} {Kx : Kd α} {e : TypeId} {v u : Value} {x : α} {xs ys : List α}
/-- A store of an element that needs no memory of its own. -/
theorem l_storeE {s y : Operand} {t : TypeId} {p ad : Addr} {l c i : Nat} (ht : Plain P t) (hx : ev env s = some (.pointer (some p))) (hy : ev env y = some v) (hp : p = ad.add i) (hs : Kx.sz = 1) (hi : i < xs.length) (h : St w0 (pt (os e Kx) (.slice (some ad) l c) xs :: pt Kx v x :: L) w)
    (k : ∀ w', St w0 (pt (os e Kx) (.slice (some ad) l c) (xs.set i x) :: L) w' → WpL P ops n K rest env w') : WpL P ops n K (⟨none, .store t s y, ty, pos, after, none⟩ :: rest) env w := by
  subst hp
  have hone := pt_one (h.re [1])
  obtain ⟨ad', y', had, hc, hf, h'⟩ := h.os_set hs rfl i hi
  cases had
  exact l_store ht hx hy hone hc hf (k _ h')
theorem St.osN_ad {l c : Nat} {A : Option Addr} {xs : List α} (h : St w0 (pt (os e Kx) (.slice A l c) xs :: L) w) (hs : Kx.sz = 1) (p : Kx.Pers) {i : Nat} (hi : i < xs.length) : ∃ ad, A = some ad := by
  obtain ⟨ad, u, h1, h2, h3⟩ := h.os_cell hs p rfl i hi
  exact ⟨ad, h1⟩
theorem St.osN_at {l c : Nat} {ad : Addr} {xs : List Nat} (h : St w0 (pt (os e kN) (.slice (some ad) l c) xs :: L) w) {i : Nat} (hi : i < xs.length) : w.cell? (ad.add i) = some (.int .i64 (xs[i] : Int)) ∧ xs[i] ≤ 1152921504606846976 := by
  obtain ⟨ad', u, h1, h2, h3⟩ := h.os_cell rfl kN_pers rfl i hi
  cases h1
  obtain ⟨rfl, hb⟩ := h3.nat
  exact ⟨h2, hb⟩
theorem St.osI_at {l c : Nat} {ad : Addr} {xs : List Int} (h : St w0 (pt (os e (kInt .i64)) (.slice (some ad) l c) xs :: L) w) {i : Nat} (hi : i < xs.length) : w.cell? (ad.add i) = some (.int .i64 xs[i]) ∧ -9223372036854775808 ≤ xs[i] ∧ xs[i] ≤ 9223372036854775807 := by
  obtain ⟨ad', u, h1, h2, h3⟩ := h.os_cell rfl (kInt_pers .i64) rfl i hi
  cases h1
  obtain ⟨rfl, hb⟩ := h3.i64
  exact ⟨h2, hb⟩
theorem St.osB_at {l c : Nat} {ad : Addr} {xs : List Bool} (h : St w0 (pt (os e kBool) (.slice (some ad) l c) xs :: L) w) {i : Nat} (hi : i < xs.length) : w.cell? (ad.add i) = some (.bool xs[i]) := by
  obtain ⟨ad', u, h1, h2, h3⟩ := h.os_cell rfl kBool_pers rfl i hi
  cases h1
  rw [h3.bool] at h2
  exact h2
theorem St.rsN_ad {l c : Nat} {A : Option Addr} {xs : List α} (h : St w0 (pt (rs Kx) (.slice A l c) xs :: L) w) (hs : Kx.sz = 1) {i : Nat} (hi : i < xs.length) : ∃ ad, A = some ad := by
  obtain ⟨ad, u, h1, h2, h3⟩ := h.rs_cell hs rfl i hi
  exact ⟨ad, h1⟩
theorem St.rsN_at {l c : Nat} {ad : Addr} {xs : List Nat} (h : St w0 (pt (rs kN) (.slice (some ad) l c) xs :: L) w) {i : Nat} (hi : i < xs.length) : w.cell? (ad.add i) = some (.int .i64 (xs[i] : Int)) ∧ xs[i] ≤ 1152921504606846976 := by
  obtain ⟨ad', u, h1, h2, h3⟩ := h.rs_cell rfl rfl i hi
  cases h1
  obtain ⟨rfl, hb⟩ := h3.nat
  exact ⟨h2, hb⟩
theorem St.rsI_at {l c : Nat} {ad : Addr} {xs : List Int} (h : St w0 (pt (rs (kInt .i64)) (.slice (some ad) l c) xs :: L) w) {i : Nat} (hi : i < xs.length) : w.cell? (ad.add i) = some (.int .i64 xs[i]) ∧ -9223372036854775808 ≤ xs[i] ∧ xs[i] ≤ 9223372036854775807 := by
  obtain ⟨ad', u, h1, h2, h3⟩ := h.rs_cell rfl rfl i hi
  cases h1
  obtain ⟨rfl, hb⟩ := h3.i64
  exact ⟨h2, hb⟩
/-- A store into one cell of a block. -/
theorem l_storeF {s y : Operand} {t t' : TypeId} {b off : Nat} {cs : Array Value} (ht : Plain P t) (hx : ev env s = some (.pointer (some ⟨b, off, none⟩))) (hy : ev env y = some v) (hv : v.oneCell' = true) (hc : cs[off]? = some u) (h : St w0 (blk b (.cells cs t' (0, 0)) :: L) w)
    (k : ∀ w', St w0 (blk b (.cells (cs.setIfInBounds off v) t' (0, 0)) :: L) w' → WpL P ops n K rest env w') : WpL P ops n K (⟨none, .store t s y, ty, pos, after, none⟩ :: rest) env w :=
  l_store ht hx hy hv (h.blk_cell.trans hc) h.blk_free (k _ (h.setCell _))
/-! ### addresses that are spelled shortly -/
theorem e_fieldAddr0 {x : Operand} {t : TypeId} {b : Nat} {fs : Array Field} {f : Nat} {fd : Field} {s : Nat} (o : Nat) (ht : P.underlying t = some (.struct fs)) (hfd : fs[f]? = some fd) (hs : SzIs P fd.type (s + 1)) (ho : fd.offset = o) (hx : ev env x = some (.pointer (some ⟨b, 0, none⟩))) :
    Ev P n env ⟨some d, .fieldAddr t x f, ty, pos, after, none⟩ (.pointer (some ⟨b, o, none⟩)) := by
  have := e_fieldAddr (P := P) (n := n) (env := env) (d := d) (ty := ty) (pos := pos) (after := after) ht hfd hs hx
  rw [ho, addr_add, Nat.zero_add] at this
  exact this
theorem l_fieldAddr0 {x : Operand} {t : TypeId} {b : Nat} {fs : Array Field} {f : Nat} {fd : Field} {s : Nat} (o : Nat) (hd : Nat.ble (d + 1) n = true) (ht : P.underlying t = some (.struct fs)) (hfd : fs[f]? = some fd) (hs : SzIs P fd.type (s + 1)) (ho : fd.offset = o) (hx : ev env x = some (.pointer (some ⟨b, 0, none⟩)))
    (h : WpL P ops n K rest ((d, .pointer (some ⟨b, o, none⟩)) :: env) w) : WpL P ops n K (⟨some d, .fieldAddr t x f, ty, pos, after, none⟩ :: rest) env w :=
  l_val _ hd (fun a hf => e_fieldAddr0 o ht hfd hs ho hx a w hf) h
theorem e_fieldAddrA {x : Operand} {t : TypeId} {ad : Addr} {fs : Array Field} {f : Nat} {fd : Field} {s : Nat} (o : Nat) (ht : P.underlying t = some (.struct fs)) (hfd : fs[f]? = some fd) (hs : SzIs P fd.type (s + 1)) (ho : fd.offset = o) (hx : ev env x = some (.pointer (some ad))) :
    Ev P n env ⟨some d, .fieldAddr t x f, ty, pos, after, none⟩ (.pointer (some (ad.add o))) := by
  have := e_fieldAddr (P := P) (n := n) (env := env) (d := d) (ty := ty) (pos := pos) (after := after) ht hfd hs hx
  rwa [ho] at this
theorem l_fieldAddrA {x : Operand} {t : TypeId} {ad : Addr} {fs : Array Field} {f : Nat} {fd : Field} {s : Nat} (o : Nat) (hd : Nat.ble (d + 1) n = true) (ht : P.underlying t = some (.struct fs)) (hfd : fs[f]? = some fd) (hs : SzIs P fd.type (s + 1)) (ho : fd.offset = o) (hx : ev env x = some (.pointer (some ad)))
    (h : WpL P ops n K rest ((d, .pointer (some (ad.add o))) :: env) w) : WpL P ops n K (⟨some d, .fieldAddr t x f, ty, pos, after, none⟩ :: rest) env w :=
  l_val _ hd (fun a hf => e_fieldAddrA o ht hfd hs ho hx a w hf) h
theorem e_indexAddr1 {x y : Operand} {t e : TypeId} {ad : Addr} {l c i : Nat} {k : IntKind} (ht : P.underlying t = some (.slice e)) (hs : SzIs P e 1) (hx : ev env x = some (.slice (some ad) l c)) (hy : ev env y = some (.int k (i : Int))) (h1 : i < l) :
    Ev P n env ⟨some d, .indexAddr t x y, ty, pos, after, none⟩ (.pointer (some (ad.add i))) := by
  have := e_indexAddr (P := P) (n := n) (env := env) (d := d) (ty := ty) (pos := pos) (after := after) ht hs hx hy (by omega) (by omega)
  simpa using this
theorem l_indexAddr1 {x y : Operand} {t e : TypeId} {ad : Addr} {l c i : Nat} {k : IntKind} (hd : Nat.ble (d + 1) n = true) (ht : P.underlying t = some (.slice e)) (hs : SzIs P e 1) (hx : ev env x = some (.slice (some ad) l c)) (hy : ev env y = some (.int k (i : Int))) (h1 : i < l)
    (h : WpL P ops n K rest ((d, .pointer (some (ad.add i))) :: env) w) : WpL P ops n K (⟨some d, .indexAddr t x y, ty, pos, after, none⟩ :: rest) env w :=
  l_val _ hd (fun a hf => e_indexAddr1 ht hs hx hy h1 a w hf) h
theorem at_eq {ad : Addr} {i j : Nat} (h : i = j) : ad.add i = ad.add j := by rw [h]
end Go.Proofs.Fw
