/- What the program says of its types; keys of two numbers. No condition. -/
import Derived.Test.YthamopcfpmkbfaaFB
import Derived.Test.YthamopcfpmkbfaaChecked
set_option linter.unusedVariables false
set_option linter.unusedSimpArgs false
namespace Go.Proofs.Ythamopcfpmkbfaa
open Go.Proofs.Fw
theorem sz3 : SzIs Try.prog 3 1 := .of (by kernel_rfl)
theorem sz4 : SzIs Try.prog 4 1 := .of (by kernel_rfl)
theorem sz26 : SzIs Try.prog 26 1 := .of (by kernel_rfl)
theorem sz54 : SzIs Try.prog 54 2 := .of (by kernel_rfl)
theorem sz23 : SzIs Try.prog 23 1 := .of (by kernel_rfl)
theorem sz41 : SzIs Try.prog 41 1 := .of (by kernel_rfl)
theorem sz_23 : SzIs Try.prog 26 1 := sz26
theorem sz_26 : SzIs Try.prog 3 1 := sz3
theorem sz_41 : SzIs Try.prog 4 1 := sz4
theorem sz_56 : SzIs Try.prog 54 2 := sz54
theorem szF43_0 : SzIs Try.prog 23 1 := sz23
theorem szF43_1 : SzIs Try.prog 26 1 := sz26
theorem szF43_2 : SzIs Try.prog 26 1 := sz26
theorem szF43_3 : SzIs Try.prog 26 1 := sz26
theorem szF43_4 : SzIs Try.prog 41 1 := sz41
theorem szF43_5 : SzIs Try.prog 3 1 := sz3
theorem szF43_6 : SzIs Try.prog 23 1 := sz23
theorem szF54_0 : SzIs Try.prog 3 1 := sz3
theorem szF54_1 : SzIs Try.prog 3 1 := sz3
theorem plain3 : Plain Try.prog 3 := .of (by kernel_rfl) (by kernel_rfl)
theorem plain4 : Plain Try.prog 4 := .of (by kernel_rfl) (by kernel_rfl)
theorem plain5 : Plain Try.prog 5 := .of (by kernel_rfl) (by kernel_rfl)
theorem plain23 : Plain Try.prog 23 := .of (by kernel_rfl) (by kernel_rfl)
theorem plain26 : Plain Try.prog 26 := .of (by kernel_rfl) (by kernel_rfl)
theorem plain41 : Plain Try.prog 41 := .of (by kernel_rfl) (by kernel_rfl)
theorem zero3 : ZeroIs Try.prog 3 (.int .i64 0) := .of (by kernel_rfl)
theorem zero4 : ZeroIs Try.prog 4 (.bool false) := .of (by kernel_rfl)
theorem zero26 : ZeroIs Try.prog 26 (.slice none 0 0) := .of (by kernel_rfl)
theorem zero52 : ZeroIs Try.prog 52 (.agg #[.int .i64 0, .int .i64 0]) := .of (by kernel_rfl)
theorem zero54 : ZeroIs Try.prog 54 (.agg #[.int .i64 0, .int .i64 0]) := .of (by kernel_rfl)
theorem zero63 : ZeroIs Try.prog 63 (.agg #[.int .i64 0, .int .i64 0]) := .of (by kernel_rfl)
theorem info3 : (Try.prog.info? 3).map (fun i => (i.zero, i.size, i.bytes)) = some (some (.int .i64 0), 1, 8) := by kernel_rfl
theorem info4 : (Try.prog.info? 4).map (fun i => (i.zero, i.size, i.bytes)) = some (some (.bool false), 1, 1) := by kernel_rfl
theorem info26 : (Try.prog.info? 26).map (fun i => (i.zero, i.size, i.bytes)) = some (some (.slice none 0 0), 1, 24) := by kernel_rfl
theorem info54 : (Try.prog.info? 54).map (fun i => (i.zero, i.size, i.bytes)) = some (some (.agg #[.int .i64 0, .int .i64 0]), 2, 16) := by kernel_rfl
theorem laid : laidOutB Try.prog = true := by kernel_rfl
theorem law52 : Go.WideMaps.KeyLaw Try.prog 52 := deep_law_gate laid (of_decide_eq_true (by kernel_rfl)) (of_decide_eq_true (by kernel_rfl)) (by kernel_rfl) (by kernel_rfl)
theorem law63 : Go.WideMaps.KeyLaw Try.prog 63 := deep_law_gate laid (of_decide_eq_true (by kernel_rfl)) (of_decide_eq_true (by kernel_rfl)) (by kernel_rfl) (by kernel_rfl)
def pairV (p : Int × Int) : Value := .agg #[.int .i64 p.1, .int .i64 p.2]
theorem pairV_inj : ∀ x y, pairV x = pairV y → x = y := by
  rintro ⟨a, b⟩ ⟨c, d⟩ h
  simp [pairV] at h
  simp [h]
theorem key_pair {P : Program} {t e : TypeId} (ht : P.underlying t = some (.array 2 e)) (he : P.underlying e = some (.int .i64)) (hc : P.cellsOf t = 2) (hce : P.cellsOf e = 1) (hk : P.keyType t = true) (hn : 2 ≤ P.types.size + 1) {x y : Int}
    (h1 : IntKind.i64.min ≤ x) (h2 : x ≤ IntKind.i64.max) (h3 : IntKind.i64.min ≤ y) (h4 : y ≤ IntKind.i64.max) : ∃ l, keyOf P t (pairV (x, y)) = some l := by
  obtain ⟨m, hm⟩ : ∃ m, P.types.size = m + 1 := ⟨P.types.size - 1, by omega⟩
  have w1 : (Lit.int .i64 x).wf = true := by
    unfold Lit.wf; simp only [Bool.and_eq_true, decide_eq_true_eq]; exact ⟨h1, h2⟩
  have w2 : (Lit.int .i64 y).wf = true := by
    unfold Lit.wf; simp only [Bool.and_eq_true, decide_eq_true_eq]; exact ⟨h3, h4⟩
  simp [keyOf, ht, hk, hm, pairV, Value.formed, hc, Value.cells, Program.keyLits, he, hce, List.range_succ, w1, w2]
theorem key52 {x y : Int} (h1 : IntKind.i64.min ≤ x) (h2 : x ≤ IntKind.i64.max) (h3 : IntKind.i64.min ≤ y) (h4 : y ≤ IntKind.i64.max) : ∃ l, keyOf Try.prog 52 (pairV (x, y)) = some l :=
  key_pair Try.underlying52 Try.underlying3 (by kernel_rfl) (by kernel_rfl) (by kernel_rfl) (of_decide_eq_true (by kernel_rfl)) h1 h2 h3 h4
theorem key63 {x y : Int} (h1 : IntKind.i64.min ≤ x) (h2 : x ≤ IntKind.i64.max) (h3 : IntKind.i64.min ≤ y) (h4 : y ≤ IntKind.i64.max) : ∃ l, keyOf Try.prog 63 (pairV (x, y)) = some l :=
  key_pair Try.underlying63 Try.underlying3 (by kernel_rfl) (by kernel_rfl) (by kernel_rfl) (of_decide_eq_true (by kernel_rfl)) h1 h2 h3 h4
end Go.Proofs.Ythamopcfpmkbfaa
