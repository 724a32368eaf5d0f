/- The finder of groups: what it holds, and how a node is come to. No condition but that the graph is small. -/
import Derived.Test.YthamopcfpmkbfaaG0
import Derived.Test.YthamopcfpmkbfaaGS
set_option linter.unusedVariables false
set_option linter.unusedSimpArgs false
namespace Go.Proofs.Ythamopcfpmkbfaa
open Go.Proofs.Fw
structure FV where
  o : Value
  nu : Value
  lo : Value
  op : Value
  is : Value
  gr : Value
abbrev fndL (b : Nat) (f : FV) (s : Fnd) (L : List Res) : List Res :=
  blk b (.cells #[f.o, f.nu, f.lo, f.op, f.is, .int .i64 (s.count : Int), f.gr] 43 (0, 0)) :: pt osN f.nu s.num :: pt osN f.lo s.low :: pt osN f.op s.opn :: pt osB f.is s.is :: pt osNN f.gr s.groups :: pt rsNN f.o s.out :: L
variable {w0 w : World} {L : List Res} {b n : Nat} {f : FV} {s : Fnd}
theorem fnd_cells {x0 x1 x2 x3 x4 x5 x6 : Value} (h : St w0 (blk b (.cells #[x0, x1, x2, x3, x4, x5, x6] 43 (0, 0)) :: L) w) :
    w.cell? ⟨b, 0, none⟩ = some x0 ∧ w.cell? ⟨b, 1, none⟩ = some x1 ∧ w.cell? ⟨b, 2, none⟩ = some x2 ∧ w.cell? ⟨b, 3, none⟩ = some x3 ∧ w.cell? ⟨b, 4, none⟩ = some x4 ∧ w.cell? ⟨b, 5, none⟩ = some x5 ∧ w.cell? ⟨b, 6, none⟩ = some x6 :=
  ⟨h.blk_cell, h.blk_cell, h.blk_cell, h.blk_cell, h.blk_cell, h.blk_cell, h.blk_cell⟩
set_option maxRecDepth 4000 in
theorem enter_calls (hs : Safe n s) (x : Nat) (hx : x < n) (hc : s.count < n) (ho : s.opn.length < n) (h : St w0 (fndL b f s L) w) :
    Calls Try.prog 34 #[.pointer (some ⟨b, 0, none⟩), .int .i64 (x : Int)] w fun e w' => e = .returned (.agg #[.int .i64 (x : Int), .int .i64 0]) ∧ ∃ f', St w0 (fndL b f' (enterF s x) L) w' := by
  obtain ⟨s1, s2, s3, s4, s5, s6, s7, s8, s9, s10⟩ := hs
  refine f_cell Try.func34 rfl Try.results34 Try.ntmps34 rfl ?_
  refine c_seq ?_
  refine c_region ?_
  refine l_alloc rfl zero54 h ?_
  clear h; intro rb w h
  refine l_nil ?_
  refine c_seq ?_
  refine c_region ?_
  have f5 := (fnd_cells (h.re [1])).2.2.2.2.2.1
  refine l_move rfl rfl ?_
  refine l_nilCheck rfl rfl ?_
  first | refine l_fieldAddr0 5 rfl Try.underlying43 rfl szF43_5 rfl rfl ?_ | refine l_fieldAddrA 5 rfl Try.underlying43 rfl szF43_5 rfl rfl ?_
  refine l_load rfl plain3 rfl (by assumption) ?_
  first | refine l_addr rfl rfl rfl (by omega) (by omega) ?_ | refine l_sadd rfl rfl rfl (by omega) ?_
  refine l_nilCheck rfl rfl ?_
  first | refine l_fieldAddr0 5 rfl Try.underlying43 rfl szF43_5 rfl rfl ?_ | refine l_fieldAddrA 5 rfl Try.underlying43 rfl szF43_5 rfl rfl ?_
  refine l_storeF plain3 rfl rfl rfl rfl (h.re [1]) ?_
  clear h f5; intro w h
  refine l_nil ?_
  obtain ⟨fo, fnu, flo, fop, fis, fgr⟩ := f
  obtain ⟨A1, c1, rfl, -, -⟩ := ((h.re [2]).os_form' s3)
  obtain ⟨A2, c2, rfl, -, -⟩ := ((h.re [3]).os_form' s4)
  obtain ⟨A4, c4, rfl, -, -⟩ := ((h.re [5]).os_form' s5)
  obtain ⟨A5, c5, e5, -, -⟩ := ((h.re [4]).os_form)
  obtain ⟨a1, rfl⟩ := (h.re [2]).osN_ad rfl kN_pers (i := x) (by omega)
  obtain ⟨a2, rfl⟩ := (h.re [3]).osN_ad rfl kN_pers (i := x) (by omega)
  obtain ⟨a4, rfl⟩ := (h.re [5]).osN_ad rfl kBool_pers (i := x) (by omega)
  obtain ⟨k, hk⟩ : ∃ k, k = s.count + 1 := ⟨_, rfl⟩
  replace h : St w0 (blk b (.cells #[fo, .slice (some a1) n c1, .slice (some a2) n c2, fop, .slice (some a4) n c4, .int .i64 (k : Int), fgr] 43 (0, 0)) :: pt osN (.slice (some a1) n c1) s.num :: pt osN (.slice (some a2) n c2) s.low :: pt osN fop s.opn :: pt osB (.slice (some a4) n c4) s.is :: pt osNN fgr s.groups :: pt rsNN fo s.out :: blk rb (.cells #[.int .i64 0, .int .i64 0] 54 (0, 0)) :: L) w := by
    rw [hk]
    exact h.re [0, 2, 3, 4, 5, 6, 7, 1]
  refine c_seq ?_
  refine c_draw (by kernel_rfl) (fun w1 W => W = w1) (fun i => ([4, 5, 6, 7, 8, 9, 10, 11, 12, 13, 14, 15, 16, 17] : List Nat).contains i) [.p 0 [], .p 1 [], .p 2 [], .q 3 [18, 19, 20, 21], .p 4 [], .p 5 [], .p 6 [], .p 7 [], .q 8 [18, 19, 20, 21], .p 9 [], .p 10 [], .p 11 [], .p 12 [], .q 13 [18, 19, 20, 21], .p 14 [], .p 15 [], .p 16 [], .q 17 [18, 19, 20, 21], .p 18 [], .x 19, .p 20 [], .x 21] (by kernel_rfl) rfl (by kernel_rfl) h ?_
  clear h; intro w h hw
  obtain ⟨f0, f1, f2, f3, f4, f5, f6⟩ := fnd_cells h
  refine d_val rfl rfl (e_move rfl) ?_
  refine d_val rfl rfl (e_nilCheck rfl) ?_
  first | refine d_val rfl rfl (e_fieldAddr0 1 Try.underlying43 rfl szF43_1 rfl rfl) ?_ | refine d_val rfl rfl (e_fieldAddrA 1 Try.underlying43 rfl szF43_1 rfl rfl) ?_
  refine d_load1 rfl rfl plain26 rfl (by assumption) ?_
  refine d_val rfl rfl (e_move rfl) ?_
  refine d_val rfl rfl (e_move rfl) ?_
  refine d_val rfl rfl (e_nilCheck rfl) ?_
  first | refine d_val rfl rfl (e_fieldAddr0 2 Try.underlying43 rfl szF43_2 rfl rfl) ?_ | refine d_val rfl rfl (e_fieldAddrA 2 Try.underlying43 rfl szF43_2 rfl rfl) ?_
  refine d_load1 rfl rfl plain26 rfl (by assumption) ?_
  refine d_val rfl rfl (e_move rfl) ?_
  refine d_val rfl rfl (e_move rfl) ?_
  refine d_val rfl rfl (e_nilCheck rfl) ?_
  first | refine d_val rfl rfl (e_fieldAddr0 5 Try.underlying43 rfl szF43_5 rfl rfl) ?_ | refine d_val rfl rfl (e_fieldAddrA 5 Try.underlying43 rfl szF43_5 rfl rfl) ?_
  refine d_load1 rfl rfl plain3 rfl (by assumption) ?_
  refine d_val rfl rfl (e_move rfl) ?_
  refine d_val rfl rfl (e_nilCheck rfl) ?_
  first | refine d_val rfl rfl (e_fieldAddr0 5 Try.underlying43 rfl szF43_5 rfl rfl) ?_ | refine d_val rfl rfl (e_fieldAddrA 5 Try.underlying43 rfl szF43_5 rfl rfl) ?_
  refine d_load1 rfl rfl plain3 rfl (by assumption) ?_
  first | refine d_val rfl rfl (e_indexAddr1 Try.underlying26 (by first | exact sz_26) rfl rfl (by omega)) ?_ | refine d_val rfl rfl (e_indexAddrN Try.underlying26 (by first | exact sz_26) rfl rfl (by omega)) ?_ | refine d_val rfl rfl (e_indexAddr Try.underlying26 (by first | exact sz_26) rfl rfl (by omega) (by omega)) ?_
  refine d_step rfl ?_
  refine l_storeE plain3 rfl rfl rfl rfl (by omega) ((h.re [1]).addNat k (by omega) |>.re [1]) ?_
  clear h f0 f1 f2 f3 f4 f5 f6 hw; intro w h
  refine l_nil ⟨fun hf => (nomatch hf), ?_⟩
  first | refine d_val rfl rfl (e_indexAddr1 Try.underlying26 (by first | exact sz_26) rfl rfl (by omega)) ?_ | refine d_val rfl rfl (e_indexAddrN Try.underlying26 (by first | exact sz_26) rfl rfl (by omega)) ?_ | refine d_val rfl rfl (e_indexAddr Try.underlying26 (by first | exact sz_26) rfl rfl (by omega) (by omega)) ?_
  refine d_step rfl ?_
  refine l_storeE plain3 rfl rfl rfl rfl (by omega) ((h.re [2]).addNat k (by omega) |>.re [1]) ?_
  clear h; intro w h
  refine l_nil ⟨fun hf => (nomatch hf), ?_⟩
  refine d_nil ?_
  replace h : St w0 (blk b (.cells #[fo, .slice (some a1) n c1, .slice (some a2) n c2, fop, .slice (some a4) n c4, .int .i64 (k : Int), fgr] 43 (0, 0)) :: pt osN (.slice (some a1) n c1) (s.num.set x k) :: pt osN (.slice (some a2) n c2) (s.low.set x k) :: pt osN fop s.opn :: pt osB (.slice (some a4) n c4) s.is :: pt osNN fgr s.groups :: pt rsNN fo s.out :: blk rb (.cells #[.int .i64 0, .int .i64 0] 54 (0, 0)) :: L) w := h.re [2, 1, 0]
  refine c_seq ?_
  refine c_draw (by kernel_rfl) (fun w1 W => W.cell? ⟨b, 3, none⟩ = some fop ∧ W.cell? ⟨b, 4, none⟩ = some (.slice (some a4) n c4)) (fun i => ([5, 6, 7, 8, 9, 10, 11, 12] : List Nat).contains i) [.p 0 [], .p 1 [], .p 2 [], .p 3 [], .q 4 [13, 14, 15, 16, 17], .p 5 [], .p 6 [], .p 7 [], .p 8 [], .q 9 [12, 13, 14, 15, 16, 17], .p 10 [], .x 11, .x 12, .p 13 [], .p 14 [], .x 15, .p 16 [], .x 17] (by kernel_rfl) rfl (by kernel_rfl) h ?_ /- flagged effects: [11, 12] -/
  clear h; intro w h hw
  obtain ⟨f0, f1, f2, f3, f4, f5, f6⟩ := fnd_cells h
  refine d_val rfl rfl (e_move rfl) ?_
  refine d_val rfl rfl (e_move rfl) ?_
  refine d_val rfl rfl (e_nilCheck rfl) ?_
  first | refine d_val rfl rfl (e_fieldAddr0 4 Try.underlying43 rfl szF43_4 rfl rfl) ?_ | refine d_val rfl rfl (e_fieldAddrA 4 Try.underlying43 rfl szF43_4 rfl rfl) ?_
  refine d_load rfl rfl ⟨f3, f4⟩ plain41 rfl (fun w h => h.2) ?_
  refine d_val rfl rfl (e_move rfl) ?_
  refine d_val rfl rfl (e_move rfl) ?_
  refine d_val rfl rfl (e_nilCheck rfl) ?_
  first | refine d_val rfl rfl (e_fieldAddr0 3 Try.underlying43 rfl szF43_3 rfl rfl) ?_ | refine d_val rfl rfl (e_fieldAddrA 3 Try.underlying43 rfl szF43_3 rfl rfl) ?_
  refine d_load rfl rfl ⟨f3, f4⟩ plain26 rfl (fun w h => h.1) ?_
  refine d_val rfl rfl (e_move rfl) ?_
  refine d_step rfl ?_
  refine l_buildSlice1 (x := x) rfl Try.underlying26 sz3 zero3 rfl rfl (h.addNat x (by omega)) ?_
  clear h f0 f1 f2 f3 f4 f5 f6 hw; intro bs w h
  obtain ⟨f0, f1, f2, f3, f4, f5, f6⟩ := fnd_cells (h.re [1])
  refine l_nil ⟨fun _ _ => ⟨f3, f4⟩, ?_⟩
  refine d_step rfl ?_
  refine l_append rfl Try.underlying26 info3 rfl (by decide) rfl rfl (h.re [4, 0]) (by simp only [List.length_cons, List.length_nil]; omega) (by simp only [List.length_cons, List.length_nil]; unfold maxLen; omega) ?_
  clear h f0 f1 f2 f3 f4 f5 f6; intro u w h
  obtain ⟨f0, f1, f2, f3, f4, f5, f6⟩ := fnd_cells (h.re [1])
  refine l_nil ⟨fun _ _ => ⟨f3, f4⟩, ?_⟩
  refine d_val rfl rfl (e_nilCheck rfl) ?_
  first | refine d_val rfl rfl (e_fieldAddr0 3 Try.underlying43 rfl szF43_3 rfl rfl) ?_ | refine d_val rfl rfl (e_fieldAddrA 3 Try.underlying43 rfl szF43_3 rfl rfl) ?_
  refine d_step rfl ?_
  have hone := pt_one h
  refine l_storeF plain26 rfl rfl hone rfl (h.re [1]) ?_
  clear h f0 f1 f2 f3 f4 f5 f6; intro w h
  refine l_nil ⟨fun hf => (nomatch hf), ?_⟩
  first | refine d_val rfl rfl (e_indexAddr1 Try.underlying41 (by first | exact sz_41) rfl rfl (by omega)) ?_ | refine d_val rfl rfl (e_indexAddrN Try.underlying41 (by first | exact sz_41) rfl rfl (by omega)) ?_ | refine d_val rfl rfl (e_indexAddr Try.underlying41 (by first | exact sz_41) rfl rfl (by omega) (by omega)) ?_
  refine d_step rfl ?_
  refine l_storeE plain4 rfl rfl rfl rfl (by omega) ((h.re [4]).addBool true |>.re [1]) ?_
  clear h; intro w h
  refine l_nil ⟨fun hf => (nomatch hf), ?_⟩
  refine d_nil ?_
  replace h : St w0 (blk rb (.cells #[.int .i64 0, .int .i64 0] 54 (0, 0)) :: blk b (.cells #[fo, .slice (some a1) n c1, .slice (some a2) n c2, u, .slice (some a4) n c4, .int .i64 (k : Int), fgr] 43 (0, 0)) :: pt osN (.slice (some a1) n c1) (s.num.set x k) :: pt osN (.slice (some a2) n c2) (s.low.set x k) :: pt osN u (s.opn ++ [x]) :: pt osB (.slice (some a4) n c4) (s.is.set x true) :: pt osNN fgr s.groups :: pt rsNN fo s.out :: L) w := h.re [7, 1, 3, 4, 2, 0, 5, 6]
  refine c_seq ?_
  refine c_region ?_
  refine l_move rfl rfl ?_
  refine l_build #[.int .i64 (x : Int), .int .i64 0] rfl rfl (by kernel_rfl) ?_
  refine l_storeB (old := #[.int .i64 0, .int .i64 0]) (cells := #[.int .i64 (x : Int), .int .i64 0]) (by kernel_rfl) rfl rfl rfl rfl h ?_
  clear h; intro w h
  refine l_nil ?_
  refine c_ret ⟨.inr rfl, ⟨rb, 0, none⟩, .agg #[.int .i64 (x : Int), .int .i64 0], rfl, ?_, rfl, ⟨fo, .slice (some a1) n c1, .slice (some a2) n c2, u, .slice (some a4) n c4, fgr⟩, ?_⟩
  · exact run_loadN (cs := [.int .i64 (x : Int), .int .i64 0]) (by kernel_rfl) (by kernel_rfl) h.blk_cells
  · have h' := h.drop
    subst hk
    exact h'
end Go.Proofs.Ythamopcfpmkbfaa
