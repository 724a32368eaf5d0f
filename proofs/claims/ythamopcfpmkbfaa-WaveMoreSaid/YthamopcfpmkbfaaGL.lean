/- The finder of groups: how a node is left. No condition but that the graph is small. -/
import Derived.Test.YthamopcfpmkbfaaGF
import Derived.Test.YthamopcfpmkbfaaGS
set_option linter.unusedVariables false
set_option linter.unusedSimpArgs false
namespace Go.Proofs.Ythamopcfpmkbfaa
open Go.Proofs.Fw
theorem offF_length : ∀ (l : List Nat) (is : List Bool), (offF l is).length = is.length
  | [], is => rfl
  | y :: l, is => by simp [offF, offF_length l]
theorem offF_snoc (y : Nat) : ∀ (l : List Nat) (is : List Bool), offF (l ++ [y]) is = (offF l is).set y false
  | [], is => rfl
  | z :: l, is => by simp only [List.cons_append, offF]; exact offF_snoc y l _
variable {w0 w : World} {L : List Res} {b n : Nat} {f : FV} {s : Fnd}
set_option maxRecDepth 4000 in
theorem leave_calls (hs : Safe n s) (x : Nat) (hx : x < n) (hm : MayLeave s x) (h : St w0 (fndL b f s L) w) :
    Calls Try.prog 35 #[.pointer (some ⟨b, 0, none⟩), .int .i64 (x : Int)] w fun e w' => e = .returned (.tuple #[]) ∧ ∃ f', St w0 (fndL b f' (leaveF s x) L) w' := by
  obtain ⟨s1, s2, s3, s4, s5, s6, s7, s8, s9, s10⟩ := hs
  obtain ⟨out, num, low, opn, is, count, groups⟩ := s
  simp only [] at s1 s2 s3 s4 s5 s6 s7 s8 s9 s10
  obtain ⟨fo, fnu, flo, fop, fis, fgr⟩ := f
  obtain ⟨A1, c1, rfl, -, -⟩ := ((h.re [1]).os_form' s3)
  obtain ⟨A2, c2, rfl, -, -⟩ := ((h.re [2]).os_form' s4)
  obtain ⟨A3, c3, rfl, k3, -⟩ := ((h.re [3]).os_form)
  obtain ⟨A4, c4, rfl, -, -⟩ := ((h.re [4]).os_form' s5)
  simp only [] at k3
  obtain ⟨a1, rfl⟩ := (h.re [1]).osN_ad rfl kN_pers (i := x) (by simp only []; omega)
  obtain ⟨a2, rfl⟩ := (h.re [2]).osN_ad rfl kN_pers (i := x) (by simp only []; omega)
  obtain ⟨a4, rfl⟩ := (h.re [4]).osN_ad rfl kBool_pers (i := x) (by simp only []; omega)
  replace h : St w0 (blk b (.cells #[fo, .slice (some a1) n c1, .slice (some a2) n c2, .slice A3 opn.length c3, .slice (some a4) n c4, .int .i64 (count : Int), fgr] 43 (0, 0)) :: pt osN (.slice (some a1) n c1) num :: pt osN (.slice (some a2) n c2) low :: pt osN (.slice A3 opn.length c3) opn :: pt osB (.slice (some a4) n c4) is :: pt osNN fgr groups :: pt rsNN fo out :: L) w := h
  have hxn : x < num.length := by omega
  have hxl : x < low.length := by omega
  have en : num.getD x 0 = num[x] := by simp [hxn]
  have el : low.getD x 0 = low[x] := by simp [hxl]
  refine f_zero Try.func35 rfl Try.results35 Try.ntmps35 rfl ?_
  refine c_seq ?_
  refine c_seq ?_
  refine c_draw (by kernel_rfl) (fun w1 W => W = w1) (fun i => ([4, 7, 8, 9, 10, 11, 12, 13] : List Nat).contains i) [.p 0 [], .p 1 [], .p 2 [], .q 3 [5, 6, 14], .p 4 [], .p 5 [], .q 6 [14], .p 7 [], .p 8 [], .p 9 [], .q 10 [12, 13, 14], .p 11 [], .p 12 [], .q 13 [14], .p 14 []] (by kernel_rfl) rfl (by kernel_rfl) h ?_
  clear h; intro w h hw
  obtain ⟨f0, f1, f2, f3, f4, f5, f6⟩ := fnd_cells h
  have g1 := ((h.re [1]).osN_at hxn).1
  have g2 := ((h.re [2]).osN_at hxl).1
  refine d_val rfl rfl (e_move rfl) ?_
  refine d_val rfl rfl (e_nilCheck rfl) ?_
  first | refine d_val rfl rfl (e_fieldAddr0 2 Try.underlying43 rfl szF43_2 rfl rfl) ?_ | refine d_val rfl rfl (e_fieldAddrA 2 Try.underlying43 rfl szF43_2 rfl rfl) ?_
  refine d_load1 rfl rfl plain26 rfl (by assumption) ?_
  refine d_val rfl rfl (e_move rfl) ?_
  first | refine d_val rfl rfl (e_indexAddr1 Try.underlying26 (by first | exact sz_26) rfl rfl (by omega)) ?_ | refine d_val rfl rfl (e_indexAddrN Try.underlying26 (by first | exact sz_26) rfl rfl (by omega)) ?_ | refine d_val rfl rfl (e_indexAddr Try.underlying26 (by first | exact sz_26) rfl rfl (by omega) (by omega)) ?_
  refine d_load1 rfl rfl plain3 rfl (by assumption) ?_
  refine d_val rfl rfl (e_move rfl) ?_
  refine d_val rfl rfl (e_nilCheck rfl) ?_
  first | refine d_val rfl rfl (e_fieldAddr0 1 Try.underlying43 rfl szF43_1 rfl rfl) ?_ | refine d_val rfl rfl (e_fieldAddrA 1 Try.underlying43 rfl szF43_1 rfl rfl) ?_
  refine d_load1 rfl rfl plain26 rfl (by assumption) ?_
  refine d_val rfl rfl (e_move rfl) ?_
  first | refine d_val rfl rfl (e_indexAddr1 Try.underlying26 (by first | exact sz_26) rfl rfl (by omega)) ?_ | refine d_val rfl rfl (e_indexAddrN Try.underlying26 (by first | exact sz_26) rfl rfl (by omega)) ?_ | refine d_val rfl rfl (e_indexAddr Try.underlying26 (by first | exact sz_26) rfl rfl (by omega) (by omega)) ?_
  refine d_load1 rfl rfl plain3 rfl (by assumption) ?_
  first | refine d_val rfl rfl (e_lss rfl rfl) ?_ | refine d_val rfl rfl (e_slss rfl rfl) ?_
  refine d_nil ?_
  clear f0 f1 f2 f3 f4 f5 f6 g1 g2 hw
  refine c_if _ rfl (fun hc => ?_) (fun hc => ?_)
  · refine c_ret ⟨.inr rfl, rfl, ⟨fo, .slice (some a1) n c1, .slice (some a2) n c2, .slice A3 opn.length c3, .slice (some a4) n c4, fgr⟩, ?_⟩
    have : leaveF ⟨out, num, low, opn, is, count, groups⟩ x = ⟨out, num, low, opn, is, count, groups⟩ := by
      unfold leaveF
      rw [if_pos (by simp only []; omega)]
    rw [this]
    exact h
  have hlt : ¬ low.getD x 0 < num.getD x 0 := by omega
  obtain ⟨hxo, hgl⟩ : x ∈ opn ∧ groups.length < num.length := hm.resolve_left hlt
  have hle : leaveF ⟨out, num, low, opn, is, count, groups⟩ x = ⟨out, num, low, opn.take (opn.idxOf x), offF (opn.drop (opn.idxOf x)) is, count, groups ++ [sortF (opn.drop (opn.idxOf x))]⟩ := by
    unfold leaveF
    rw [if_neg hlt]
  rw [hle]
  clear hle hm
  have hi : opn.idxOf x < opn.length := List.idxOf_lt_length_iff.2 hxo
  obtain ⟨i, hie⟩ : ∃ i, i = opn.idxOf x := ⟨_, rfl⟩
  rw [← hie] at hi ⊢
  obtain ⟨a3, rfl⟩ := (h.re [3]).osN_ad rfl kN_pers hi
  obtain ⟨b3, cells3, rfl, -, hop, -, -, -, hcell3⟩ := (h.re [3]).os_open flatN
  refine c_skip ?_
  refine c_seq ?_
  refine c_region ?_
  have f3 := (fnd_cells h).2.2.2.1
  refine l_move rfl rfl ?_
  refine l_nilCheck rfl rfl ?_
  first | refine l_fieldAddr0 3 rfl Try.underlying43 rfl szF43_3 rfl rfl ?_ | refine l_fieldAddrA 3 rfl Try.underlying43 rfl szF43_3 rfl rfl ?_
  refine l_load rfl plain26 rfl (by assumption) ?_
  refine l_move rfl rfl ?_
  refine l_call rfl Try.func39 rfl (by decide) rfl (index_calls (h.re [3]) (by omega) hxo) ?_
  rintro e w' ⟨rfl, rfl⟩
  refine ⟨_, rfl, ?_⟩
  rw [← hie]
  refine l_assign rfl rfl ?_
  refine l_nil ?_
  refine c_seq ?_
  refine c_region ?_
  refine l_move rfl rfl ?_
  refine l_nilCheck rfl rfl ?_
  first | refine l_fieldAddr0 3 rfl Try.underlying43 rfl szF43_3 rfl rfl ?_ | refine l_fieldAddrA 3 rfl Try.underlying43 rfl szF43_3 rfl rfl ?_
  refine l_load rfl plain26 rfl (by assumption) ?_
  refine l_move rfl rfl ?_
  refine l_slice_l rfl Try.underlying26 sz3 rfl rfl (by omega) (by omega) k3 ?_
  rw [if_neg (by omega)]
  simp only [Option.map_some, Int.toNat_natCast, Nat.mul_one, addr_add, Nat.zero_add]
  obtain ⟨gp, hgp⟩ : ∃ gp, gp = opn.drop i := ⟨_, rfl⟩
  have hgpl : gp.length = opn.length - i := by rw [hgp, List.length_drop]
  refine l_call rfl Try.func40 rfl (by decide) rfl (clone_calls h gp hgpl (by omega) (fun y hy => ?_) (fun j hj => ?_)) ?_
  · have := s7 y (by rw [hgp] at hy; exact List.mem_of_mem_drop hy)
    unfold big
    omega
  · rw [hop.blk_cell, (hcell3 (i + j) (by omega)).1]
    subst hgp
    rw [List.getElem_drop]
  clear hop hcell3 h f3
  rintro e w ⟨gv, rfl, h⟩
  refine ⟨_, rfl, ?_⟩
  obtain ⟨A5, c5, rfl, -, -⟩ := h.os_form
  refine l_assign rfl rfl ?_
  refine l_nil ?_
  refine c_seq ?_
  refine c_region ?_
  have f3 := (fnd_cells (h.re [1])).2.2.2.1
  refine l_move rfl rfl ?_
  refine l_move rfl rfl ?_
  refine l_nilCheck rfl rfl ?_
  first | refine l_fieldAddr0 3 rfl Try.underlying43 rfl szF43_3 rfl rfl ?_ | refine l_fieldAddrA 3 rfl Try.underlying43 rfl szF43_3 rfl rfl ?_
  refine l_load rfl plain26 rfl (by assumption) ?_
  refine l_move rfl rfl ?_
  refine l_slice_h rfl Try.underlying26 sz3 rfl rfl (by omega) (by omega) ?_
  refine l_nilCheck rfl rfl ?_
  first | refine l_fieldAddr0 3 rfl Try.underlying43 rfl szF43_3 rfl rfl ?_ | refine l_fieldAddrA 3 rfl Try.underlying43 rfl szF43_3 rfl rfl ?_
  refine l_storeF plain26 rfl rfl rfl rfl (h.re [1]) ?_
  clear h f3; intro w h
  refine l_nil ?_
  replace h : St w0 (blk b (.cells #[fo, .slice (some a1) n c1, .slice (some a2) n c2, .slice (some ⟨b3, 0, none⟩) i c3, .slice (some a4) n c4, .int .i64 (count : Int), fgr] 43 (0, 0)) :: pt osB (.slice (some a4) n c4) is :: pt osN (.slice A5 gp.length c5) gp :: pt osN (.slice (some a1) n c1) num :: pt osN (.slice (some a2) n c2) low :: pt osN (.slice (some ⟨b3, 0, none⟩) i c3) (opn.take i) :: pt osNN fgr groups :: pt rsNN fo out :: L) w := by
    have h1 := (h.re [4]).os_cut i (by omega)
    exact h1.re [1, 5, 2, 3, 4, 0, 6]
  have hgm : ∀ y ∈ gp, y < n := fun y hy => s7 y (by rw [hgp] at hy; exact List.mem_of_mem_drop hy)
  have hgb : gp.length ≤ n := by omega
  rw [← hgp]
  clear hgp hxo hgpl
  refine c_seq ?_
  refine c_seq ?_
  refine c_region ?_
  refine l_move rfl rfl ?_
  first | refine l_len rfl Try.underlying26 rfl ?_ | refine l_len_string rfl Try.underlying26 rfl ?_
  refine l_move rfl rfl ?_
  refine l_nil ?_
  refine c_block ?_
  refine c_loop' (fun m env w => ∃ j : Nat, j + m = gp.length ∧ env = [(0, .pointer (some ⟨b, 0, none⟩)), (5, .slice A5 gp.length c5), (45, .slice A5 gp.length c5), (46, .int .i64 (gp.length : Int)), (47, .int .i64 (j : Int))] ∧
    St w0 (blk b (.cells #[fo, .slice (some a1) n c1, .slice (some a2) n c2, .slice (some ⟨b3, 0, none⟩) i c3, .slice (some a4) n c4, .int .i64 (count : Int), fgr] 43 (0, 0)) :: pt osB (.slice (some a4) n c4) (offF (gp.take j) is) :: pt osN (.slice A5 gp.length c5) gp :: pt osN (.slice (some a1) n c1) num :: pt osN (.slice (some a2) n c2) low :: pt osN (.slice (some ⟨b3, 0, none⟩) i c3) (opn.take i) :: pt osNN fgr groups :: pt rsNN fo out :: L) w) gp.length
    [(0, .pointer (some ⟨b, 0, none⟩)), (5, .slice A5 gp.length c5), (45, .slice A5 gp.length c5), (46, .int .i64 (gp.length : Int)), (47, .int .i64 ((0 : Nat) : Int))]
    ⟨rfl, rfl, rfl, rfl, rfl, trivial⟩ ⟨0, by omega, rfl, h⟩ ?_
  clear h
  rintro m env w ⟨j, hjm, rfl, h⟩
  refine c_seq ?_
  refine c_region ?_
  first | refine l_lss rfl rfl rfl ?_ | refine l_slss rfl rfl rfl ?_
  refine l_nil ?_
  refine c_seq ?_
  refine c_if _ rfl (fun hc => ?_) (fun hc => ?_)
  · refine c_skip ?_
    have hj : j < gp.length := by omega
    obtain ⟨a5, rfl⟩ := (h.re [2]).osN_ad rfl kN_pers hj
    have g5 := ((h.re [2]).osN_at hj).1
    have f4 := (fnd_cells h).2.2.2.2.1
    have hyn := hgm _ (List.getElem_mem hj)
    have hlo := offF_length (gp.take j) is
    refine c_seq ?_
    refine c_block ?_
    refine c_seq ?_
    refine c_region ?_
    first | refine l_indexAddr1 rfl Try.underlying26 (by first | exact sz_26) rfl rfl (by omega) ?_ | refine l_indexAddrN rfl Try.underlying26 (by first | exact sz_26) rfl rfl (by omega) ?_ | refine l_indexAddr rfl Try.underlying26 (by first | exact sz_26) rfl rfl (by omega) (by omega) ?_
    refine l_load rfl plain3 rfl (by assumption) ?_
    refine l_assign rfl rfl ?_
    refine l_nil ?_
    refine c_region ?_
    refine l_move rfl rfl ?_
    refine l_nilCheck rfl rfl ?_
    first | refine l_fieldAddr0 4 rfl Try.underlying43 rfl szF43_4 rfl rfl ?_ | refine l_fieldAddrA 4 rfl Try.underlying43 rfl szF43_4 rfl rfl ?_
    refine l_load rfl plain41 rfl (by assumption) ?_
    refine l_move rfl rfl ?_
    first | refine l_indexAddr1 rfl Try.underlying41 (by first | exact sz_41) rfl rfl (by omega) ?_ | refine l_indexAddrN rfl Try.underlying41 (by first | exact sz_41) rfl rfl (by omega) ?_ | refine l_indexAddr rfl Try.underlying41 (by first | exact sz_41) rfl rfl (by omega) (by omega) ?_
    refine l_storeE plain4 rfl rfl rfl rfl (by omega) ((h.re [1]).addBool false |>.re [1]) ?_
    clear h g5 f4; intro w h
    refine l_nil ?_
    refine c_region ?_
    first | refine l_addr rfl rfl rfl (by omega) (by omega) ?_ | refine l_sadd rfl rfl rfl (by omega) ?_
    refine l_move rfl rfl ?_
    refine l_nil ?_
    refine ⟨m - 1, [(0, .pointer (some ⟨b, 0, none⟩)), (5, .slice (some a5) gp.length c5), (45, .slice (some a5) gp.length c5), (46, .int .i64 (gp.length : Int)), (47, .int .i64 ((j + 1 : Nat) : Int))], by omega, ⟨rfl, rfl, rfl, rfl, rfl, trivial⟩, j + 1, by omega, rfl, ?_⟩
    have e1 : offF (gp.take (j + 1)) is = (offF (gp.take j) is).set gp[j] false := by
      rw [← offF_snoc, List.take_succ_eq_append_getElem hj]
    rw [e1]
    exact h.re [1, 0]
  · refine c_exit ?_
    have hj : j = gp.length := by omega
    subst hj
    rw [List.take_length] at h
    refine c_seq ?_
    refine c_region ?_
    refine l_move rfl rfl ?_
    refine l_call rfl Try.func41 rfl (by decide) rfl (sort_calls (h.re [2]) (by omega)) ?_
    clear h
    rintro e w ⟨rfl, h⟩
    refine ⟨_, rfl, ?_⟩
    refine l_nil ?_
    refine c_region ?_
    have f6 := (fnd_cells (h.re [1])).2.2.2.2.2.2
    refine l_move rfl rfl ?_
    refine l_move rfl rfl ?_
    refine l_nilCheck rfl rfl ?_
    first | refine l_fieldAddr0 6 rfl Try.underlying43 rfl szF43_6 rfl rfl ?_ | refine l_fieldAddrA 6 rfl Try.underlying43 rfl szF43_6 rfl rfl ?_
    refine l_load rfl plain23 rfl (by assumption) ?_
    refine l_move rfl rfl ?_
    refine l_buildSlice1 (Kx := osN) (x := sortF gp) rfl Try.underlying23 sz26 zero26 rfl rfl h ?_
    clear h f6; intro bs w h
    refine l_append rfl Try.underlying23 info26 rfl (by decide) rfl rfl (h.re [6, 0]) (by simp only [List.length_cons, List.length_nil]; omega) (by simp only [List.length_cons, List.length_nil]; unfold maxLen; omega) ?_
    clear h; intro u w h
    refine l_nilCheck rfl rfl ?_
    first | refine l_fieldAddr0 6 rfl Try.underlying43 rfl szF43_6 rfl rfl ?_ | refine l_fieldAddrA 6 rfl Try.underlying43 rfl szF43_6 rfl rfl ?_
    have hone := pt_one h
    refine l_storeF plain23 rfl rfl hone rfl (h.re [1]) ?_
    clear h; intro w h
    refine l_nil ?_
    refine ⟨.inl rfl, by trivial, ⟨fo, .slice (some a1) n c1, .slice (some a2) n c2, .slice (some ⟨b3, 0, none⟩) i c3, .slice (some a4) n c4, u⟩, ?_⟩
    exact h.re [0, 3, 4, 5, 2, 1]
end Go.Proofs.Ythamopcfpmkbfaa
