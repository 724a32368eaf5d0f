/- l15.Make: a graph by numbers: as many nodes as it is told, short rows, all of them nodes. No condition. -/
import Derived.Test.YthamopcfpmkbfaaGS
import Derived.Test.YthamopcfpmkbfaaFC
set_option linter.unusedVariables false
set_option linter.unusedSimpArgs false
namespace Go.Proofs.Ythamopcfpmkbfaa
open Go.Proofs.Fw
variable {w0 w : World} {L : List Res}
theorem sz_22 : SzIs Try.prog 5 1 := .of (by kernel_rfl)
set_option maxRecDepth 4000 in
theorem make_calls {ns : List Nat} {nv : Value} {n : Nat} (hn : n ≤ 255) (h : St w0 (pt (rs k8) nv ns :: L) w) :
    Calls Try.prog 13 #[nv, .int .u8 (n : Int)] w fun e w' => ∃ g v, g.length = n % 16 ∧ (∀ r ∈ g, r.length ≤ 81 ∧ ∀ x ∈ r, x < n % 16) ∧ e = .returned v ∧ St w0 (pt osNN v g :: pt (rs k8) nv ns :: L) w' := by
  obtain ⟨A, c, rfl, hc1, hc2⟩ := h.rs_form
  have hnl : ns.length ≤ 9223372036854775807 := by unfold maxLen at hc2; omega
  obtain ⟨k, hk⟩ : ∃ k, k = n % 16 := ⟨_, rfl⟩
  have hk16 : k < 16 := by omega
  rw [← hk]
  refine f_one Try.func13 rfl Try.results13 Try.ntmps13 rfl ?_
  refine c_seq ?_
  refine c_region ?_
  refine l_assign rfl rfl ?_
  refine l_nil ?_
  refine c_seq ?_
  refine c_region ?_
  refine l_move rfl rfl ?_
  refine l_conv8 rfl Try.underlying5 Try.underlying3 hn rfl ?_
  refine l_remN (j := 16) rfl rfl rfl (by omega) ?_
  refine l_set 10 (.int .i64 (k : Int)) rfl (by rw [hk]) ?_
  refine l_assign rfl rfl ?_
  refine l_nil ?_
  refine c_seq ?_
  refine c_region ?_
  refine l_move rfl rfl ?_
  refine l_makeSlice (Kx := osN) (zx := []) rfl Try.underlying23 info26 rfl (.inl ⟨rfl, rfl⟩) rfl rfl (by omega) (by unfold maxLen; omega) h ?_
  clear h; intro v w h
  refine l_assign rfl rfl ?_
  refine l_nil ?_
  refine c_seq ?_
  refine c_seq ?_
  refine c_region ?_
  refine l_assign rfl rfl ?_
  refine l_nil ?_
  refine c_block ?_
  refine c_loop' (fun m env w => ∃ i v g, i + m = 84 ∧ i ≤ 81 ∧ g.length = k ∧ (∀ r ∈ g, r.length ≤ i ∧ ∀ x ∈ r, x < k) ∧ env = [(0, .slice A ns.length c), (5, .int .i64 (k : Int)), (6, v), (7, .int .i64 (i : Int))] ∧ St w0 (pt osNN v g :: pt (rs k8) (.slice A ns.length c) ns :: L) w) 84 [(0, .slice A ns.length c), (5, .int .i64 (k : Int)), (6, v), (7, .int .i64 ((0 : Nat) : Int))] ⟨rfl, rfl, rfl, rfl, trivial⟩ ⟨0, v, _, by omega, by omega, by simp, (by intro r hr; rw [List.mem_replicate] at hr; rw [hr.2]; simp), rfl, h⟩ ?_
  clear h
  rintro m env w ⟨i, v, g, him, hi80, hgl, hg, rfl, h⟩
  refine c_seq ?_
  refine c_seq ?_
  refine c_region ?_
  refine l_move rfl rfl ?_
  first | refine l_addr rfl rfl rfl (by omega) (by omega) ?_ | refine l_sadd rfl rfl rfl (by omega) ?_
  refine l_move rfl rfl ?_
  first | refine l_len rfl Try.underlying22 rfl ?_ | refine l_len_string rfl Try.underlying22 rfl ?_
  first | refine l_lss rfl rfl rfl ?_ | refine l_slss rfl rfl rfl ?_
  have fin : ∀ w, St w0 (pt osNN v g :: pt (rs k8) (.slice A ns.length c) ns :: L) w → ∃ (g' : List (List Nat)) (v' : Value), g'.length = k ∧ (∀ r ∈ g', r.length ≤ 81 ∧ ∀ x ∈ r, x < k) ∧ Ending.returned v = .returned v' ∧ St w0 (pt osNN v' g' :: pt (rs k8) (.slice A ns.length c) ns :: L) w :=
    fun w h => ⟨g, v, hgl, fun r hr => ⟨by have := (hg r hr).1; omega, (hg r hr).2⟩, rfl, h⟩
  by_cases h1 : (i : Int) + 1 < (ns.length : Int)
  rotate_left
  · refine l_set 17 (.bool false) rfl (vF h1) ?_
    refine l_move rfl rfl ?_
    first | (refine l_yes rfl rfl ?_; first | refine l_move rfl rfl ?_) | refine l_no rfl rfl rfl rfl ?_ | refine l_no' rfl rfl rfl ?_
    first | (refine l_yes rfl rfl ?_; first | refine l_lss rfl rfl rfl ?_ | refine l_slss rfl rfl rfl ?_) | refine l_no rfl rfl rfl rfl ?_ | refine l_no' rfl rfl rfl ?_
    refine l_pick rfl rfl rfl ?_
    refine l_move rfl rfl ?_
    first | (refine l_yes rfl rfl ?_; first | refine l_move rfl rfl ?_) | refine l_no rfl rfl rfl rfl ?_ | refine l_no' rfl rfl rfl ?_
    first | (refine l_yes rfl rfl ?_; first | refine l_gtr rfl rfl rfl ?_) | refine l_no rfl rfl rfl rfl ?_ | refine l_no' rfl rfl rfl ?_
    refine l_pick rfl rfl rfl ?_
    refine l_nil ?_
    refine c_condF rfl ?_
    refine c_exit ?_
    refine c_seq ?_
    refine c_region ?_
    refine l_move rfl rfl ?_
    refine l_assign rfl rfl ?_
    refine l_nil ?_
    exact c_ret ⟨.inr rfl, _, rfl, fin w h⟩
  refine l_set 17 (.bool true) rfl (vT h1) ?_
  refine l_move rfl rfl ?_
  first | (refine l_yes rfl rfl ?_; first | refine l_move rfl rfl ?_) | refine l_no rfl rfl rfl rfl ?_ | refine l_no' rfl rfl rfl ?_
  first | (refine l_yes rfl rfl ?_; first | refine l_lss rfl rfl rfl ?_ | refine l_slss rfl rfl rfl ?_) | refine l_no rfl rfl rfl rfl ?_ | refine l_no' rfl rfl rfl ?_
  by_cases h2 : (i : Int) < 80
  rotate_left
  · refine l_set 20 (.bool false) rfl (vF h2) ?_
    refine l_pick rfl rfl rfl ?_
    refine l_move rfl rfl ?_
    first | (refine l_yes rfl rfl ?_; first | refine l_move rfl rfl ?_) | refine l_no rfl rfl rfl rfl ?_ | refine l_no' rfl rfl rfl ?_
    first | (refine l_yes rfl rfl ?_; first | refine l_gtr rfl rfl rfl ?_) | refine l_no rfl rfl rfl rfl ?_ | refine l_no' rfl rfl rfl ?_
    refine l_pick rfl rfl rfl ?_
    refine l_nil ?_
    refine c_condF rfl ?_
    refine c_exit ?_
    refine c_seq ?_
    refine c_region ?_
    refine l_move rfl rfl ?_
    refine l_assign rfl rfl ?_
    refine l_nil ?_
    exact c_ret ⟨.inr rfl, _, rfl, fin w h⟩
  refine l_set 20 (.bool true) rfl (vT h2) ?_
  refine l_pick rfl rfl rfl ?_
  refine l_move rfl rfl ?_
  first | (refine l_yes rfl rfl ?_; first | refine l_move rfl rfl ?_) | refine l_no rfl rfl rfl rfl ?_ | refine l_no' rfl rfl rfl ?_
  first | (refine l_yes rfl rfl ?_; first | refine l_gtr rfl rfl rfl ?_) | refine l_no rfl rfl rfl rfl ?_ | refine l_no' rfl rfl rfl ?_
  by_cases h3 : (k : Int) > 0
  rotate_left
  · refine l_set 24 (.bool false) rfl (vF h3) ?_
    refine l_pick rfl rfl rfl ?_
    refine l_nil ?_
    refine c_condF rfl ?_
    refine c_exit ?_
    refine c_seq ?_
    refine c_region ?_
    refine l_move rfl rfl ?_
    refine l_assign rfl rfl ?_
    refine l_nil ?_
    exact c_ret ⟨.inr rfl, _, rfl, fin w h⟩
  refine l_set 24 (.bool true) rfl (vT h3) ?_
  refine l_pick rfl rfl rfl ?_
  refine l_nil ?_
  refine c_condT rfl ?_
  refine c_skip ?_
  clear fin
  have hi1 : i + 1 < ns.length := by omega
  have hk0 : 0 < k := by omega
  obtain ⟨an, rfl⟩ := (h.re [1]).rsN_ad rfl hi1
  obtain ⟨b0, hb0⟩ : ∃ b0, b0 = ns[i] := ⟨_, rfl⟩
  obtain ⟨b1, hb1⟩ : ∃ b1, b1 = ns[i + 1] := ⟨_, rfl⟩
  have hx : b0 % k < k := Nat.mod_lt _ hk0
  have hy : b1 % k < k := Nat.mod_lt _ hk0
  have hbb0 := ((h.re [1]).rs8_at (i := i) (by omega)).2
  have hbb1 := ((h.re [1]).rs8_at (i := i + 1) hi1).2
  rw [← hb0] at hbb0
  rw [← hb1] at hbb1
  obtain ⟨Ag, cg, rfl, -, -⟩ := h.os_form' hgl
  obtain ⟨ag, u0, hA, -, -⟩ := h.os_take rfl rfl (b0 % k) (by omega)
  subst hA
  obtain ⟨b, cells, vs, rfl, -, k1, k2, k3, k4, k5, hs⟩ := h.os_split rfl
  obtain ⟨ps, hps⟩ : ∃ ps, ps = vs.zip g := ⟨_, rfl⟩
  have hpl : ps.length = k := by rw [hps]; simp [k4, hgl]
  have hp1 : ∀ (i : Nat) (p : Value × List Nat), ps[i]? = some p → cells[i]? = some p.1 := fun i p hp => by
    rw [hps, List.getElem?_zip_eq_some] at hp
    exact k5 i _ hp.1
  have hp2 : ps.map Prod.snd = g := by rw [hps]; simp [List.map_snd_zip, k4]
  rw [← hps] at hs
  clear k5 hps h
  have hxp : b0 % k < ps.length := by omega
  have hrow : ps[b0 % k].2 = g[b0 % k]'(by omega) := by simp [← hp2]
  have hcx : cells[b0 % k]? = some ps[b0 % k].1 := hp1 _ _ (List.getElem?_eq_getElem hxp)
  replace hs := hs.each_out1 hxp
  obtain ⟨row, hre⟩ : ∃ row, row = ps[b0 % k].2 := ⟨_, rfl⟩
  obtain ⟨u, hue⟩ : ∃ u, u = ps[b0 % k].1 := ⟨_, rfl⟩
  have hrl : row.length ≤ i ∧ ∀ x ∈ row, x < k := by rw [hre, hrow]; exact hg _ (List.getElem_mem _)
  rw [← hre, ← hue] at hs
  rw [← hue] at hcx
  have tail : ∀ {L1 L2 L3 : List Res} {R1 R2 R3 : Res} {w : World}, St w0 (R1 :: R2 :: (L1 ++ (L2 ++ R3 :: L3))) w → St w0 (R3 :: R1 :: R2 :: (L1 ++ (L2 ++ L3))) w := fun {L1 L2 L3 R1 R2 R3 w} h => by
    have e : (R1 :: R2 :: (L1 ++ (L2 ++ R3 :: L3))) = ((R1 :: R2 :: (L1 ++ L2)) ++ R3 :: L3) := by simp
    rw [e] at h
    have := h.perm List.perm_middle
    simpa using this
  have cellsOk : ∀ {u row} {L1 L2 : List Res} {w : World}, St w0 (pt osN u row :: blk b (.cells cells 26 (0, 0)) :: (L1 ++ (L2 ++ pt (rs k8) (.slice (some an) ns.length c) ns :: L))) w → w.cell? (an.add i) = some (.int .u8 (b0 : Int)) ∧ w.cell? (an.add (i + 1)) = some (.int .u8 (b1 : Int)) := fun {u row L1 L2 w} h => by
    have h' := tail h
    refine ⟨?_, ?_⟩
    · rw [hb0]; exact (h'.rs8_at (by omega)).1
    · rw [hb1]; exact (h'.rs8_at hi1).1
  have headOk : ∀ {R : Res} {L1 : List Res} {w : World}, St w0 (R :: blk b (.cells cells 26 (0, 0)) :: L1) w → w.cell? ((⟨b, 0, none⟩ : Addr).add (b0 % k)) = some u := fun {R L1 w} h => by
    rw [addr_add, Nat.zero_add]
    exact ((h.re [1]).blk_cell).trans hcx
  refine c_seq ?_
  refine c_block ?_
  have h := hs
  refine c_draw (by kernel_rfl) (fun w1 W => W.cell? (an.add i) = some (.int .u8 (b0 : Int)) ∧ W.cell? (an.add (i + 1)) = some (.int .u8 (b1 : Int)) ∧ W.cell? ((⟨b, 0, none⟩ : Addr).add (b0 % k)) = some u) (fun i => ([6, 8, 9, 10, 11, 12, 13, 14, 15, 16, 17, 18, 19, 20, 21, 22, 23, 24, 25, 26, 27] : List Nat).contains i) [.p 0 [], .p 1 [], .p 2 [], .p 3 [], .q 4 [5, 7, 28, 29], .p 5 [], .p 6 [], .p 7 [], .p 8 [], .p 9 [], .p 10 [], .p 11 [], .q 12 [13, 15, 16, 17, 27, 28, 29], .p 13 [], .p 14 [], .p 15 [], .p 16 [], .q 17 [27, 28, 29], .p 18 [], .p 19 [], .p 20 [], .p 21 [], .q 22 [23, 25, 26, 27, 28, 29], .p 23 [], .p 24 [], .p 25 [], .x 26, .x 27, .p 28 [], .x 29] (by kernel_rfl) rfl (by kernel_rfl) h ?_ /- flagged effects: [26, 27] -/
  clear h hs; intro w h hw
  clear hw
  have q12 := cellsOk h
  have q3 := headOk h
  have hC : ∀ {w : World}, w.cell? (an.add i) = some (.int .u8 (b0 : Int)) → w.cell? (an.add (i + 1)) = some (.int .u8 (b1 : Int)) → w.cell? ((⟨b, 0, none⟩ : Addr).add (b0 % k)) = some u → w.cell? (an.add i) = some (.int .u8 (b0 : Int)) ∧ w.cell? (an.add (i + 1)) = some (.int .u8 (b1 : Int)) ∧ w.cell? ((⟨b, 0, none⟩ : Addr).add (b0 % k)) = some u := fun a b c => ⟨a, b, c⟩
  refine d_val rfl rfl (e_move rfl) ?_
  refine d_val rfl rfl (e_move rfl) ?_
  refine d_val rfl rfl (e_move rfl) ?_
  first | refine d_val rfl rfl (e_indexAddr1 Try.underlying22 (by first | exact sz_22) rfl rfl (by omega)) ?_ | refine d_val rfl rfl (e_indexAddrN Try.underlying22 (by first | exact sz_22) rfl rfl (by omega)) ?_ | refine d_val rfl rfl (e_indexAddr Try.underlying22 (by first | exact sz_22) rfl rfl (by omega) (by omega)) ?_
  refine d_load rfl rfl ⟨q12.1, q12.2, q3⟩ plain5 rfl (fun w h => h.1) ?_
  first | refine d_val rfl rfl (e_conv8 Try.underlying5 Try.underlying3 (by omega) rfl) ?_ | refine d_val rfl rfl (e_convInt Try.underlying5 Try.underlying3 rfl) ?_
  refine d_val rfl rfl (e_move rfl) ?_
  refine d_val rfl rfl (e_remN rfl rfl (by omega)) ?_
  refine d_val rfl rfl (e_move rfl) ?_
  refine d_val rfl rfl (e_move rfl) ?_
  refine d_val rfl rfl (e_move rfl) ?_
  first | refine d_val rfl rfl (e_indexAddr1 Try.underlying22 (by first | exact sz_22) rfl rfl (by omega)) ?_ | refine d_val rfl rfl (e_indexAddrN Try.underlying22 (by first | exact sz_22) rfl rfl (by omega)) ?_ | refine d_val rfl rfl (e_indexAddr Try.underlying22 (by first | exact sz_22) rfl rfl (by omega) (by omega)) ?_
  refine d_load rfl rfl ⟨q12.1, q12.2, q3⟩ plain5 rfl (fun w h => h.1) ?_
  first | refine d_val rfl rfl (e_conv8 Try.underlying5 Try.underlying3 (by omega) rfl) ?_ | refine d_val rfl rfl (e_convInt Try.underlying5 Try.underlying3 rfl) ?_
  refine d_val rfl rfl (e_move rfl) ?_
  refine d_val rfl rfl (e_remN rfl rfl (by omega)) ?_
  first | refine d_val rfl rfl (e_indexAddr1 Try.underlying23 (by first | exact sz_23) rfl rfl (by omega)) ?_ | refine d_val rfl rfl (e_indexAddrN Try.underlying23 (by first | exact sz_23) rfl rfl (by omega)) ?_ | refine d_val rfl rfl (e_indexAddr Try.underlying23 (by first | exact sz_23) rfl rfl (by omega) (by omega)) ?_
  refine d_load rfl rfl ⟨q12.1, q12.2, q3⟩ plain26 rfl (fun w h => h.2.2) ?_
  refine d_val rfl rfl (e_move rfl) ?_
  refine d_val rfl rfl (e_move rfl) ?_
  first | refine d_val rfl rfl (e_addr rfl rfl (by omega) (by omega)) ?_ | refine d_val rfl rfl (e_sadd rfl rfl (by omega)) ?_
  refine d_same 48 (.int .i64 ((i + 1 : Nat) : Int)) rfl (by rw [show ((i + 1 : Nat) : Int) = (i : Int) + 1 by omega]) ?_
  first | refine d_val rfl rfl (e_indexAddr1 Try.underlying22 (by first | exact sz_22) rfl rfl (by omega)) ?_ | refine d_val rfl rfl (e_indexAddrN Try.underlying22 (by first | exact sz_22) rfl rfl (by omega)) ?_ | refine d_val rfl rfl (e_indexAddr Try.underlying22 (by first | exact sz_22) rfl rfl (by omega) (by omega)) ?_
  refine d_load rfl rfl ⟨q12.1, q12.2, q3⟩ plain5 rfl (fun w h => h.2.1) ?_
  first | refine d_val rfl rfl (e_conv8 Try.underlying5 Try.underlying3 (by omega) rfl) ?_ | refine d_val rfl rfl (e_convInt Try.underlying5 Try.underlying3 rfl) ?_
  refine d_val rfl rfl (e_move rfl) ?_
  refine d_val rfl rfl (e_remN rfl rfl (by omega)) ?_
  refine d_step rfl ?_
  refine l_buildSlice1 (x := b1 % k) rfl Try.underlying26 sz3 zero3 rfl rfl (h.addNat (b1 % k) (by omega)) ?_
  clear h; intro bs w h
  have q12 := cellsOk h.drop
  have q3 := headOk h.drop
  refine l_nil ⟨fun _ _ => ⟨q12.1, q12.2, q3⟩, ?_⟩
  refine d_step rfl ?_
  have hrl1 := hrl.1
  refine l_append rfl Try.underlying26 info3 rfl (by decide) rfl rfl (h.re [1, 0]) (by simp only [List.length_cons, List.length_nil]; omega) (by simp only [List.length_cons, List.length_nil]; unfold maxLen; omega) ?_
  clear h q12 q3; intro u2 w h
  have q12 := cellsOk h
  have q3 := headOk h
  refine l_nil ⟨fun _ _ => ⟨q12.1, q12.2, q3⟩, ?_⟩
  first | refine d_val rfl rfl (e_indexAddr1 Try.underlying23 (by first | exact sz_23) rfl rfl (by omega)) ?_ | refine d_val rfl rfl (e_indexAddrN Try.underlying23 (by first | exact sz_23) rfl rfl (by omega)) ?_ | refine d_val rfl rfl (e_indexAddr Try.underlying23 (by first | exact sz_23) rfl rfl (by omega) (by omega)) ?_
  refine d_step rfl ?_
  have hone := pt_one h
  refine l_storeF plain26 (congrArg (fun z => some (Value.pointer (some z))) (show (⟨b, 0, none⟩ : Addr).add (b0 % k) = ⟨b, b0 % k, none⟩ by rw [addr_add, Nat.zero_add])) rfl hone hcx (h.re [1]) ?_
  clear h q12 q3; intro w h
  refine l_nil ⟨fun hf => (nomatch hf), ?_⟩
  refine d_nil ?_
  refine c_region ?_
  refine l_move rfl rfl ?_
  first | refine l_addr rfl rfl rfl (by omega) (by omega) ?_ | refine l_sadd rfl rfl rfl (by omega) ?_
  refine l_assign rfl rfl ?_
  refine l_nil ?_
  replace h := (h.re [1]).each_in1 hxp
  have hj := h.os_join rfl (c := cg) (by simp [k1]) (by simp; omega) k3 (fun j p hp => by
    rw [List.getElem?_set] at hp
    rw [Array.getElem?_setIfInBounds]
    by_cases e : b0 % k = j
    · subst e
      rw [if_pos rfl, if_pos hxp] at hp
      rw [if_pos rfl, if_pos (by omega)]
      cases hp
      rfl
    · rw [if_neg e] at hp ⊢
      exact hp1 j p hp)
  have e1 : (ps.set (b0 % k) (u2, row ++ [b1 % k])).length = k := by simp [hpl]
  have e2 : (ps.set (b0 % k) (u2, row ++ [b1 % k])).map Prod.snd = g.set (b0 % k) (row ++ [b1 % k]) := by rw [List.map_set, hp2]
  rw [e1, e2] at hj
  refine ⟨m - 2, [(0, .slice (some an) ns.length c), (5, .int .i64 (k : Int)), (6, .slice (some ⟨b, 0, none⟩) k cg), (7, .int .i64 ((i + 2 : Nat) : Int))], by omega, ⟨rfl, rfl, rfl, rfl, trivial⟩, i + 2, _, _, by omega, by omega, by simp [hgl], fun r hr => ?_, rfl, hj⟩
  rcases List.mem_or_eq_of_mem_set hr with h1 | h1
  · exact ⟨by have := (hg r h1).1; omega, (hg r h1).2⟩
  · subst h1
    refine ⟨by simp; omega, fun x hx => ?_⟩
    rcases List.mem_append.1 hx with h2 | h2
    · exact hrl.2 x h2
    · simp at h2; omega
end Go.Proofs.Ythamopcfpmkbfaa
