/- The law SccMore, walked. No condition. -/
import Derived.Test.YthamopcfpmkbfaaLD
import Derived.Test.YthamopcfpmkbfaaLG1
import Derived.Test.YthamopcfpmkbfaaFD
set_option linter.unusedVariables false
set_option linter.unusedSimpArgs false
namespace Go.Proofs.Ythamopcfpmkbfaa
open Go.Proofs.Fw
variable {w0 w : World} {L : List Res}
abbrev osIr : Kd (List Int) := os 3 kI
theorem dup_row (g : List (List Int)) (x y : Nat) (h : List (List Int)) (k : Nat) (hk : k < g.length) (hh : h = (g.map fun r => r ++ r).set k ((g.map fun r => r ++ r).getD k [] ++ [(k : Int), -1, (g.length : Int)])) : h.length = g.length ∧ (EdgG g x y → EdgG h x y) ∧ (EdgG h x y → EdgG g x y ∨ x = y) := by
  have hl : h.length = g.length := by rw [hh]; simp
  have hm : ∀ i, (g.map fun r => r ++ r).getD i [] = g.getD i [] ++ g.getD i [] := fun i => by
    by_cases hi : i < g.length
    · simp [List.getD_eq_getElem?_getD, hi]
    · simp [List.getD_eq_getElem?_getD, List.getElem?_eq_none (Nat.le_of_not_lt hi)]
  refine ⟨hl, ?_, ?_⟩
  · rintro ⟨h1, h2, h3⟩
    refine ⟨by omega, by omega, ?_⟩
    rw [hh, getD_set]
    split
    · rename_i e
      rw [hm, e.1]
      exact List.mem_append.2 (.inl (List.mem_append.2 (.inl h3)))
    · rw [hm]; exact List.mem_append.2 (.inl h3)
  · rintro ⟨h1, h2, h3⟩
    rw [hl] at h1 h2
    rw [hh, getD_set] at h3
    split at h3
    · rename_i e
      rw [hm, e.1] at h3
      simp only [List.mem_append, List.mem_cons, List.not_mem_nil, or_false, or_self] at h3
      rcases h3 with h3 | h3 | h3 | h3
      · exact .inl ⟨h1, h2, h3⟩
      · exact .inr (by omega)
      · omega
      · omega
    · rw [hm] at h3
      simp only [List.mem_append, or_self] at h3
      exact .inl ⟨h1, h2, h3⟩
set_option maxRecDepth 4000 in
theorem sccmore_calls {ns : List Nat} {nv : Value} {n a : Nat} (hn : n ≤ 255) (ha : a ≤ 255) (h : St w0 (pt (rs k8) nv ns :: L) w) :
    Calls Try.prog 3 #[nv, .int .u8 (n : Int), .int .u8 (a : Int)] w fun e w' => e = .returned (.bool true) ∧ St w0 (pt (rs k8) nv ns :: L) w' := by
  have nilI : ∀ {L w}, St w0 L w → St w0 (pt osIr (.slice none 0 0) [] :: L) w := fun h => h.add (.inl ⟨rfl, rfl⟩)
  refine f_one Try.func3 rfl Try.results3 Try.ntmps3 rfl ?_
  refine c_seq ?_
  refine c_region ?_
  refine l_assign rfl rfl ?_
  refine l_nil ?_
  refine c_seq ?_
  refine c_region ?_
  refine l_move rfl rfl ?_
  refine l_move rfl rfl ?_
  refine l_call rfl Try.func13 rfl (by decide) rfl (make_calls hn h) ?_
  clear h
  rintro e w ⟨g0, gv, hgl0, hg0, rfl, h⟩
  refine ⟨_, rfl, ?_⟩
  replace h := osNN_rs h
  obtain ⟨g, hge⟩ : ∃ g, g = intss g0 := ⟨_, rfl⟩
  have hg15 : g.length ≤ 15 := by rw [hge, intss_len]; omega
  have hg81 : ∀ r ∈ g, r.length ≤ 81 := by
    rw [hge]
    exact intss_rows fun r hr => (hg0 r hr).1
  have hgl : g.length ≤ 100000 := by omega
  have hgr : ∀ r ∈ g, r.length ≤ 100000 := fun r hr => by have := hg81 r hr; omega
  have hin : ∀ r ∈ g, ∀ b ∈ r, 0 ≤ b ∧ b < (g.length : Int) := by
    rw [hge, intss_len, hgl0]
    intro r hr b hb
    obtain ⟨r', hr', rfl⟩ := List.mem_map.1 hr
    obtain ⟨y, hy, rfl⟩ := List.mem_map.1 hb
    have := (hg0 r' hr').2 y hy
    omega
  rw [← hge] at h
  clear hg0 hgl0 hge
  obtain ⟨gs, hgs⟩ := grp_exists g hgl
  have hgsl := hgs.len
  obtain ⟨A, cg, rfl, -, -⟩ := h.rs_form
  refine l_assign rfl rfl ?_
  refine l_nil ?_
  refine c_seq ?_
  refine c_seq ?_
  refine c_region ?_
  refine l_move rfl rfl ?_
  first | refine l_len rfl Try.underlying23 rfl ?_ | refine l_len_string rfl Try.underlying23 rfl ?_
  first | refine l_eql rfl rfl rfl ?_ | refine l_seql rfl rfl rfl ?_
  refine l_nil ?_
  refine c_if _ rfl (fun hg => ?_) (fun hg => ?_)
  · refine c_seq ?_
    refine c_region ?_
    refine l_call (args := []) rfl Try.func14 rfl (by decide) rfl (awake15_calls h) ?_
    clear h
    rintro e w ⟨rfl, h⟩
    refine ⟨_, rfl, ?_⟩
    refine l_assign rfl rfl ?_
    refine l_nil ?_
    exact c_ret ⟨.inr rfl, _, rfl, rfl, h.drop⟩
  refine c_skip ?_
  have hg0 : 0 < g.length := by omega
  obtain ⟨k, hke⟩ : ∃ k, k = a % g.length := ⟨_, rfl⟩
  have hk : k < g.length := by rw [hke]; exact Nat.mod_lt _ hg0
  refine c_seq ?_
  refine c_region ?_
  refine l_move rfl rfl ?_
  first | refine l_conv8 rfl Try.underlying5 Try.underlying3 (by omega) rfl ?_ | refine l_convInt rfl Try.underlying5 Try.underlying3 rfl ?_
  refine l_move rfl rfl ?_
  first | refine l_len rfl Try.underlying23 rfl ?_ | refine l_len_string rfl Try.underlying23 rfl ?_
  refine l_remN rfl rfl rfl (by omega) ?_
  refine l_set 25 (.int .i64 (k : Int)) rfl (by rw [hke]) ?_
  refine l_assign rfl rfl ?_
  refine l_nil ?_
  refine c_seq ?_
  refine c_region ?_
  refine l_move rfl rfl ?_
  first | refine l_len rfl Try.underlying23 rfl ?_ | refine l_len_string rfl Try.underlying23 rfl ?_
  refine l_makeS (Kx := osIr) (zx := []) rfl Try.underlying23 info26 rfl (.inl ⟨rfl, rfl⟩) rfl rfl (by omega) (by unfold maxLen; omega) h ?_
  clear h; intro hb w h
  refine l_assign rfl rfl ?_
  refine l_nil ?_
  refine c_seq ?_
  refine c_region ?_
  refine l_move rfl rfl ?_
  first | refine l_len rfl Try.underlying23 rfl ?_ | refine l_len_string rfl Try.underlying23 rfl ?_
  refine l_makeS (Kx := osN) (zx := []) rfl Try.underlying23 info26 rfl (.inl ⟨rfl, rfl⟩) rfl rfl (by omega) (by unfold maxLen; omega) h ?_
  clear h; intro kb w h
  refine l_assign rfl rfl ?_
  refine l_nil ?_
  refine c_seq ?_
  refine c_seq ?_
  refine c_region ?_
  refine l_assign rfl rfl ?_
  refine l_nil ?_
  refine c_block ?_
  refine c_loop' (fun m env w => ∃ (i : Nat) (bk : List (List Nat)), i + m = g.length ∧ BkInv g i 0 (81 * i) bk ∧ env = [(7, .slice A g.length cg), (8, .int .i64 (k : Int)), (9, .slice (some ⟨hb, 0, none⟩) g.length g.length), (10, .slice (some ⟨kb, 0, none⟩) g.length g.length), (11, .int .i64 (i : Int))] ∧ St w0 (pt osNN (.slice (some ⟨kb, 0, none⟩) g.length g.length) bk :: pt (os 26 osIr) (.slice (some ⟨hb, 0, none⟩) g.length g.length) (twF g i) :: pt rsII (.slice A g.length cg) g :: pt (rs k8) nv ns :: L) w) g.length [(7, .slice A g.length cg), (8, .int .i64 (k : Int)), (9, .slice (some ⟨hb, 0, none⟩) g.length g.length), (10, .slice (some ⟨kb, 0, none⟩) g.length g.length), (11, .int .i64 ((0 : Nat) : Int))] ⟨rfl, rfl, rfl, rfl, rfl, trivial⟩ ⟨0, _, by omega, BkInv.begin g, rfl, by rw [twF_zero]; exact h⟩ ?_
  clear h
  rintro m env w ⟨i, bk, him, hB, rfl, h⟩
  refine c_seq ?_
  refine c_seq ?_
  refine c_region ?_
  refine l_move rfl rfl ?_
  refine l_move rfl rfl ?_
  first | refine l_len rfl Try.underlying23 rfl ?_ | refine l_len_string rfl Try.underlying23 rfl ?_
  first | refine l_lss rfl rfl rfl ?_ | refine l_slss rfl rfl rfl ?_
  refine l_nil ?_
  refine c_if _ rfl (fun hc => ?_) (fun hc => ?_)
  · refine c_skip ?_
    have hi : i < g.length := by omega
    obtain ⟨row, hre⟩ : ∃ row, row = g[i] := ⟨_, rfl⟩
    have hgD : g.getD i [] = row := by rw [hre, getD_get [] hi]
    have hrl : row.length ≤ 81 := by rw [hre]; exact hg81 _ (List.getElem_mem hi)
    have hin2 := hin _ (List.getElem_mem hi)
    rw [← hre] at hin2
    obtain ⟨ag, Ar, cr, rfl, hr1, hr2, h2⟩ := (h.re [2]).row_at hi
    rw [← hre] at h2 hr1
    have hrb := bound63 hr1 hr2
    replace h : St w0 (cellR (ag.add i) (.slice Ar row.length cr) :: pt rsI (.slice Ar row.length cr) row :: pt osNN (.slice (some ⟨kb, 0, none⟩) g.length g.length) bk :: pt (os 26 osIr) (.slice (some ⟨hb, 0, none⟩) g.length g.length) (twF g i) :: pt rsII (.slice (some ag) g.length cg) g :: pt (rs k8) nv ns :: L) w := h2.re [0, 1, 3, 4, 2]
    clear h2
    refine c_seq ?_
    refine c_block ?_
    refine c_seq ?_
    refine c_draw (by kernel_rfl) (fun w1 W => W.cell? (ag.add i) = some (.slice Ar row.length cr)) (fun i => ([2, 7, 8, 9, 10, 11] : List Nat).contains i) [.p 0 [], .p 1 [], .p 3 [], .p 4 [], .p 5 [], .q 6 [7, 12, 13, 14], .p 8 [], .p 9 [], .p 10 [], .q 11 [12, 13, 14], .x 2, .x 7, .x 12, .p 13 [], .x 14] (by kernel_rfl) rfl (by kernel_rfl) h ?_ /- flagged effects: [2, 7] -/
    clear h; intro w h hw
    clear hw
    have q := h.cellR_at
    refine d_val rfl rfl (e_move rfl) ?_
    refine d_val rfl rfl (e_move rfl) ?_
    refine d_val rfl rfl (e_move rfl) ?_
    refine d_val rfl rfl (e_move rfl) ?_
    first | refine d_val rfl rfl (e_indexAddr1 Try.underlying23 (by first | exact sz_23) rfl rfl (by omega)) ?_ | refine d_val rfl rfl (e_indexAddrN Try.underlying23 (by first | exact sz_23) rfl rfl (by omega)) ?_ | refine d_val rfl rfl (e_indexAddr Try.underlying23 (by first | exact sz_23) rfl rfl (by omega) (by omega)) ?_
    refine d_load rfl rfl q plain26 rfl (fun w h => h) ?_
    refine d_val rfl rfl (e_move rfl) ?_
    refine d_val rfl rfl (e_move rfl) ?_
    first | refine d_val rfl rfl (e_indexAddr1 Try.underlying23 (by first | exact sz_23) rfl rfl (by omega)) ?_ | refine d_val rfl rfl (e_indexAddrN Try.underlying23 (by first | exact sz_23) rfl rfl (by omega)) ?_ | refine d_val rfl rfl (e_indexAddr Try.underlying23 (by first | exact sz_23) rfl rfl (by omega) (by omega)) ?_
    refine d_load rfl rfl q plain26 rfl (fun w h => h) ?_
    refine d_step rfl ?_
    refine l_buildSliceN (ps := []) (Kx := kI) rfl Try.underlying26 sz3 zero3 rfl (by simp) rfl rfl rfl h ?_
    clear h q; intro v1 w h
    refine l_nil ⟨fun _ _ => h.drop.cellR_at, ?_⟩
    refine d_step rfl ?_
    refine l_appendR (Kx := kI) rfl Try.underlying26 info3 rfl (by decide) (kInt_pers .i64) rfl rfl (h.re [0, 2]) (by simp; omega) (by simp; unfold maxLen; omega) ?_
    clear h; intro v2 w h
    refine l_nil ⟨fun _ _ => (h.re [2]).cellR_at, ?_⟩
    refine d_step rfl ?_
    refine l_appendR (Kx := kI) rfl Try.underlying26 info3 rfl (by decide) (kInt_pers .i64) rfl rfl h (by simp; omega) (by simp; unfold maxLen; omega) ?_
    clear h; intro v3 w h
    refine l_nil ⟨fun hf => (nomatch hf), ?_⟩
    simp only [List.map_nil, List.nil_append] at h
    first | refine d_val rfl rfl (e_indexAddr1 Try.underlying23 (by first | exact sz_23) rfl rfl (by omega)) ?_ | refine d_val rfl rfl (e_indexAddrN Try.underlying23 (by first | exact sz_23) rfl rfl (by omega)) ?_ | refine d_val rfl rfl (e_indexAddr Try.underlying23 (by first | exact sz_23) rfl rfl (by omega) (by omega)) ?_
    refine d_step rfl ?_
    refine l_storeE plain26 rfl rfl rfl rfl (by rw [twF_len g (by omega)]; exact hi) (h.re [4, 0]) ?_
    clear h; intro w h
    refine l_nil ⟨fun hf => (nomatch hf), ?_⟩
    refine d_nil ?_
    have hts := twF_step g hi
    rw [← hre] at hts
    rw [hts] at h
    replace h : St w0 (cellR (ag.add i) (.slice Ar row.length cr) :: pt rsI (.slice Ar row.length cr) row :: pt osNN (.slice (some ⟨kb, 0, none⟩) g.length g.length) bk :: pt (os 26 osIr) (.slice (some ⟨hb, 0, none⟩) g.length g.length) (twF g (i + 1)) :: pt rsII (.slice (some ag) g.length cg) g :: pt (rs k8) nv ns :: L) w := h.re [2, 1, 3, 0]
    refine c_seq ?_
    refine c_region ?_
    refine l_assign rfl rfl ?_
    refine l_nil ?_
    refine c_block ?_
    refine c_loop' (fun m2 env w => ∃ (j : Nat) (bk : List (List Nat)), j + m2 = row.length ∧ BkInv g i j (81 * i + j) bk ∧ env = [(7, .slice (some ag) g.length cg), (8, .int .i64 (k : Int)), (9, .slice (some ⟨hb, 0, none⟩) g.length g.length), (10, .slice (some ⟨kb, 0, none⟩) g.length g.length), (11, .int .i64 (i : Int)), (12, .int .i64 (j : Int))] ∧ St w0 (cellR (ag.add i) (.slice Ar row.length cr) :: pt rsI (.slice Ar row.length cr) row :: pt osNN (.slice (some ⟨kb, 0, none⟩) g.length g.length) bk :: pt (os 26 osIr) (.slice (some ⟨hb, 0, none⟩) g.length g.length) (twF g (i + 1)) :: pt rsII (.slice (some ag) g.length cg) g :: pt (rs k8) nv ns :: L) w) row.length [(7, .slice (some ag) g.length cg), (8, .int .i64 (k : Int)), (9, .slice (some ⟨hb, 0, none⟩) g.length g.length), (10, .slice (some ⟨kb, 0, none⟩) g.length g.length), (11, .int .i64 (i : Int)), (12, .int .i64 ((0 : Nat) : Int))] ⟨rfl, rfl, rfl, rfl, rfl, rfl, trivial⟩ ⟨0, _, by omega, hB, rfl, h⟩ ?_
    clear h hB bk
    rintro m2 env w ⟨j, bk, hjm, hB, rfl, h⟩
    have q := h.cellR_at
    refine c_seq ?_
    refine c_seq ?_
    refine c_region ?_
    refine l_move rfl rfl ?_
    refine l_move rfl rfl ?_
    refine l_move rfl rfl ?_
    first | refine l_indexAddr1 rfl Try.underlying23 (by first | exact sz_23) rfl rfl (by omega) ?_ | refine l_indexAddrN rfl Try.underlying23 (by first | exact sz_23) rfl rfl (by omega) ?_ | refine l_indexAddr rfl Try.underlying23 (by first | exact sz_23) rfl rfl (by omega) (by omega) ?_
    refine l_load rfl plain26 rfl (by assumption) ?_
    first | refine l_len rfl Try.underlying26 rfl ?_ | refine l_len_string rfl Try.underlying26 rfl ?_
    first | refine l_lss rfl rfl rfl ?_ | refine l_slss rfl rfl rfl ?_
    refine l_nil ?_
    clear q
    refine c_if _ rfl (fun hc2 => ?_) (fun hc2 => ?_)
    · refine c_skip ?_
      have hj : j < row.length := by omega
      obtain ⟨ar, rfl⟩ := (h.re [1]).rsN_ad rfl hj
      obtain ⟨b, hbe⟩ : ∃ b, b = row[j] := ⟨_, rfl⟩
      obtain ⟨hb0, hbn⟩ := hin2 b (by rw [hbe]; exact List.getElem_mem hj)
      obtain ⟨y, rfl⟩ : ∃ y : Nat, b = (y : Int) := ⟨b.toNat, by omega⟩
      have hy : y < g.length := by omega
      have hyb : y < bk.length := by rw [hB.len]; exact hy
      have hjD : j < (g.getD i []).length := by rw [hgD]; exact hj
      have hbD : (g.getD i [])[j] = (y : Int) := by rw [hbe]; congr 1
      have hsm := hB.sm _ (List.getElem_mem hyb)
      have egr : bk.getD y [] = bk[y] := getD_get [] hyb
      obtain ⟨b0, cells, u, R, hob, hcu, hs, back⟩ := St.lend (Kx := osN) rfl (h.re [2]) y hyb
      cases hob
      clear h
      have h := hs.re [0, 1, 3, 4]
      clear hs
      have allOk : ∀ {R0 : Res} {L1 : List Res} {w : World}, St w0 (R0 :: blk kb (.cells cells 26 (0, 0)) :: cellR (ag.add i) (.slice (some ar) row.length cr) :: pt rsI (.slice (some ar) row.length cr) row :: L1) w → w.cell? (ag.add i) = some (.slice (some ar) row.length cr) ∧ w.cell? (ar.add j) = some (.int .i64 (y : Int)) ∧ w.cell? ((⟨kb, 0, none⟩ : Addr).add y) = some u := fun {R0 L1 w} h => by
        have k1 := ((h.re [3]).rsI_at hj).1
        rw [← hbe] at k1
        refine ⟨(h.re [2]).cellR_at, k1, ?_⟩
        rw [addr_add, Nat.zero_add]
        exact ((h.re [1]).blk_cell).trans hcu
      refine c_seq ?_
      refine c_block ?_
      refine c_draw (by kernel_rfl) (fun w1 W => W.cell? (ag.add i) = some (.slice (some ar) row.length cr) ∧ W.cell? (ar.add j) = some (.int .i64 (y : Int)) ∧ W.cell? ((⟨kb, 0, none⟩ : Addr).add y) = some u) (fun i => ([5, 8, 9, 10, 11, 12, 13, 14, 15, 16, 17, 18, 19, 20] : List Nat).contains i) [.p 0 [], .p 1 [], .p 2 [], .p 3 [], .q 4 [6, 7, 21, 22], .p 5 [], .p 6 [], .q 7 [21, 22], .p 8 [], .p 9 [], .p 10 [], .p 11 [], .q 12 [14, 15, 16, 17, 20, 21, 22], .p 13 [], .p 14 [], .q 15 [16, 17, 20, 21, 22], .p 16 [], .q 17 [20, 21, 22], .p 18 [], .x 19, .x 20, .p 21 [], .x 22] (by kernel_rfl) rfl (by kernel_rfl) h ?_ /- flagged effects: [19, 20] -/
      clear h; intro w h hw
      clear hw
      have q := allOk h
      refine d_val rfl rfl (e_move rfl) ?_
      refine d_val rfl rfl (e_move rfl) ?_
      refine d_val rfl rfl (e_move rfl) ?_
      first | refine d_val rfl rfl (e_indexAddr1 Try.underlying23 (by first | exact sz_23) rfl rfl (by omega)) ?_ | refine d_val rfl rfl (e_indexAddrN Try.underlying23 (by first | exact sz_23) rfl rfl (by omega)) ?_ | refine d_val rfl rfl (e_indexAddr Try.underlying23 (by first | exact sz_23) rfl rfl (by omega) (by omega)) ?_
      refine d_load rfl rfl q plain26 rfl (fun w h => h.1) ?_
      refine d_val rfl rfl (e_move rfl) ?_
      first | refine d_val rfl rfl (e_indexAddr1 Try.underlying26 (by first | exact sz_26) rfl rfl (by omega)) ?_ | refine d_val rfl rfl (e_indexAddrN Try.underlying26 (by first | exact sz_26) rfl rfl (by omega)) ?_ | refine d_val rfl rfl (e_indexAddr Try.underlying26 (by first | exact sz_26) rfl rfl (by omega) (by omega)) ?_
      refine d_load rfl rfl q plain3 rfl (fun w h => h.2.1) ?_
      refine d_val rfl rfl (e_move rfl) ?_
      refine d_val rfl rfl (e_move rfl) ?_
      refine d_val rfl rfl (e_move rfl) ?_
      first | refine d_val rfl rfl (e_indexAddr1 Try.underlying23 (by first | exact sz_23) rfl rfl (by omega)) ?_ | refine d_val rfl rfl (e_indexAddrN Try.underlying23 (by first | exact sz_23) rfl rfl (by omega)) ?_ | refine d_val rfl rfl (e_indexAddr Try.underlying23 (by first | exact sz_23) rfl rfl (by omega) (by omega)) ?_
      refine d_load rfl rfl q plain26 rfl (fun w h => h.1) ?_
      refine d_val rfl rfl (e_move rfl) ?_
      first | refine d_val rfl rfl (e_indexAddr1 Try.underlying26 (by first | exact sz_26) rfl rfl (by omega)) ?_ | refine d_val rfl rfl (e_indexAddrN Try.underlying26 (by first | exact sz_26) rfl rfl (by omega)) ?_ | refine d_val rfl rfl (e_indexAddr Try.underlying26 (by first | exact sz_26) rfl rfl (by omega) (by omega)) ?_
      refine d_load rfl rfl q plain3 rfl (fun w h => h.2.1) ?_
      first | refine d_val rfl rfl (e_indexAddr1 Try.underlying23 (by first | exact sz_23) rfl rfl (by omega)) ?_ | refine d_val rfl rfl (e_indexAddrN Try.underlying23 (by first | exact sz_23) rfl rfl (by omega)) ?_ | refine d_val rfl rfl (e_indexAddr Try.underlying23 (by first | exact sz_23) rfl rfl (by omega) (by omega)) ?_
      refine d_load rfl rfl q plain26 rfl (fun w h => h.2.2) ?_
      refine d_val rfl rfl (e_move rfl) ?_
      refine d_step rfl ?_
      refine l_buildSlice1 (x := i) rfl Try.underlying26 sz3 zero3 rfl rfl (h.addNat i (by omega)) ?_
      clear h q; intro bs w h
      refine l_nil ⟨fun _ _ => allOk h.drop, ?_⟩
      refine d_step rfl ?_
      refine l_append rfl Try.underlying26 info3 rfl (by decide) rfl rfl (h.re [1, 0]) (by simp only [List.length_cons, List.length_nil]; omega) (by simp only [List.length_cons, List.length_nil]; unfold maxLen; omega) ?_
      clear h; intro u2 w h
      refine l_nil ⟨fun _ _ => allOk h, ?_⟩
      first | refine d_val rfl rfl (e_indexAddr1 Try.underlying23 (by first | exact sz_23) rfl rfl (by omega)) ?_ | refine d_val rfl rfl (e_indexAddrN Try.underlying23 (by first | exact sz_23) rfl rfl (by omega)) ?_ | refine d_val rfl rfl (e_indexAddr Try.underlying23 (by first | exact sz_23) rfl rfl (by omega) (by omega)) ?_
      refine d_step rfl ?_
      have hone := pt_one h
      refine l_storeF plain26 (congrArg (fun z => some (Value.pointer (some z))) (show (⟨kb, 0, none⟩ : Addr).add y = ⟨kb, y, none⟩ by rw [addr_add, Nat.zero_add])) rfl hone hcu (h.re [1]) ?_
      clear h; intro w h
      refine l_nil ⟨fun hf => (nomatch hf), ?_⟩
      refine d_nil ?_
      have h' := back u2 _ (h.re [1, 0, 4])
      refine c_region ?_
      refine l_move rfl rfl ?_
      first | refine l_addr rfl rfl rfl (by omega) (by omega) ?_ | refine l_sadd rfl rfl rfl (by omega) ?_
      refine l_assign rfl rfl ?_
      refine l_nil ?_
      refine ⟨m2 - 1, [(7, .slice (some ag) g.length cg), (8, .int .i64 (k : Int)), (9, .slice (some ⟨hb, 0, none⟩) g.length g.length), (10, .slice (some ⟨kb, 0, none⟩) g.length g.length), (11, .int .i64 (i : Int)), (12, .int .i64 ((j + 1 : Nat) : Int))], by omega, ⟨rfl, rfl, rfl, rfl, rfl, rfl, trivial⟩, j + 1, _, by omega, hB.add hi hjD hbD hy, rfl, ?_⟩
      rw [egr]
      exact h'.re [1, 2, 0]
    · refine c_exit ?_
      have hj : j = row.length := by omega
      subst hj
      refine c_region ?_
      refine l_move rfl rfl ?_
      first | refine l_addr rfl rfl rfl (by omega) (by omega) ?_ | refine l_sadd rfl rfl rfl (by omega) ?_
      refine l_assign rfl rfl ?_
      refine l_nil ?_
      exact ⟨m - 1, [(7, .slice (some ag) g.length cg), (8, .int .i64 (k : Int)), (9, .slice (some ⟨hb, 0, none⟩) g.length g.length), (10, .slice (some ⟨kb, 0, none⟩) g.length g.length), (11, .int .i64 ((i + 1 : Nat) : Int))], by omega, ⟨rfl, rfl, rfl, rfl, rfl, trivial⟩, i + 1, _, by omega, BkInv.row (by rw [hgD]; exact hB) (by omega), rfl, h.drop.drop⟩
  refine c_exit ?_
  have hi : i = g.length := by omega
  subst hi
  rw [twF_all] at h
  have hbk := hB.edge
  have hbl := hB.len
  have hbs := hB.sm
  clear hc him
  obtain ⟨hm, hhm⟩ : ∃ hm, hm = g.map fun r => r ++ r := ⟨_, rfl⟩
  rw [← hhm] at h
  have hml : hm.length = g.length := by rw [hhm]; simp
  have hkm : k < hm.length := by omega
  have hmr : ∀ r ∈ hm, r.length ≤ 162 := fun r hr => by
    rw [hhm] at hr
    obtain ⟨r', hr', rfl⟩ := List.mem_map.1 hr
    have := hg81 r' hr'
    simp; omega
  have hrk := hmr _ (List.getElem_mem hkm)
  have egk : hm.getD k [] = hm[k] := getD_get [] hkm
  obtain ⟨b0, cells, u, R, hob, hcu, hs, back⟩ := St.lend (Kx := osIr) rfl (h.re [1]) k hkm
  cases hob
  clear h
  have q : w.cell? ((⟨hb, 0, none⟩ : Addr).add k) = some u := by
    rw [addr_add, Nat.zero_add]
    exact ((hs.re [1]).blk_cell).trans hcu
  refine c_seq ?_
  refine c_region ?_
  refine l_move rfl rfl ?_
  refine l_move rfl rfl ?_
  refine l_move rfl rfl ?_
  refine l_move rfl rfl ?_
  first | refine l_indexAddr1 rfl Try.underlying23 (by first | exact sz_23) rfl rfl (by omega) ?_ | refine l_indexAddrN rfl Try.underlying23 (by first | exact sz_23) rfl rfl (by omega) ?_ | refine l_indexAddr rfl Try.underlying23 (by first | exact sz_23) rfl rfl (by omega) (by omega) ?_
  refine l_load rfl plain26 rfl (by assumption) ?_
  refine l_move rfl rfl ?_
  refine l_move rfl rfl ?_
  first | refine l_len rfl Try.underlying23 rfl ?_ | refine l_len_string rfl Try.underlying23 rfl ?_
  refine l_buildSliceN (ps := [(.int .i64 (k : Int), (k : Int)), (.int .i64 (-1), -1), (.int .i64 (g.length : Int), (g.length : Int))]) (Kx := kI) rfl Try.underlying26 sz3 zero3 rfl (by simp) rfl rfl rfl (((hs.addI64 (g.length : Int) (by omega) (by omega)).addI64 (-1) (by omega) (by omega)).addI64 (k : Int) (by omega) (by omega)) ?_
  clear hs q; intro v1 w h
  refine l_append rfl Try.underlying26 info3 rfl (by decide) rfl rfl (h.re [1, 0]) (by simp only [List.map_cons, List.map_nil, List.length_cons, List.length_nil]; omega) (by simp only [List.map_cons, List.map_nil, List.length_cons, List.length_nil]; unfold maxLen; omega) ?_
  clear h; intro u2 w h
  first | refine l_indexAddr1 rfl Try.underlying23 (by first | exact sz_23) rfl rfl (by omega) ?_ | refine l_indexAddrN rfl Try.underlying23 (by first | exact sz_23) rfl rfl (by omega) ?_ | refine l_indexAddr rfl Try.underlying23 (by first | exact sz_23) rfl rfl (by omega) (by omega) ?_
  have hone := pt_one h
  refine l_storeF plain26 (congrArg (fun z => some (Value.pointer (some z))) (show (⟨hb, 0, none⟩ : Addr).add k = ⟨hb, k, none⟩ by rw [addr_add, Nat.zero_add])) rfl hone hcu (h.re [1]) ?_
  clear h; intro w h
  refine l_nil ?_
  have h := back u2 _ (h.re [1, 0])
  simp only [List.map_cons, List.map_nil] at h
  rw [← egk] at h
  obtain ⟨hh, hhe⟩ : ∃ hh, hh = hm.set k (hm.getD k [] ++ [(k : Int), -1, (g.length : Int)]) := ⟨_, rfl⟩
  rw [← hhe] at h
  rw [hhm] at hhe
  have hrows : ∀ r ∈ hh, r.length ≤ 100000 := fun r hr => by
    rw [hhe, ← hhm] at hr
    rcases List.mem_or_eq_of_mem_set hr with h1 | h1
    · have := hmr r h1; omega
    · subst h1; rw [egk]; simp; omega
  have hhl : hh.length = g.length := (dup_row g 0 0 hh k hk hhe).1
  have hgh : Grp hh gs := grp_more hgs hhl (fun x y => (dup_row g x y hh k hk hhe).2.1) (fun x y => (dup_row g x y hh k hk hhe).2.2)
  have hgb : Grp (intss bk) gs := grp_back hgs (by rw [intss_len]; exact hbl) hbk
  replace h := osII_rs h
  replace h : St w0 (pt rsII (.slice (some ⟨kb, 0, none⟩) g.length g.length) (intss bk) :: pt rsII (.slice (some ⟨hb, 0, none⟩) g.length g.length) hh :: pt rsII (.slice A g.length cg) g :: pt (rs k8) nv ns :: L) w := osNN_rs (h.re [1])
  refine c_seq ?_
  refine c_region ?_
  refine l_move rfl rfl ?_
  refine l_call rfl Try.func15 rfl (by decide) rfl (of_grp hgs _ hgl hgr (h.re [2])) ?_
  clear h
  rintro e w ⟨lv, rfl, h⟩
  refine ⟨_, rfl, ?_⟩
  replace h := osNN_rs h
  refine l_assign rfl rfl ?_
  refine l_nil ?_
  refine c_seq ?_
  refine c_region ?_
  refine l_move rfl rfl ?_
  refine l_call rfl Try.func15 rfl (by decide) rfl (of_grp hgh _ (by omega) hrows (h.re [3])) ?_
  clear h
  rintro e w ⟨hv, rfl, h⟩
  refine ⟨_, rfl, ?_⟩
  replace h := osNN_rs h
  refine l_move rfl rfl ?_
  refine l_call rfl Try.func16 rfl (by decide) rfl (same_calls (h.re [0, 2])) ?_
  clear h
  rintro e w ⟨rfl, h⟩
  refine ⟨_, rfl, ?_⟩
  refine l_set 100 (.bool true) rfl (by simp) ?_
  refine l_move rfl rfl ?_
  first | (refine l_yes rfl rfl ?_; first | refine l_move rfl rfl ?_) | refine l_no rfl rfl rfl rfl ?_ | refine l_no' rfl rfl rfl ?_
  refine l_yes rfl rfl ?_
  refine l_call rfl Try.func15 rfl (by decide) rfl (of_grp hgb _ (by rw [intss_len, hbl]; exact hgl) (intss_rows fun r hr => Nat.le_trans (hbs r hr) (by omega)) (h.re [4])) ?_
  clear h
  rintro e w ⟨bv, rfl, h⟩
  refine ⟨_, rfl, ?_⟩
  replace h := osNN_rs h
  first | (refine l_yes rfl rfl ?_; first | refine l_move rfl rfl ?_) | refine l_no rfl rfl rfl rfl ?_ | refine l_no' rfl rfl rfl ?_
  refine l_yes rfl rfl ?_
  refine l_call rfl Try.func16 rfl (by decide) rfl (same_calls (h.re [0, 3])) ?_
  clear h
  rintro e w ⟨rfl, h⟩
  refine ⟨_, rfl, ?_⟩
  refine l_set 105 (.bool true) rfl (by simp) ?_
  refine l_pick rfl rfl rfl ?_
  refine l_move rfl rfl ?_
  refine l_yes rfl rfl ?_
  refine l_buildSliceN (ps := []) (Kx := kI) rfl Try.underlying26 sz3 zero3 rfl (by simp) rfl rfl rfl h ?_
  clear h; intro ev w h
  replace h : St w0 (pt rsI ev [] :: _ :: _ :: _ :: _ :: _ :: pt rsII (.slice A g.length cg) g :: pt (rs k8) nv ns :: L) w := h.frz (os_frz (Kd.Pers.frz (kInt_pers .i64)) rfl)
  refine l_yes rfl rfl ?_
  refine l_call rfl Try.func17 rfl (by decide) rfl (ints_calls ((h.add (K := rsI) (cs := [.slice none 0 0]) (x := []) ⟨none, 0, rfl, Nat.le_refl _, Nat.zero_le _, .inl rfl⟩))) ?_
  clear h
  rintro e w ⟨rfl, h⟩
  refine ⟨_, rfl, ?_⟩
  refine l_set 109 (.bool true) rfl (by simp) ?_
  refine l_pick rfl rfl rfl ?_
  refine l_move rfl rfl ?_
  refine l_yes rfl rfl ?_
  refine l_call (args := []) rfl Try.func14 rfl (by decide) rfl (awake15_calls h) ?_
  clear h
  rintro e w ⟨rfl, h⟩
  refine ⟨_, rfl, ?_⟩
  refine l_pick rfl rfl rfl ?_
  refine l_assign rfl rfl ?_
  refine l_nil ?_
  exact c_ret ⟨.inr rfl, _, rfl, rfl, h.drop.drop.drop.drop.drop.drop.drop.drop⟩
end Go.Proofs.Ythamopcfpmkbfaa
