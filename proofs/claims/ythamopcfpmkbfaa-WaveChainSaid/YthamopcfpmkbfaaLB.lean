/- The law SccMade, walked. No condition. -/
import Derived.Test.YthamopcfpmkbfaaLA
import Derived.Test.YthamopcfpmkbfaaLB1
import Derived.Test.YthamopcfpmkbfaaGM
import Derived.Test.YthamopcfpmkbfaaFC
set_option linter.unusedVariables false
set_option linter.unusedSimpArgs false
namespace Go.Proofs.Ythamopcfpmkbfaa
open Go.Proofs.Fw
variable {w0 w : World} {L : List Res}
theorem intss_len (g : List (List Nat)) : (intss g).length = g.length := by simp [intss]
theorem intss_rows {g : List (List Nat)} {m : Nat} (h : ∀ r ∈ g, r.length ≤ m) : ∀ r ∈ intss g, r.length ≤ m := fun r hr => by
  obtain ⟨r', hr', rfl⟩ := List.mem_map.1 hr
  simpa [ints] using h r' hr'
set_option maxRecDepth 4000 in
theorem sccmade_calls {ns : List Nat} {nv : Value} {n a b : Nat} (hn : n ≤ 255) (ha : a ≤ 255) (hb : b ≤ 255) (h : St w0 (pt (rs k8) nv ns :: L) w) :
    Calls Try.prog 5 #[nv, .int .u8 (n : Int), .int .u8 (a : Int), .int .u8 (b : Int)] w fun e w' => e = .returned (.bool true) ∧ St w0 (pt (rs k8) nv ns :: L) w' := by
  refine f_one Try.func5 rfl Try.results5 Try.ntmps5 rfl ?_
  refine c_seq ?_
  refine c_region ?_
  refine l_assign rfl rfl ?_
  refine l_nil ?_
  refine c_seq ?_
  refine c_region ?_
  refine l_move rfl rfl ?_
  refine l_move rfl rfl ?_
  refine l_call rfl Try.func13 rfl (by decide) rfl (make_calls hn h) ?_
  clear h
  rintro e w ⟨g0, gv, hgl0, hg0, rfl, h⟩
  refine ⟨_, rfl, ?_⟩
  replace h := osNN_rs h
  obtain ⟨g, hge⟩ : ∃ g, g = intss g0 := ⟨_, rfl⟩
  have hgl : g.length ≤ 100000 := by rw [hge, intss_len]; omega
  have hgr : ∀ r ∈ g, r.length ≤ 100000 := by
    rw [hge]
    exact intss_rows fun r hr => by have := (hg0 r hr).1; omega
  rw [← hge] at h
  clear hg0 hgl0 hge
  obtain ⟨gs, hgs⟩ := grp_exists g hgl
  obtain ⟨A, c, rfl, -, -⟩ := h.rs_form
  refine l_assign rfl rfl ?_
  refine l_nil ?_
  refine c_seq ?_
  refine c_region ?_
  refine l_move rfl rfl ?_
  refine l_call rfl Try.func15 rfl (by decide) rfl (of_grp hgs _ hgl hgr h) ?_
  clear h
  rintro e w ⟨lv, rfl, h⟩
  refine ⟨_, rfl, ?_⟩
  replace h : St w0 (pt rsNN lv gs :: pt rsII (.slice A g.length c) g :: pt (rs k8) nv ns :: L) w := h.frz (os_frz (os_frz kN_pers.frz rfl) rfl)
  obtain ⟨Al, cl, rfl, hl1, hl2⟩ := h.rs_form
  have hgsl := bound63 hl1 hl2
  obtain ⟨hP, hR⟩ := hgs
  have hgs : Grp g gs := ⟨hP, hR⟩
  refine l_assign rfl rfl ?_
  refine l_nil ?_
  refine c_seq ?_
  refine c_region ?_
  refine l_move rfl rfl ?_
  first | refine l_len rfl Try.underlying23 rfl ?_ | refine l_len_string rfl Try.underlying23 rfl ?_
  refine l_makeS (Kx := kN) (zx := 0) rfl Try.underlying26 info3 rfl ⟨rfl, Nat.zero_le _⟩ rfl rfl (by omega) (by unfold maxLen; omega) h ?_
  clear h; intro ib w h
  rw [← cntF_nil] at h
  refine l_assign rfl rfl ?_
  refine l_nil ?_
  refine c_seq ?_
  refine c_region ?_
  refine l_assign rfl rfl ?_
  refine l_nil ?_
  refine c_seq ?_
  refine c_seq ?_
  refine c_region ?_
  refine l_assign rfl rfl ?_
  refine l_nil ?_
  refine c_block ?_
  have hle : ∀ y, y ∈ gs.flatten ↔ y < g.length := hP.all
  refine c_loop' (fun m env w => ∃ (i : Nat) (last : Int), i + m = gs.length ∧ (∀ (hi : i < gs.length), last < ((gs[i]).headD 0 : Int)) ∧ env = [(2, .int .u8 (a : Int)), (3, .int .u8 (b : Int)), (9, .slice A g.length c), (10, .slice Al gs.length cl), (11, .slice (some ⟨ib, 0, none⟩) g.length g.length), (12, .int .i64 last), (13, .int .i64 (i : Int))] ∧ St w0 (pt osN (.slice (some ⟨ib, 0, none⟩) g.length g.length) (cntF g.length (gs.take i).flatten) :: pt rsNN (.slice Al gs.length cl) gs :: pt rsII (.slice A g.length c) g :: pt (rs k8) nv ns :: L) w) gs.length [(2, .int .u8 (a : Int)), (3, .int .u8 (b : Int)), (9, .slice A g.length c), (10, .slice Al gs.length cl), (11, .slice (some ⟨ib, 0, none⟩) g.length g.length), (12, .int .i64 (-1)), (13, .int .i64 ((0 : Nat) : Int))] ⟨rfl, rfl, rfl, rfl, rfl, rfl, rfl, trivial⟩ ⟨0, -1, by omega, fun hi => by omega, rfl, by simpa using h⟩ ?_
  clear h
  rintro m env w ⟨i, last, him, hlast, rfl, h⟩
  refine c_seq ?_
  refine c_seq ?_
  refine c_region ?_
  refine l_move rfl rfl ?_
  refine l_move rfl rfl ?_
  first | refine l_len rfl Try.underlying23 rfl ?_ | refine l_len_string rfl Try.underlying23 rfl ?_
  first | refine l_lss rfl rfl rfl ?_ | refine l_slss rfl rfl rfl ?_
  refine l_nil ?_
  refine c_if _ rfl (fun hc => ?_) (fun hc => ?_)
  · refine c_skip ?_
    have hi : i < gs.length := by omega
    obtain ⟨row, hrow⟩ : ∃ row, row = gs[i] := ⟨_, rfl⟩
    have hne : row ≠ [] := by rw [hrow]; exact hP.ne _ (List.getElem_mem hi)
    have hrp : 0 < row.length := List.length_pos_iff.2 hne
    have hup : row.Pairwise (· < ·) := by rw [hrow]; exact hP.up _ (List.getElem_mem hi)
    have hrk : ∀ y ∈ row, y < g.length := fun y hy => (hle y).1 (List.mem_flatten.2 ⟨row, by rw [hrow]; exact List.getElem_mem hi, hy⟩)
    have hhead : row.headD 0 = row[0] := by cases row with | nil => exact absurd rfl hne | cons x r => rfl
    have hla := hlast hi
    rw [← hrow, hhead] at hla
    obtain ⟨al, u, hA, q, h1⟩ := (h.re [1]).rs_cell rfl rfl i hi
    subst hA
    rw [← hrow] at h1
    obtain ⟨Ar, cr, rfl, hr1, hr2⟩ := h1.rs_form
    obtain ⟨ar, rfl⟩ := h1.rsN_ad rfl hrp
    obtain ⟨q0, hb0⟩ := h1.rsN_at hrp
    refine c_seq ?_
    refine c_block ?_
    refine c_seq ?_
    refine c_seq ?_
    refine c_region ?_
    refine l_move rfl rfl ?_
    refine l_move rfl rfl ?_
    first | refine l_indexAddr1 rfl Try.underlying23 (by first | exact sz_23) rfl rfl (by omega) ?_ | refine l_indexAddrN rfl Try.underlying23 (by first | exact sz_23) rfl rfl (by omega) ?_ | refine l_indexAddr rfl Try.underlying23 (by first | exact sz_23) rfl rfl (by omega) (by omega) ?_
    refine l_load rfl plain26 rfl (by assumption) ?_
    first | refine l_len rfl Try.underlying26 rfl ?_ | refine l_len_string rfl Try.underlying26 rfl ?_
    first | refine l_eql rfl rfl rfl ?_ | refine l_seql rfl rfl rfl ?_
    refine l_set 35 (.bool false) rfl (vF (by omega)) ?_
    refine l_move rfl rfl ?_
    first | (refine l_yes rfl rfl ?_; first | refine l_move rfl rfl ?_) | refine l_no rfl rfl rfl rfl ?_ | refine l_no' rfl rfl rfl ?_
    first | (refine l_yes rfl rfl ?_; first | refine l_move rfl rfl ?_) | refine l_no rfl rfl rfl rfl ?_ | refine l_no' rfl rfl rfl ?_
    first | (refine l_yes rfl rfl ?_; first | refine l_indexAddr1 rfl Try.underlying23 (by first | exact sz_23) rfl rfl (by omega) ?_ | refine l_indexAddrN rfl Try.underlying23 (by first | exact sz_23) rfl rfl (by omega) ?_ | refine l_indexAddr rfl Try.underlying23 (by first | exact sz_23) rfl rfl (by omega) (by omega) ?_) | refine l_no rfl rfl rfl rfl ?_ | refine l_no' rfl rfl rfl ?_
    first | (refine l_yes rfl rfl ?_; first | refine l_load rfl plain26 rfl (by assumption) ?_) | refine l_no rfl rfl rfl rfl ?_ | refine l_no' rfl rfl rfl ?_
    refine l_yes rfl rfl ?_
    refine l_indexAddr1 (i := 0) rfl Try.underlying26 sz_26 rfl rfl hrp ?_
    first | (refine l_yes rfl rfl ?_; first | refine l_load rfl plain3 rfl (by assumption) ?_) | refine l_no rfl rfl rfl rfl ?_ | refine l_no' rfl rfl rfl ?_
    first | (refine l_yes rfl rfl ?_; first | refine l_move rfl rfl ?_) | refine l_no rfl rfl rfl rfl ?_ | refine l_no' rfl rfl rfl ?_
    first | (refine l_yes rfl rfl ?_; first | refine l_leq rfl rfl rfl ?_) | refine l_no rfl rfl rfl rfl ?_ | refine l_no' rfl rfl rfl ?_
    refine l_set 44 (.bool false) rfl (vF (by omega)) ?_
    refine l_pick rfl rfl rfl ?_
    refine l_nil ?_
    refine c_condF rfl ?_
    refine c_skip ?_
    refine c_seq ?_
    refine c_region ?_
    refine l_move rfl rfl ?_
    refine l_move rfl rfl ?_
    first | refine l_indexAddr1 rfl Try.underlying23 (by first | exact sz_23) rfl rfl (by omega) ?_ | refine l_indexAddrN rfl Try.underlying23 (by first | exact sz_23) rfl rfl (by omega) ?_ | refine l_indexAddr rfl Try.underlying23 (by first | exact sz_23) rfl rfl (by omega) (by omega) ?_
    refine l_load rfl plain26 rfl (by assumption) ?_
    refine l_indexAddr1 (i := 0) rfl Try.underlying26 sz_26 rfl rfl hrp ?_
    refine l_load rfl plain3 rfl (by assumption) ?_
    refine l_assign rfl rfl ?_
    refine l_nil ?_
    refine c_seq ?_
    refine c_region ?_
    refine l_assign rfl rfl ?_
    refine l_nil ?_
    clear q q0 h1
    refine c_block ?_
    obtain ⟨pre, hpre⟩ : ∃ pre, pre = (gs.take i).flatten := ⟨_, rfl⟩
    have hsucc : (gs.take (i + 1)).flatten = pre ++ row := by rw [List.take_succ_eq_append_getElem hi, List.flatten_append, ← hpre, ← hrow]; simp
    have hpk : pre.length + row.length ≤ g.length := by
      have h1 : (pre ++ row).Nodup := by
        rw [← hsucc]
        have := hP.nd
        rw [← List.take_append_drop (i + 1) gs, List.flatten_append] at this
        exact (List.nodup_append.1 this).1
      have := nodup_le g.length (pre ++ row) h1 (fun y hy => by
        rw [← hsucc] at hy
        obtain ⟨l, hl, hyl⟩ := List.mem_flatten.1 hy
        exact (hle y).1 (List.mem_flatten.2 ⟨l, List.mem_of_mem_take hl, hyl⟩))
      simpa using this
    rw [← hpre] at h
    refine c_loop' (fun m2 env w => ∃ j : Nat, j + m2 = row.length ∧ env = [(2, .int .u8 (a : Int)), (3, .int .u8 (b : Int)), (9, .slice A g.length c), (10, .slice (some al) gs.length cl), (11, .slice (some ⟨ib, 0, none⟩) g.length g.length), (12, .int .i64 (row[0] : Int)), (13, .int .i64 (i : Int)), (14, .int .i64 (j : Int))] ∧ St w0 (pt osN (.slice (some ⟨ib, 0, none⟩) g.length g.length) (cntF g.length (pre ++ row.take j)) :: pt rsNN (.slice (some al) gs.length cl) gs :: pt rsII (.slice A g.length c) g :: pt (rs k8) nv ns :: L) w) row.length [(2, .int .u8 (a : Int)), (3, .int .u8 (b : Int)), (9, .slice A g.length c), (10, .slice (some al) gs.length cl), (11, .slice (some ⟨ib, 0, none⟩) g.length g.length), (12, .int .i64 (row[0] : Int)), (13, .int .i64 (i : Int)), (14, .int .i64 ((0 : Nat) : Int))] ⟨rfl, rfl, rfl, rfl, rfl, rfl, rfl, rfl, trivial⟩ ⟨0, by omega, rfl, by simpa using h⟩ ?_
    clear h
    rintro m2 env w ⟨j, hjm, rfl, h⟩
    obtain ⟨al', u, hA, q, h1⟩ := (h.re [1]).rs_cell rfl rfl i hi
    cases hA
    rw [← hrow] at h1
    obtain ⟨Ar, cr, rfl, hr1, hr2⟩ := h1.rs_form
    refine c_seq ?_
    refine c_seq ?_
    refine c_region ?_
    refine l_move rfl rfl ?_
    refine l_move rfl rfl ?_
    refine l_move rfl rfl ?_
    first | refine l_indexAddr1 rfl Try.underlying23 (by first | exact sz_23) rfl rfl (by omega) ?_ | refine l_indexAddrN rfl Try.underlying23 (by first | exact sz_23) rfl rfl (by omega) ?_ | refine l_indexAddr rfl Try.underlying23 (by first | exact sz_23) rfl rfl (by omega) (by omega) ?_
    refine l_load rfl plain26 rfl (by assumption) ?_
    first | refine l_len rfl Try.underlying26 rfl ?_ | refine l_len_string rfl Try.underlying26 rfl ?_
    first | refine l_lss rfl rfl rfl ?_ | refine l_slss rfl rfl rfl ?_
    refine l_nil ?_
    clear q h1 hr1 hr2
    refine c_if _ rfl (fun hc2 => ?_) (fun hc2 => ?_)
    · refine c_skip ?_
      have hj : j < row.length := by omega
      have hrj : row[j] < g.length := hrk _ (List.getElem_mem hj)
      have cells : ∀ {w}, St w0 (pt osN (.slice (some ⟨ib, 0, none⟩) g.length g.length) (cntF g.length (pre ++ row.take j)) :: pt rsNN (.slice (some al) gs.length cl) gs :: pt rsII (.slice A g.length c) g :: pt (rs k8) nv ns :: L) w → ∃ ar cr, w.cell? (al.add i) = some (.slice (some ar) row.length cr) ∧ (∀ k (hk : k < row.length), w.cell? (ar.add k) = some (.int .i64 (row[k] : Int))) := fun {w} h => by
        obtain ⟨al', u, hA, q, h1⟩ := (h.re [1]).rs_cell rfl rfl i hi
        cases hA
        rw [← hrow] at h1
        obtain ⟨Ar, cr, rfl, hr1, hr2⟩ := h1.rs_form
        obtain ⟨ar, rfl⟩ := h1.rsN_ad rfl hrp
        exact ⟨ar, cr, q, fun k hk => (h1.rsN_at hk).1⟩
      have hrb := bound63 hr1 hr2
      refine c_seq ?_
      refine c_block ?_
      refine c_seqS [(2, .int .u8 (a : Int)), (3, .int .u8 (b : Int)), (9, .slice A g.length c), (10, .slice (some al) gs.length cl), (11, .slice (some ⟨ib, 0, none⟩) g.length g.length), (12, .int .i64 (row[0] : Int)), (13, .int .i64 (i : Int)), (14, .int .i64 (j : Int))] (fun w => St w0 (pt osN (.slice (some ⟨ib, 0, none⟩) g.length g.length) (cntF g.length (pre ++ row.take j)) :: pt rsNN (.slice (some al) gs.length cl) gs :: pt rsII (.slice A g.length c) g :: pt (rs k8) nv ns :: L) w) ?_ ?_
      · refine c_seq ?_
        refine c_draw (by kernel_rfl) (fun w1 W => W = w1) (fun i => ([4, 13, 16, 17, 28, 29, 32, 33, 34, 35, 36, 37, 38] : List Nat).contains i) [.p 0 [], .p 1 [], .p 2 [], .q 3 [5, 6, 7, 8, 9, 10, 11, 12, 13, 14, 15, 16, 17, 18, 19, 20, 21, 22, 23, 24, 25, 26, 27, 28, 29, 30, 31, 32, 33, 34, 35, 36, 37, 38, 39, 40, 41], .p 4 [], .p 5 [], .q 6 [7, 8, 9, 10, 11, 12, 13, 14, 15, 16, 17, 18, 19, 20, 21, 22, 23, 24, 25, 26, 27, 28, 29, 30, 31, 32, 33, 34, 35, 36, 37, 38, 39, 40, 41], .p 7 [], .p 8 [], .p 9 [], .p 10 [], .p 11 [], .q 12 [14, 15, 18, 19, 20, 21, 22, 23, 24, 25, 26, 27, 28, 29, 30, 31, 32, 33, 34, 35, 36, 37, 38, 39, 40, 41], .p 13 [], .p 14 [], .q 15 [18, 19, 20, 21, 22, 23, 24, 25, 26, 27, 28, 29, 30, 31, 32, 33, 34, 35, 36, 37, 38, 39, 40, 41], .p 16 [], .p 17 [], .p 18 [], .p 19 [], .p 20 [], .p 21 [], .p 22 [], .p 23 [], .p 24 [], .p 25 [], .p 26 [], .q 27 [30, 31, 39, 40, 41], .p 28 [], .p 29 [], .p 30 [], .q 31 [39, 40, 41], .p 32 [], .p 33 [], .p 34 [], .q 35 [37, 38, 39, 40, 41], .p 36 [], .p 37 [], .q 38 [39, 40, 41], .p 39 [], .p 40 [], .p 41 []] (by kernel_rfl) rfl (by kernel_rfl) h ?_
        clear h; intro w h hw
        clear hw
        obtain ⟨ar, cr, q, qs⟩ := cells h
        have q0 := qs j hj
        by_cases hj0 : (j : Int) > 0
        · have hj1 : j - 1 < row.length := by omega
          have q1 := qs (j - 1) hj1
          have hlt : row[j - 1] < row[j] := List.pairwise_iff_getElem.1 hup (j - 1) j hj1 hj (by omega)
          refine d_val rfl rfl (e_move rfl) ?_
          refine d_val rfl rfl (e_move rfl) ?_
          first | refine d_val rfl rfl (e_indexAddr1 Try.underlying23 (by first | exact sz_23) rfl rfl (by omega)) ?_ | refine d_val rfl rfl (e_indexAddrN Try.underlying23 (by first | exact sz_23) rfl rfl (by omega)) ?_ | refine d_val rfl rfl (e_indexAddr Try.underlying23 (by first | exact sz_23) rfl rfl (by omega) (by omega)) ?_
          refine d_load1 rfl rfl plain26 rfl (by assumption) ?_
          refine d_val rfl rfl (e_move rfl) ?_
          first | refine d_val rfl rfl (e_indexAddr1 Try.underlying26 (by first | exact sz_26) rfl rfl (by omega)) ?_ | refine d_val rfl rfl (e_indexAddrN Try.underlying26 (by first | exact sz_26) rfl rfl (by omega)) ?_ | refine d_val rfl rfl (e_indexAddr Try.underlying26 (by first | exact sz_26) rfl rfl (by omega) (by omega)) ?_
          refine d_load1 rfl rfl plain3 rfl (by assumption) ?_
          first | refine d_val rfl rfl (e_lss rfl rfl) ?_ | refine d_val rfl rfl (e_slss rfl rfl) ?_
          refine d_same 68 (.bool false) rfl (vF (by omega)) ?_
          refine d_val rfl rfl (e_move rfl) ?_
          first | refine d_no rfl rfl rfl rfl rfl ?_ | refine d_noQ rfl rfl rfl rfl rfl rfl ?_ | refine d_yes rfl rfl rfl rfl (e_move rfl) ?_
          first | refine d_no rfl rfl rfl rfl rfl ?_ | refine d_noQ rfl rfl rfl rfl rfl rfl ?_ | refine d_yes rfl rfl rfl rfl (e_move rfl) ?_
          first | refine d_no rfl rfl rfl rfl rfl ?_ | refine d_noQ rfl rfl rfl rfl rfl rfl ?_ | refine d_yes rfl rfl rfl rfl (e_indexAddr1 Try.underlying23 (by first | exact sz_23) rfl rfl (by omega)) ?_ | refine d_yes rfl rfl rfl rfl (e_indexAddrN Try.underlying23 (by first | exact sz_23) rfl rfl (by omega)) ?_ | refine d_yes rfl rfl rfl rfl (e_indexAddr Try.underlying23 (by first | exact sz_23) rfl rfl (by omega) (by omega)) ?_
          first | refine d_no rfl rfl rfl rfl rfl ?_ | refine d_noQ rfl rfl rfl rfl rfl rfl ?_ | refine d_loadY rfl rfl rfl rfl plain26 rfl (by assumption) ?_
          first | refine d_no rfl rfl rfl rfl rfl ?_ | refine d_noQ rfl rfl rfl rfl rfl rfl ?_ | refine d_yes rfl rfl rfl rfl (e_move rfl) ?_
          first | refine d_no rfl rfl rfl rfl rfl ?_ | refine d_noQ rfl rfl rfl rfl rfl rfl ?_ | refine d_yes rfl rfl rfl rfl (e_indexAddr1 Try.underlying26 (by first | exact sz_26) rfl rfl (by omega)) ?_ | refine d_yes rfl rfl rfl rfl (e_indexAddrN Try.underlying26 (by first | exact sz_26) rfl rfl (by omega)) ?_ | refine d_yes rfl rfl rfl rfl (e_indexAddr Try.underlying26 (by first | exact sz_26) rfl rfl (by omega) (by omega)) ?_
          first | refine d_no rfl rfl rfl rfl rfl ?_ | refine d_noQ rfl rfl rfl rfl rfl rfl ?_ | refine d_loadY rfl rfl rfl rfl plain3 rfl (by assumption) ?_
          first | refine d_no rfl rfl rfl rfl rfl ?_ | refine d_noQ rfl rfl rfl rfl rfl rfl ?_ | refine d_yes rfl rfl rfl rfl (e_move rfl) ?_
          first | refine d_no rfl rfl rfl rfl rfl ?_ | refine d_noQ rfl rfl rfl rfl rfl rfl ?_ | refine d_yes rfl rfl rfl rfl (e_len Try.underlying23 rfl) ?_ | refine d_yes rfl rfl rfl rfl (e_len_string Try.underlying23 rfl) ?_
          first | refine d_no rfl rfl rfl rfl rfl ?_ | refine d_noQ rfl rfl rfl rfl rfl rfl ?_ | refine d_yes rfl rfl rfl rfl (e_geq rfl rfl) ?_
          refine d_same 79 (.bool false) rfl (vF (by omega)) ?_
          refine d_val rfl rfl (e_pick rfl rfl) ?_
          refine d_val rfl rfl (e_move rfl) ?_
          first | refine d_no rfl rfl rfl rfl rfl ?_ | refine d_noQ rfl rfl rfl rfl rfl rfl ?_ | refine d_yes rfl rfl rfl rfl (e_move rfl) ?_
          first | refine d_no rfl rfl rfl rfl rfl ?_ | refine d_noQ rfl rfl rfl rfl rfl rfl ?_ | refine d_yes rfl rfl rfl rfl (e_gtr rfl rfl) ?_
          refine d_same 83 (.bool true) rfl (vT hj0) ?_
          first | refine d_no rfl rfl rfl rfl rfl ?_ | refine d_noQ rfl rfl rfl rfl rfl rfl ?_ | refine d_yes rfl rfl rfl rfl (e_move rfl) ?_
          first | refine d_no rfl rfl rfl rfl rfl ?_ | refine d_noQ rfl rfl rfl rfl rfl rfl ?_ | refine d_yes rfl rfl rfl rfl (e_move rfl) ?_
          first | refine d_no rfl rfl rfl rfl rfl ?_ | refine d_noQ rfl rfl rfl rfl rfl rfl ?_ | refine d_yes rfl rfl rfl rfl (e_move rfl) ?_
          first | refine d_no rfl rfl rfl rfl rfl ?_ | refine d_noQ rfl rfl rfl rfl rfl rfl ?_ | refine d_yes rfl rfl rfl rfl (e_indexAddr1 Try.underlying23 (by first | exact sz_23) rfl rfl (by omega)) ?_ | refine d_yes rfl rfl rfl rfl (e_indexAddrN Try.underlying23 (by first | exact sz_23) rfl rfl (by omega)) ?_ | refine d_yes rfl rfl rfl rfl (e_indexAddr Try.underlying23 (by first | exact sz_23) rfl rfl (by omega) (by omega)) ?_
          first | refine d_no rfl rfl rfl rfl rfl ?_ | refine d_noQ rfl rfl rfl rfl rfl rfl ?_ | refine d_loadY rfl rfl rfl rfl plain26 rfl (by assumption) ?_
          first | refine d_no rfl rfl rfl rfl rfl ?_ | refine d_noQ rfl rfl rfl rfl rfl rfl ?_ | refine d_yes rfl rfl rfl rfl (e_move rfl) ?_
          first | refine d_no rfl rfl rfl rfl rfl ?_ | refine d_noQ rfl rfl rfl rfl rfl rfl ?_ | refine d_yes rfl rfl rfl rfl (e_subr rfl rfl (by omega) (by omega)) ?_
          refine d_same 90 (.int .i64 ((j - 1 : Nat) : Int)) rfl (by rw [show ((j - 1 : Nat) : Int) = (j : Int) - 1 by omega]) ?_
          first | refine d_no rfl rfl rfl rfl rfl ?_ | refine d_noQ rfl rfl rfl rfl rfl rfl ?_ | refine d_yes rfl rfl rfl rfl (e_indexAddr1 Try.underlying26 (by first | exact sz_26) rfl rfl (by omega)) ?_ | refine d_yes rfl rfl rfl rfl (e_indexAddrN Try.underlying26 (by first | exact sz_26) rfl rfl (by omega)) ?_ | refine d_yes rfl rfl rfl rfl (e_indexAddr Try.underlying26 (by first | exact sz_26) rfl rfl (by omega) (by omega)) ?_
          first | refine d_no rfl rfl rfl rfl rfl ?_ | refine d_noQ rfl rfl rfl rfl rfl rfl ?_ | refine d_loadY rfl rfl rfl rfl plain3 rfl (by assumption) ?_
          first | refine d_no rfl rfl rfl rfl rfl ?_ | refine d_noQ rfl rfl rfl rfl rfl rfl ?_ | refine d_yes rfl rfl rfl rfl (e_move rfl) ?_
          first | refine d_no rfl rfl rfl rfl rfl ?_ | refine d_noQ rfl rfl rfl rfl rfl rfl ?_ | refine d_yes rfl rfl rfl rfl (e_move rfl) ?_
          first | refine d_no rfl rfl rfl rfl rfl ?_ | refine d_noQ rfl rfl rfl rfl rfl rfl ?_ | refine d_yes rfl rfl rfl rfl (e_indexAddr1 Try.underlying23 (by first | exact sz_23) rfl rfl (by omega)) ?_ | refine d_yes rfl rfl rfl rfl (e_indexAddrN Try.underlying23 (by first | exact sz_23) rfl rfl (by omega)) ?_ | refine d_yes rfl rfl rfl rfl (e_indexAddr Try.underlying23 (by first | exact sz_23) rfl rfl (by omega) (by omega)) ?_
          first | refine d_no rfl rfl rfl rfl rfl ?_ | refine d_noQ rfl rfl rfl rfl rfl rfl ?_ | refine d_loadY rfl rfl rfl rfl plain26 rfl (by assumption) ?_
          first | refine d_no rfl rfl rfl rfl rfl ?_ | refine d_noQ rfl rfl rfl rfl rfl rfl ?_ | refine d_yes rfl rfl rfl rfl (e_move rfl) ?_
          first | refine d_no rfl rfl rfl rfl rfl ?_ | refine d_noQ rfl rfl rfl rfl rfl rfl ?_ | refine d_yes rfl rfl rfl rfl (e_indexAddr1 Try.underlying26 (by first | exact sz_26) rfl rfl (by omega)) ?_ | refine d_yes rfl rfl rfl rfl (e_indexAddrN Try.underlying26 (by first | exact sz_26) rfl rfl (by omega)) ?_ | refine d_yes rfl rfl rfl rfl (e_indexAddr Try.underlying26 (by first | exact sz_26) rfl rfl (by omega) (by omega)) ?_
          first | refine d_no rfl rfl rfl rfl rfl ?_ | refine d_noQ rfl rfl rfl rfl rfl rfl ?_ | refine d_loadY rfl rfl rfl rfl plain3 rfl (by assumption) ?_
          first | refine d_no rfl rfl rfl rfl rfl ?_ | refine d_noQ rfl rfl rfl rfl rfl rfl ?_ | refine d_yes rfl rfl rfl rfl (e_geq rfl rfl) ?_
          refine d_same 100 (.bool false) rfl (vF (by omega)) ?_
          first | refine d_no rfl rfl rfl rfl rfl ?_ | refine d_noQ rfl rfl rfl rfl rfl rfl ?_ | refine d_yes rfl rfl rfl rfl (e_pick rfl rfl) ?_
          refine d_val rfl rfl (e_pick rfl rfl) ?_
          refine d_nil ?_
          refine c_condF rfl ?_
          exact c_skip ⟨⟨rfl, rfl, rfl, rfl, rfl, rfl, rfl, rfl, trivial⟩, h⟩
        · skip
          refine d_val rfl rfl (e_move rfl) ?_
          refine d_val rfl rfl (e_move rfl) ?_
          first | refine d_val rfl rfl (e_indexAddr1 Try.underlying23 (by first | exact sz_23) rfl rfl (by omega)) ?_ | refine d_val rfl rfl (e_indexAddrN Try.underlying23 (by first | exact sz_23) rfl rfl (by omega)) ?_ | refine d_val rfl rfl (e_indexAddr Try.underlying23 (by first | exact sz_23) rfl rfl (by omega) (by omega)) ?_
          refine d_load1 rfl rfl plain26 rfl (by assumption) ?_
          refine d_val rfl rfl (e_move rfl) ?_
          first | refine d_val rfl rfl (e_indexAddr1 Try.underlying26 (by first | exact sz_26) rfl rfl (by omega)) ?_ | refine d_val rfl rfl (e_indexAddrN Try.underlying26 (by first | exact sz_26) rfl rfl (by omega)) ?_ | refine d_val rfl rfl (e_indexAddr Try.underlying26 (by first | exact sz_26) rfl rfl (by omega) (by omega)) ?_
          refine d_load1 rfl rfl plain3 rfl (by assumption) ?_
          first | refine d_val rfl rfl (e_lss rfl rfl) ?_ | refine d_val rfl rfl (e_slss rfl rfl) ?_
          refine d_same 68 (.bool false) rfl (vF (by omega)) ?_
          refine d_val rfl rfl (e_move rfl) ?_
          first | refine d_no rfl rfl rfl rfl rfl ?_ | refine d_noQ rfl rfl rfl rfl rfl rfl ?_ | refine d_yes rfl rfl rfl rfl (e_move rfl) ?_
          first | refine d_no rfl rfl rfl rfl rfl ?_ | refine d_noQ rfl rfl rfl rfl rfl rfl ?_ | refine d_yes rfl rfl rfl rfl (e_move rfl) ?_
          first | refine d_no rfl rfl rfl rfl rfl ?_ | refine d_noQ rfl rfl rfl rfl rfl rfl ?_ | refine d_yes rfl rfl rfl rfl (e_indexAddr1 Try.underlying23 (by first | exact sz_23) rfl rfl (by omega)) ?_ | refine d_yes rfl rfl rfl rfl (e_indexAddrN Try.underlying23 (by first | exact sz_23) rfl rfl (by omega)) ?_ | refine d_yes rfl rfl rfl rfl (e_indexAddr Try.underlying23 (by first | exact sz_23) rfl rfl (by omega) (by omega)) ?_
          first | refine d_no rfl rfl rfl rfl rfl ?_ | refine d_noQ rfl rfl rfl rfl rfl rfl ?_ | refine d_loadY rfl rfl rfl rfl plain26 rfl (by assumption) ?_
          first | refine d_no rfl rfl rfl rfl rfl ?_ | refine d_noQ rfl rfl rfl rfl rfl rfl ?_ | refine d_yes rfl rfl rfl rfl (e_move rfl) ?_
          first | refine d_no rfl rfl rfl rfl rfl ?_ | refine d_noQ rfl rfl rfl rfl rfl rfl ?_ | refine d_yes rfl rfl rfl rfl (e_indexAddr1 Try.underlying26 (by first | exact sz_26) rfl rfl (by omega)) ?_ | refine d_yes rfl rfl rfl rfl (e_indexAddrN Try.underlying26 (by first | exact sz_26) rfl rfl (by omega)) ?_ | refine d_yes rfl rfl rfl rfl (e_indexAddr Try.underlying26 (by first | exact sz_26) rfl rfl (by omega) (by omega)) ?_
          first | refine d_no rfl rfl rfl rfl rfl ?_ | refine d_noQ rfl rfl rfl rfl rfl rfl ?_ | refine d_loadY rfl rfl rfl rfl plain3 rfl (by assumption) ?_
          first | refine d_no rfl rfl rfl rfl rfl ?_ | refine d_noQ rfl rfl rfl rfl rfl rfl ?_ | refine d_yes rfl rfl rfl rfl (e_move rfl) ?_
          first | refine d_no rfl rfl rfl rfl rfl ?_ | refine d_noQ rfl rfl rfl rfl rfl rfl ?_ | refine d_yes rfl rfl rfl rfl (e_len Try.underlying23 rfl) ?_ | refine d_yes rfl rfl rfl rfl (e_len_string Try.underlying23 rfl) ?_
          first | refine d_no rfl rfl rfl rfl rfl ?_ | refine d_noQ rfl rfl rfl rfl rfl rfl ?_ | refine d_yes rfl rfl rfl rfl (e_geq rfl rfl) ?_
          refine d_same 79 (.bool false) rfl (vF (by omega)) ?_
          refine d_val rfl rfl (e_pick rfl rfl) ?_
          refine d_val rfl rfl (e_move rfl) ?_
          first | refine d_no rfl rfl rfl rfl rfl ?_ | refine d_noQ rfl rfl rfl rfl rfl rfl ?_ | refine d_yes rfl rfl rfl rfl (e_move rfl) ?_
          first | refine d_no rfl rfl rfl rfl rfl ?_ | refine d_noQ rfl rfl rfl rfl rfl rfl ?_ | refine d_yes rfl rfl rfl rfl (e_gtr rfl rfl) ?_
          refine d_same 83 (.bool false) rfl (vF hj0) ?_
          first | refine d_no rfl rfl rfl rfl rfl ?_ | refine d_noQ rfl rfl rfl rfl rfl rfl ?_ | refine d_yes rfl rfl rfl rfl (e_move rfl) ?_
          first | refine d_no rfl rfl rfl rfl rfl ?_ | refine d_noQ rfl rfl rfl rfl rfl rfl ?_ | refine d_yes rfl rfl rfl rfl (e_move rfl) ?_
          first | refine d_no rfl rfl rfl rfl rfl ?_ | refine d_noQ rfl rfl rfl rfl rfl rfl ?_ | refine d_yes rfl rfl rfl rfl (e_move rfl) ?_
          first | refine d_no rfl rfl rfl rfl rfl ?_ | refine d_noQ rfl rfl rfl rfl rfl rfl ?_ | refine d_yes rfl rfl rfl rfl (e_indexAddr1 Try.underlying23 (by first | exact sz_23) rfl rfl (by omega)) ?_ | refine d_yes rfl rfl rfl rfl (e_indexAddrN Try.underlying23 (by first | exact sz_23) rfl rfl (by omega)) ?_ | refine d_yes rfl rfl rfl rfl (e_indexAddr Try.underlying23 (by first | exact sz_23) rfl rfl (by omega) (by omega)) ?_
          first | refine d_no rfl rfl rfl rfl rfl ?_ | refine d_noQ rfl rfl rfl rfl rfl rfl ?_ | refine d_loadY rfl rfl rfl rfl plain26 rfl (by assumption) ?_
          first | refine d_no rfl rfl rfl rfl rfl ?_ | refine d_noQ rfl rfl rfl rfl rfl rfl ?_ | refine d_yes rfl rfl rfl rfl (e_move rfl) ?_
          first | refine d_no rfl rfl rfl rfl rfl ?_ | refine d_noQ rfl rfl rfl rfl rfl rfl ?_ | refine d_yes rfl rfl rfl rfl (e_subr rfl rfl (by omega) (by omega)) ?_
          first | refine d_no rfl rfl rfl rfl rfl ?_ | refine d_noQ rfl rfl rfl rfl rfl rfl ?_ | refine d_yes rfl rfl rfl rfl (e_indexAddr1 Try.underlying26 (by first | exact sz_26) rfl rfl (by omega)) ?_ | refine d_yes rfl rfl rfl rfl (e_indexAddrN Try.underlying26 (by first | exact sz_26) rfl rfl (by omega)) ?_ | refine d_yes rfl rfl rfl rfl (e_indexAddr Try.underlying26 (by first | exact sz_26) rfl rfl (by omega) (by omega)) ?_
          first | refine d_no rfl rfl rfl rfl rfl ?_ | refine d_noQ rfl rfl rfl rfl rfl rfl ?_ | refine d_loadY rfl rfl rfl rfl plain3 rfl (by assumption) ?_
          first | refine d_no rfl rfl rfl rfl rfl ?_ | refine d_noQ rfl rfl rfl rfl rfl rfl ?_ | refine d_yes rfl rfl rfl rfl (e_move rfl) ?_
          first | refine d_no rfl rfl rfl rfl rfl ?_ | refine d_noQ rfl rfl rfl rfl rfl rfl ?_ | refine d_yes rfl rfl rfl rfl (e_move rfl) ?_
          first | refine d_no rfl rfl rfl rfl rfl ?_ | refine d_noQ rfl rfl rfl rfl rfl rfl ?_ | refine d_yes rfl rfl rfl rfl (e_indexAddr1 Try.underlying23 (by first | exact sz_23) rfl rfl (by omega)) ?_ | refine d_yes rfl rfl rfl rfl (e_indexAddrN Try.underlying23 (by first | exact sz_23) rfl rfl (by omega)) ?_ | refine d_yes rfl rfl rfl rfl (e_indexAddr Try.underlying23 (by first | exact sz_23) rfl rfl (by omega) (by omega)) ?_
          first | refine d_no rfl rfl rfl rfl rfl ?_ | refine d_noQ rfl rfl rfl rfl rfl rfl ?_ | refine d_loadY rfl rfl rfl rfl plain26 rfl (by assumption) ?_
          first | refine d_no rfl rfl rfl rfl rfl ?_ | refine d_noQ rfl rfl rfl rfl rfl rfl ?_ | refine d_yes rfl rfl rfl rfl (e_move rfl) ?_
          first | refine d_no rfl rfl rfl rfl rfl ?_ | refine d_noQ rfl rfl rfl rfl rfl rfl ?_ | refine d_yes rfl rfl rfl rfl (e_indexAddr1 Try.underlying26 (by first | exact sz_26) rfl rfl (by omega)) ?_ | refine d_yes rfl rfl rfl rfl (e_indexAddrN Try.underlying26 (by first | exact sz_26) rfl rfl (by omega)) ?_ | refine d_yes rfl rfl rfl rfl (e_indexAddr Try.underlying26 (by first | exact sz_26) rfl rfl (by omega) (by omega)) ?_
          first | refine d_no rfl rfl rfl rfl rfl ?_ | refine d_noQ rfl rfl rfl rfl rfl rfl ?_ | refine d_loadY rfl rfl rfl rfl plain3 rfl (by assumption) ?_
          first | refine d_no rfl rfl rfl rfl rfl ?_ | refine d_noQ rfl rfl rfl rfl rfl rfl ?_ | refine d_yes rfl rfl rfl rfl (e_geq rfl rfl) ?_
          first | refine d_no rfl rfl rfl rfl rfl ?_ | refine d_noQ rfl rfl rfl rfl rfl rfl ?_ | refine d_yes rfl rfl rfl rfl (e_pick rfl rfl) ?_
          refine d_val rfl rfl (e_pick rfl rfl) ?_
          refine d_nil ?_
          refine c_condF rfl ?_
          exact c_skip ⟨⟨rfl, rfl, rfl, rfl, rfl, rfl, rfl, rfl, trivial⟩, h⟩
      clear h; intro w h
      obtain ⟨ar, cr, q, qs⟩ := cells h
      have q0 := qs j hj
      have hcl : row[j] < (cntF g.length (pre ++ row.take j)).length := by rw [cntF_len]; exact hrj
      obtain ⟨q1, hq1⟩ := h.osN_at hcl
      have hcnt := cntF_get g.length (pre ++ row.take j) row[j] hrj
      have hsn := cntF_snoc g.length (pre ++ row.take j) row[j]
      rw [List.append_assoc, ← List.take_succ_eq_append_getElem hj] at hsn
      obtain ⟨cn, hcn⟩ : ∃ cn, cn = (pre ++ row.take j).count row[j] := ⟨_, rfl⟩
      have hcb : cn ≤ g.length := by
        have h1 := List.count_le_length (a := row[j]) (l := pre ++ row.take j)
        rw [List.length_append, List.length_take] at h1
        omega
      rw [hcnt, ← hcn] at q1 hq1
      rw [← hcn] at hsn
      refine c_region ?_
      refine l_move rfl rfl ?_
      refine l_move rfl rfl ?_
      refine l_move rfl rfl ?_
      first | refine l_indexAddr1 rfl Try.underlying23 (by first | exact sz_23) rfl rfl (by omega) ?_ | refine l_indexAddrN rfl Try.underlying23 (by first | exact sz_23) rfl rfl (by omega) ?_ | refine l_indexAddr rfl Try.underlying23 (by first | exact sz_23) rfl rfl (by omega) (by omega) ?_
      refine l_load rfl plain26 rfl (by assumption) ?_
      refine l_move rfl rfl ?_
      first | refine l_indexAddr1 rfl Try.underlying26 (by first | exact sz_26) rfl rfl (by omega) ?_ | refine l_indexAddrN rfl Try.underlying26 (by first | exact sz_26) rfl rfl (by omega) ?_ | refine l_indexAddr rfl Try.underlying26 (by first | exact sz_26) rfl rfl (by omega) (by omega) ?_
      refine l_load rfl plain3 rfl (by assumption) ?_
      first | refine l_indexAddr1 rfl Try.underlying26 (by first | exact sz_26) rfl rfl (by omega) ?_ | refine l_indexAddrN rfl Try.underlying26 (by first | exact sz_26) rfl rfl (by omega) ?_ | refine l_indexAddr rfl Try.underlying26 (by first | exact sz_26) rfl rfl (by omega) (by omega) ?_
      refine l_load rfl plain3 rfl (by assumption) ?_
      first | refine l_addr rfl rfl rfl (by omega) (by omega) ?_ | refine l_sadd rfl rfl rfl (by omega) ?_
      refine l_set 113 (.int .i64 ((cn + 1 : Nat) : Int)) rfl rfl ?_
      first | refine l_indexAddr1 rfl Try.underlying26 (by first | exact sz_26) rfl rfl (by omega) ?_ | refine l_indexAddrN rfl Try.underlying26 (by first | exact sz_26) rfl rfl (by omega) ?_ | refine l_indexAddr rfl Try.underlying26 (by first | exact sz_26) rfl rfl (by omega) (by omega) ?_
      refine l_storeE plain3 rfl rfl rfl rfl hcl ((h.addNat (cn + 1) (by omega)).re [1, 0]) ?_
      clear h q q0 q1; intro w h
      rw [hsn] at h
      refine l_nil ?_
      refine c_region ?_
      refine l_move rfl rfl ?_
      first | refine l_addr rfl rfl rfl (by omega) (by omega) ?_ | refine l_sadd rfl rfl rfl (by omega) ?_
      refine l_assign rfl rfl ?_
      refine l_nil ?_
      exact ⟨m2 - 1, [(2, .int .u8 (a : Int)), (3, .int .u8 (b : Int)), (9, .slice A g.length c), (10, .slice (some al) gs.length cl), (11, .slice (some ⟨ib, 0, none⟩) g.length g.length), (12, .int .i64 (row[0] : Int)), (13, .int .i64 (i : Int)), (14, .int .i64 ((j + 1 : Nat) : Int))], by omega, ⟨rfl, rfl, rfl, rfl, rfl, rfl, rfl, rfl, trivial⟩, j + 1, by omega, rfl, h⟩
    · refine c_exit ?_
      have hj : j = row.length := by omega
      subst hj
      rw [List.take_length, ← hsucc] at h
      refine c_region ?_
      refine l_move rfl rfl ?_
      first | refine l_addr rfl rfl rfl (by omega) (by omega) ?_ | refine l_sadd rfl rfl rfl (by omega) ?_
      refine l_assign rfl rfl ?_
      refine l_nil ?_
      refine ⟨m - 1, [(2, .int .u8 (a : Int)), (3, .int .u8 (b : Int)), (9, .slice A g.length c), (10, .slice (some al) gs.length cl), (11, .slice (some ⟨ib, 0, none⟩) g.length g.length), (12, .int .i64 (row[0] : Int)), (13, .int .i64 ((i + 1 : Nat) : Int))], by omega, ⟨rfl, rfl, rfl, rfl, rfl, rfl, rfl, trivial⟩, i + 1, _, by omega, fun hi1 => ?_, rfl, h⟩
      have := heads_lt hP hR hi1
      rw [← hrow, hhead] at this
      omega
  · refine c_exit ?_
    have hi : i = gs.length := by omega
    subst hi
    rw [List.take_length] at h
    clear hlast hc him
    refine c_seq ?_
    refine c_seq ?_
    refine c_region ?_
    refine l_assign rfl rfl ?_
    refine l_nil ?_
    refine c_block ?_
    refine c_loop' (fun m env w => ∃ (i : Nat), i + m = g.length ∧ env = [(2, .int .u8 (a : Int)), (3, .int .u8 (b : Int)), (9, .slice A g.length c), (10, .slice Al gs.length cl), (11, .slice (some ⟨ib, 0, none⟩) g.length g.length), (15, .int .i64 (i : Int))] ∧ St w0 (pt osN (.slice (some ⟨ib, 0, none⟩) g.length g.length) (cntF g.length gs.flatten) :: pt rsNN (.slice Al gs.length cl) gs :: pt rsII (.slice A g.length c) g :: pt (rs k8) nv ns :: L) w) g.length [(2, .int .u8 (a : Int)), (3, .int .u8 (b : Int)), (9, .slice A g.length c), (10, .slice Al gs.length cl), (11, .slice (some ⟨ib, 0, none⟩) g.length g.length), (15, .int .i64 ((0 : Nat) : Int))] ⟨rfl, rfl, rfl, rfl, rfl, rfl, trivial⟩ ⟨0, by omega, rfl, h⟩ ?_
    clear h
    rintro m env w ⟨i, him, rfl, h⟩
    refine c_seq ?_
    refine c_seq ?_
    refine c_region ?_
    refine l_move rfl rfl ?_
    refine l_move rfl rfl ?_
    first | refine l_len rfl Try.underlying26 rfl ?_ | refine l_len_string rfl Try.underlying26 rfl ?_
    first | refine l_lss rfl rfl rfl ?_ | refine l_slss rfl rfl rfl ?_
    refine l_nil ?_
    refine c_if _ rfl (fun hc => ?_) (fun hc => ?_)
    · refine c_skip ?_
      have hi : i < g.length := by omega
      have q := (h.osN_at (i := i) (by rw [cntF_len]; exact hi)).1
      rw [cntF_one hP.nd hle i hi] at q
      refine c_seq ?_
      refine c_block ?_
      refine c_seq ?_
      refine c_region ?_
      refine l_move rfl rfl ?_
      refine l_move rfl rfl ?_
      first | refine l_indexAddr1 rfl Try.underlying26 (by first | exact sz_26) rfl rfl (by omega) ?_ | refine l_indexAddrN rfl Try.underlying26 (by first | exact sz_26) rfl rfl (by omega) ?_ | refine l_indexAddr rfl Try.underlying26 (by first | exact sz_26) rfl rfl (by omega) (by omega) ?_
      refine l_load rfl plain3 rfl (by assumption) ?_
      first | refine l_neq rfl rfl rfl ?_ | refine l_sneq rfl rfl rfl ?_
      refine l_set 125 (.bool false) rfl (by simp) ?_
      refine l_nil ?_
      refine c_condF rfl ?_
      refine c_skip ?_
      refine c_region ?_
      refine l_move rfl rfl ?_
      first | refine l_addr rfl rfl rfl (by omega) (by omega) ?_ | refine l_sadd rfl rfl rfl (by omega) ?_
      refine l_assign rfl rfl ?_
      refine l_nil ?_
      exact ⟨m - 1, [(2, .int .u8 (a : Int)), (3, .int .u8 (b : Int)), (9, .slice A g.length c), (10, .slice Al gs.length cl), (11, .slice (some ⟨ib, 0, none⟩) g.length g.length), (15, .int .i64 ((i + 1 : Nat) : Int))], by omega, ⟨rfl, rfl, rfl, rfl, rfl, rfl, trivial⟩, i + 1, by omega, rfl, h⟩
    refine c_exit ?_
    clear hc him
    replace h := (h.drop).re [1]
    refine c_seq ?_
    refine c_region ?_
    refine l_move rfl rfl ?_
    refine l_move rfl rfl ?_
    refine l_call rfl Try.func19 rfl (by decide) rfl (groups15_calls hgs _ hgl hgr h) ?_
    clear h
    rintro e w ⟨v2, rfl, h⟩
    refine ⟨_, rfl, ?_⟩
    replace h := osNN_rs h
    replace h : St w0 (pt rsII (.slice Al gs.length cl) (intss gs) :: pt rsII v2 (intss gs) :: pt rsII (.slice A g.length c) g :: pt (rs k8) nv ns :: L) w := (h.re [2]).turn (rs_turns (rs_turns kN_kI)) (fun _ _ _ _ => trivial)
    refine l_call rfl Try.func16 rfl (by decide) rfl (same_calls h) ?_
    clear h
    rintro e w ⟨rfl, h⟩
    refine ⟨_, rfl, ?_⟩
    refine l_set 129 (.bool true) rfl (by simp) ?_
    refine l_move rfl rfl ?_
    first | (refine l_yes rfl rfl ?_; first | refine l_move rfl rfl ?_) | refine l_no rfl rfl rfl rfl ?_ | refine l_no' rfl rfl rfl ?_
    first | (refine l_yes rfl rfl ?_; first | refine l_move rfl rfl ?_) | refine l_no rfl rfl rfl rfl ?_ | refine l_no' rfl rfl rfl ?_
    first | (refine l_yes rfl rfl ?_; first | refine l_conv8 rfl Try.underlying5 Try.underlying3 (by omega) rfl ?_ | refine l_convInt rfl Try.underlying5 Try.underlying3 rfl ?_) | refine l_no rfl rfl rfl rfl ?_ | refine l_no' rfl rfl rfl ?_
    first | (refine l_yes rfl rfl ?_; first | refine l_move rfl rfl ?_) | refine l_no rfl rfl rfl rfl ?_ | refine l_no' rfl rfl rfl ?_
    first | (refine l_yes rfl rfl ?_; first | refine l_conv8 rfl Try.underlying5 Try.underlying3 (by omega) rfl ?_ | refine l_convInt rfl Try.underlying5 Try.underlying3 rfl ?_) | refine l_no rfl rfl rfl rfl ?_ | refine l_no' rfl rfl rfl ?_
    refine l_yes rfl rfl ?_
    refine l_call rfl Try.func20 rfl (by decide) rfl (reach_calls g _ (a : Int) (b : Int) hgl hgr (h.re [2])) ?_
    clear h
    rintro e w ⟨⟨c1, hc1, rfl⟩, h⟩
    refine ⟨_, rfl, ?_⟩
    first | (refine l_yes rfl rfl ?_; first | refine l_move rfl rfl ?_) | refine l_no rfl rfl rfl rfl ?_ | refine l_no' rfl rfl rfl ?_
    first | (refine l_yes rfl rfl ?_; first | refine l_move rfl rfl ?_) | refine l_no rfl rfl rfl rfl ?_ | refine l_no' rfl rfl rfl ?_
    first | (refine l_yes rfl rfl ?_; first | refine l_conv8 rfl Try.underlying5 Try.underlying3 (by omega) rfl ?_ | refine l_convInt rfl Try.underlying5 Try.underlying3 rfl ?_) | refine l_no rfl rfl rfl rfl ?_ | refine l_no' rfl rfl rfl ?_
    first | (refine l_yes rfl rfl ?_; first | refine l_move rfl rfl ?_) | refine l_no rfl rfl rfl rfl ?_ | refine l_no' rfl rfl rfl ?_
    first | (refine l_yes rfl rfl ?_; first | refine l_conv8 rfl Try.underlying5 Try.underlying3 (by omega) rfl ?_ | refine l_convInt rfl Try.underlying5 Try.underlying3 rfl ?_) | refine l_no rfl rfl rfl rfl ?_ | refine l_no' rfl rfl rfl ?_
    refine l_yes rfl rfl ?_
    refine l_call rfl Try.func21 rfl (by decide) rfl (reach15_calls g _ (a : Int) (b : Int) hgl hgr h) ?_
    clear h
    rintro e w ⟨⟨c2, hc2, rfl⟩, h⟩
    refine ⟨_, rfl, ?_⟩
    have hcc : c1 = c2 := by rw [Bool.eq_iff_iff, hc1, hc2]
    subst hcc
    refine l_yes rfl rfl ?_
    refine l_eqlB rfl Try.underlying4 rfl rfl ?_
    refine l_set 143 (.bool true) rfl (by simp) ?_
    refine l_pick rfl rfl rfl ?_
    refine l_move rfl rfl ?_
    refine l_yes rfl rfl ?_
    refine l_call rfl Try.func14 rfl (by decide) rfl (awake15_calls h) ?_
    clear h
    rintro e w ⟨rfl, h⟩
    refine ⟨_, rfl, ?_⟩
    refine l_pick rfl rfl rfl ?_
    refine l_assign rfl rfl ?_
    refine l_nil ?_
    exact c_ret ⟨.inr rfl, _, rfl, rfl, (h.re [3]).perm (List.Perm.cons _ (List.Perm.refl _)) |>.re [0, 1, 2, 3] |> fun h => ((h.re [1, 2, 3, 0]).drop.drop.drop)⟩
end Go.Proofs.Ythamopcfpmkbfaa
