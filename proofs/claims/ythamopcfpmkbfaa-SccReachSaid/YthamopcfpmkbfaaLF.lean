/- The law SccReach, walked. No condition. -/
import Derived.Test.YthamopcfpmkbfaaLD
set_option linter.unusedVariables false
set_option linter.unusedSimpArgs false
namespace Go.Proofs.Ythamopcfpmkbfaa
open Go.Proofs.Fw
variable {w0 w : World} {L : List Res}
theorem reachG_nat {g : List (List Int)} {x y : Nat} (hx : x < g.length) (hy : y < g.length) : ReachG g (x : Int) (y : Int) ↔ Rch (nats (edgesF g)) x y := by
  unfold ReachG
  rw [Int.toNat_natCast, Int.toNat_natCast]
  constructor
  · exact fun k => k.2.2.2.2
  · exact fun k => ⟨by omega, by omega, by omega, by omega, k⟩
set_option maxRecDepth 4000 in
theorem sccreach_calls {ns : List Nat} {nv : Value} {n a b c : Nat} (hn : n ≤ 255) (ha : a ≤ 255) (hb : b ≤ 255) (hc : c ≤ 255) (h : St w0 (pt (rs k8) nv ns :: L) w) :
    Calls Try.prog 6 #[nv, .int .u8 (n : Int), .int .u8 (a : Int), .int .u8 (b : Int), .int .u8 (c : Int)] w fun e w' => e = .returned (.bool true) ∧ St w0 (pt (rs k8) nv ns :: L) w' := by
  refine f_one Try.func6 rfl Try.results6 Try.ntmps6 rfl ?_
  refine c_seq ?_
  refine c_region ?_
  refine l_assign rfl rfl ?_
  refine l_nil ?_
  refine c_seq ?_
  refine c_region ?_
  refine l_move rfl rfl ?_
  refine l_move rfl rfl ?_
  refine l_call rfl Try.func13 rfl (by decide) rfl (make_calls hn h) ?_
  clear h
  rintro e w ⟨g0, gv, hgl0, hg0, rfl, h⟩
  refine ⟨_, rfl, ?_⟩
  replace h := osNN_rs h
  obtain ⟨g, hge⟩ : ∃ g, g = intss g0 := ⟨_, rfl⟩
  have hgl : g.length ≤ 100000 := by rw [hge, intss_len]; omega
  have hgr : ∀ r ∈ g, r.length ≤ 100000 := by
    rw [hge]
    exact intss_rows fun r hr => by have := (hg0 r hr).1; omega
  have hin : ∀ r ∈ g, ∀ b ∈ r, 0 ≤ b ∧ b < (g.length : Int) := by
    rw [hge, intss_len, hgl0]
    intro r hr b hb
    obtain ⟨r', hr', rfl⟩ := List.mem_map.1 hr
    obtain ⟨y, hy, rfl⟩ := List.mem_map.1 hb
    have := (hg0 r' hr').2 y hy
    omega
  rw [← hge] at h
  clear hg0 hgl0 hge
  obtain ⟨gs, hgs⟩ := grp_exists g hgl
  have hgsl := hgs.len
  obtain ⟨A, cg, rfl, -, -⟩ := h.rs_form
  refine l_assign rfl rfl ?_
  refine l_nil ?_
  refine c_seq ?_
  refine c_seq ?_
  refine c_region ?_
  refine l_move rfl rfl ?_
  first | refine l_len rfl Try.underlying23 rfl ?_ | refine l_len_string rfl Try.underlying23 rfl ?_
  first | refine l_eql rfl rfl rfl ?_ | refine l_seql rfl rfl rfl ?_
  refine l_nil ?_
  refine c_if _ rfl (fun hg => ?_) (fun hg => ?_)
  · refine c_seq ?_
    refine c_region ?_
    refine l_call (args := []) rfl Try.func14 rfl (by decide) rfl (awake15_calls h) ?_
    clear h
    rintro e w ⟨rfl, h⟩
    refine ⟨_, rfl, ?_⟩
    refine l_assign rfl rfl ?_
    refine l_nil ?_
    exact c_ret ⟨.inr rfl, _, rfl, rfl, h.drop⟩
  refine c_skip ?_
  have hg0 : 0 < g.length := by omega
  obtain ⟨x, hxe⟩ : ∃ x, x = a % g.length := ⟨_, rfl⟩
  obtain ⟨y, hye⟩ : ∃ y, y = b % g.length := ⟨_, rfl⟩
  obtain ⟨z, hze⟩ : ∃ z, z = c % g.length := ⟨_, rfl⟩
  have hx : x < g.length := by rw [hxe]; exact Nat.mod_lt _ hg0
  have hy : y < g.length := by rw [hye]; exact Nat.mod_lt _ hg0
  have hz : z < g.length := by rw [hze]; exact Nat.mod_lt _ hg0
  refine c_seq ?_
  refine c_draw (by kernel_rfl) (fun w1 W => W = w1) (fun i => ([] : List Nat).contains i) [.p 0 [], .p 1 [], .p 2 [], .p 3 [], .p 4 [], .p 5 [], .p 6 [], .p 7 [], .p 8 [], .p 9 [], .p 10 [], .p 11 [], .p 12 [], .p 13 [], .p 14 [], .p 15 [], .p 16 [], .p 17 []] (by kernel_rfl) rfl (by kernel_rfl) h ?_
  clear h; intro w h hw
  clear hw
  refine d_val rfl rfl (e_move rfl) ?_
  first | refine d_val rfl rfl (e_conv8 Try.underlying5 Try.underlying3 (by omega) rfl) ?_ | refine d_val rfl rfl (e_convInt Try.underlying5 Try.underlying3 rfl) ?_
  refine d_val rfl rfl (e_move rfl) ?_
  first | refine d_val rfl rfl (e_len Try.underlying23 rfl) ?_ | refine d_val rfl rfl (e_len_string Try.underlying23 rfl) ?_
  refine d_val rfl rfl (e_remN rfl rfl (by omega)) ?_
  refine d_val rfl rfl (e_move rfl) ?_
  first | refine d_val rfl rfl (e_conv8 Try.underlying5 Try.underlying3 (by omega) rfl) ?_ | refine d_val rfl rfl (e_convInt Try.underlying5 Try.underlying3 rfl) ?_
  refine d_val rfl rfl (e_move rfl) ?_
  first | refine d_val rfl rfl (e_len Try.underlying23 rfl) ?_ | refine d_val rfl rfl (e_len_string Try.underlying23 rfl) ?_
  refine d_val rfl rfl (e_remN rfl rfl (by omega)) ?_
  refine d_val rfl rfl (e_move rfl) ?_
  first | refine d_val rfl rfl (e_conv8 Try.underlying5 Try.underlying3 (by omega) rfl) ?_ | refine d_val rfl rfl (e_convInt Try.underlying5 Try.underlying3 rfl) ?_
  refine d_val rfl rfl (e_move rfl) ?_
  first | refine d_val rfl rfl (e_len Try.underlying23 rfl) ?_ | refine d_val rfl rfl (e_len_string Try.underlying23 rfl) ?_
  refine d_val rfl rfl (e_remN rfl rfl (by omega)) ?_
  refine d_val rfl rfl (e_assign rfl) ?_
  refine d_val rfl rfl (e_assign rfl) ?_
  refine d_val rfl rfl (e_assign rfl) ?_
  refine d_nil ?_
  refine c_seq ?_
  refine c_region ?_
  refine l_set 12 (.int .i64 (x : Int)) rfl (by rw [hxe]) ?_
  refine l_set 13 (.int .i64 (y : Int)) rfl (by rw [hye]) ?_
  refine l_set 14 (.int .i64 (z : Int)) rfl (by rw [hze]) ?_
  refine l_move rfl rfl ?_
  refine l_call rfl Try.func15 rfl (by decide) rfl (of_grp hgs _ hgl hgr h) ?_
  clear h
  rintro e w ⟨lv, rfl, h⟩
  refine ⟨_, rfl, ?_⟩
  replace h : St w0 (pt (rs (rs kN)) lv gs :: pt rsII (.slice A g.length cg) g :: pt (rs k8) nv ns :: L) w := h.frz (os_frz (os_frz kN_pers.frz rfl) rfl)
  obtain ⟨Al, cl, rfl, hl1, hl2⟩ := h.rs_form
  refine l_assign rfl rfl ?_
  refine l_nil ?_
  refine c_seq ?_
  refine c_region ?_
  refine l_move rfl rfl ?_
  first | refine l_len rfl Try.underlying23 rfl ?_ | refine l_len_string rfl Try.underlying23 rfl ?_
  refine l_makeS (Kx := kN) (zx := 0) rfl Try.underlying26 info3 rfl ⟨rfl, Nat.zero_le _⟩ rfl rfl (by omega) (by unfold maxLen; omega) h ?_
  clear h; intro ib w h
  refine l_assign rfl rfl ?_
  refine l_nil ?_
  refine c_seq ?_
  refine c_seq ?_
  refine c_region ?_
  refine l_assign rfl rfl ?_
  refine l_nil ?_
  refine c_block ?_
  refine c_loop' (fun m env w => ∃ (i : Nat) (arr : List Nat), i + m = gs.length ∧ OfTo g.length gs (gs.take i).flatten arr ∧ env = [(11, .slice A g.length cg), (12, .int .i64 (x : Int)), (13, .int .i64 (y : Int)), (14, .int .i64 (z : Int)), (15, .slice Al gs.length cl), (16, .slice (some ⟨ib, 0, none⟩) g.length g.length), (17, .int .i64 (i : Int))] ∧ St w0 (pt osN (.slice (some ⟨ib, 0, none⟩) g.length g.length) arr :: pt (rs (rs kN)) (.slice Al gs.length cl) gs :: pt rsII (.slice A g.length cg) g :: pt (rs k8) nv ns :: L) w) gs.length [(11, .slice A g.length cg), (12, .int .i64 (x : Int)), (13, .int .i64 (y : Int)), (14, .int .i64 (z : Int)), (15, .slice Al gs.length cl), (16, .slice (some ⟨ib, 0, none⟩) g.length g.length), (17, .int .i64 ((0 : Nat) : Int))] ⟨rfl, rfl, rfl, rfl, rfl, rfl, rfl, trivial⟩ ⟨0, _, by omega, by simpa using OfTo.begin g.length gs, rfl, h⟩ ?_
  clear h
  rintro m env w ⟨i, arr, him, ho, rfl, h⟩
  refine c_seq ?_
  refine c_seq ?_
  refine c_region ?_
  refine l_move rfl rfl ?_
  refine l_move rfl rfl ?_
  first | refine l_len rfl Try.underlying23 rfl ?_ | refine l_len_string rfl Try.underlying23 rfl ?_
  first | refine l_lss rfl rfl rfl ?_ | refine l_slss rfl rfl rfl ?_
  refine l_nil ?_
  refine c_if _ rfl (fun hc => ?_) (fun hc => ?_)
  · refine c_skip ?_
    have hi : i < gs.length := by omega
    refine c_seq ?_
    refine c_block ?_
    refine c_seq ?_
    refine c_region ?_
    refine l_assign rfl rfl ?_
    refine l_nil ?_
    refine c_block ?_
    refine c_loop' (fun m2 env w => ∃ (j : Nat) (arr : List Nat), j + m2 = gs[i].length ∧ OfTo g.length gs ((gs.take i).flatten ++ gs[i].take j) arr ∧ env = [(11, .slice A g.length cg), (12, .int .i64 (x : Int)), (13, .int .i64 (y : Int)), (14, .int .i64 (z : Int)), (15, .slice Al gs.length cl), (16, .slice (some ⟨ib, 0, none⟩) g.length g.length), (17, .int .i64 (i : Int)), (18, .int .i64 (j : Int))] ∧ St w0 (pt osN (.slice (some ⟨ib, 0, none⟩) g.length g.length) arr :: pt (rs (rs kN)) (.slice Al gs.length cl) gs :: pt rsII (.slice A g.length cg) g :: pt (rs k8) nv ns :: L) w) gs[i].length [(11, .slice A g.length cg), (12, .int .i64 (x : Int)), (13, .int .i64 (y : Int)), (14, .int .i64 (z : Int)), (15, .slice Al gs.length cl), (16, .slice (some ⟨ib, 0, none⟩) g.length g.length), (17, .int .i64 (i : Int)), (18, .int .i64 ((0 : Nat) : Int))] ⟨rfl, rfl, rfl, rfl, rfl, rfl, rfl, rfl, trivial⟩ ⟨0, _, by omega, by simpa using ho, rfl, h⟩ ?_
    clear h ho
    rintro m2 env w ⟨j, arr, hjm, ho, rfl, h⟩
    obtain ⟨al, Ar, cr, rfl, q, hr1, hr2, hrow, -⟩ := (h.re [1]).rsNN_row hi
    have hrb := bound63 hr1 hr2
    refine c_seq ?_
    refine c_seq ?_
    refine c_region ?_
    refine l_move rfl rfl ?_
    refine l_move rfl rfl ?_
    refine l_move rfl rfl ?_
    first | refine l_indexAddr1 rfl Try.underlying23 (by first | exact sz_23) rfl rfl (by omega) ?_ | refine l_indexAddrN rfl Try.underlying23 (by first | exact sz_23) rfl rfl (by omega) ?_ | refine l_indexAddr rfl Try.underlying23 (by first | exact sz_23) rfl rfl (by omega) (by omega) ?_
    refine l_load rfl plain26 rfl (by assumption) ?_
    first | refine l_len rfl Try.underlying26 rfl ?_ | refine l_len_string rfl Try.underlying26 rfl ?_
    first | refine l_lss rfl rfl rfl ?_ | refine l_slss rfl rfl rfl ?_
    refine l_nil ?_
    refine c_if _ rfl (fun hc2 => ?_) (fun hc2 => ?_)
    · refine c_skip ?_
      have hj : j < gs[i].length := by omega
      have hxm : gs[i][j] ∈ gs[i] := List.getElem_mem hj
      have hxn := hgs.row hi hxm
      have hal : arr.length = g.length := ho.len
      obtain ⟨ar, rfl, hra⟩ := hrow (by omega)
      have q2 := (hra j hj).1
      refine c_seq ?_
      refine c_block ?_
      refine c_seq ?_
      refine c_seq ?_
      refine c_region ?_
      refine l_move rfl rfl ?_
      refine l_move rfl rfl ?_
      first | refine l_indexAddr1 rfl Try.underlying23 (by first | exact sz_23) rfl rfl (by omega) ?_ | refine l_indexAddrN rfl Try.underlying23 (by first | exact sz_23) rfl rfl (by omega) ?_ | refine l_indexAddr rfl Try.underlying23 (by first | exact sz_23) rfl rfl (by omega) (by omega) ?_
      refine l_load rfl plain26 rfl (by assumption) ?_
      refine l_move rfl rfl ?_
      first | refine l_indexAddr1 rfl Try.underlying26 (by first | exact sz_26) rfl rfl (by omega) ?_ | refine l_indexAddrN rfl Try.underlying26 (by first | exact sz_26) rfl rfl (by omega) ?_ | refine l_indexAddr rfl Try.underlying26 (by first | exact sz_26) rfl rfl (by omega) (by omega) ?_
      refine l_load rfl plain3 rfl (by assumption) ?_
      first | refine l_lss rfl rfl rfl ?_ | refine l_slss rfl rfl rfl ?_
      refine l_set 71 (.bool false) rfl (vF (by omega)) ?_
      refine l_move rfl rfl ?_
      first | (refine l_yes rfl rfl ?_; first | refine l_move rfl rfl ?_) | refine l_no rfl rfl rfl rfl ?_ | refine l_no' rfl rfl rfl ?_
      first | (refine l_yes rfl rfl ?_; first | refine l_move rfl rfl ?_) | refine l_no rfl rfl rfl rfl ?_ | refine l_no' rfl rfl rfl ?_
      first | (refine l_yes rfl rfl ?_; first | refine l_indexAddr1 rfl Try.underlying23 (by first | exact sz_23) rfl rfl (by omega) ?_ | refine l_indexAddrN rfl Try.underlying23 (by first | exact sz_23) rfl rfl (by omega) ?_ | refine l_indexAddr rfl Try.underlying23 (by first | exact sz_23) rfl rfl (by omega) (by omega) ?_) | refine l_no rfl rfl rfl rfl ?_ | refine l_no' rfl rfl rfl ?_
      first | (refine l_yes rfl rfl ?_; first | refine l_load rfl plain26 rfl (by assumption) ?_) | refine l_no rfl rfl rfl rfl ?_ | refine l_no' rfl rfl rfl ?_
      first | (refine l_yes rfl rfl ?_; first | refine l_move rfl rfl ?_) | refine l_no rfl rfl rfl rfl ?_ | refine l_no' rfl rfl rfl ?_
      first | (refine l_yes rfl rfl ?_; first | refine l_indexAddr1 rfl Try.underlying26 (by first | exact sz_26) rfl rfl (by omega) ?_ | refine l_indexAddrN rfl Try.underlying26 (by first | exact sz_26) rfl rfl (by omega) ?_ | refine l_indexAddr rfl Try.underlying26 (by first | exact sz_26) rfl rfl (by omega) (by omega) ?_) | refine l_no rfl rfl rfl rfl ?_ | refine l_no' rfl rfl rfl ?_
      first | (refine l_yes rfl rfl ?_; first | refine l_load rfl plain3 rfl (by assumption) ?_) | refine l_no rfl rfl rfl rfl ?_ | refine l_no' rfl rfl rfl ?_
      first | (refine l_yes rfl rfl ?_; first | refine l_move rfl rfl ?_) | refine l_no rfl rfl rfl rfl ?_ | refine l_no' rfl rfl rfl ?_
      first | (refine l_yes rfl rfl ?_; first | refine l_len rfl Try.underlying23 rfl ?_ | refine l_len_string rfl Try.underlying23 rfl ?_) | refine l_no rfl rfl rfl rfl ?_ | refine l_no' rfl rfl rfl ?_
      first | (refine l_yes rfl rfl ?_; first | refine l_geq rfl rfl rfl ?_) | refine l_no rfl rfl rfl rfl ?_ | refine l_no' rfl rfl rfl ?_
      refine l_set 82 (.bool false) rfl (vF (by omega)) ?_
      refine l_pick rfl rfl rfl ?_
      refine l_nil ?_
      refine c_condF rfl ?_
      refine c_skip ?_
      refine c_region ?_
      refine l_move rfl rfl ?_
      refine l_move rfl rfl ?_
      refine l_move rfl rfl ?_
      first | refine l_indexAddr1 rfl Try.underlying23 (by first | exact sz_23) rfl rfl (by omega) ?_ | refine l_indexAddrN rfl Try.underlying23 (by first | exact sz_23) rfl rfl (by omega) ?_ | refine l_indexAddr rfl Try.underlying23 (by first | exact sz_23) rfl rfl (by omega) (by omega) ?_
      refine l_load rfl plain26 rfl (by assumption) ?_
      refine l_move rfl rfl ?_
      first | refine l_indexAddr1 rfl Try.underlying26 (by first | exact sz_26) rfl rfl (by omega) ?_ | refine l_indexAddrN rfl Try.underlying26 (by first | exact sz_26) rfl rfl (by omega) ?_ | refine l_indexAddr rfl Try.underlying26 (by first | exact sz_26) rfl rfl (by omega) (by omega) ?_
      refine l_load rfl plain3 rfl (by assumption) ?_
      refine l_move rfl rfl ?_
      first | refine l_indexAddr1 rfl Try.underlying26 (by first | exact sz_26) rfl rfl (by omega) ?_ | refine l_indexAddrN rfl Try.underlying26 (by first | exact sz_26) rfl rfl (by omega) ?_ | refine l_indexAddr rfl Try.underlying26 (by first | exact sz_26) rfl rfl (by omega) (by omega) ?_
      refine l_storeE plain3 rfl rfl rfl rfl (by omega) ((h.addNat i (by omega)).re [1, 0]) ?_
      clear h q q2; intro w h
      refine l_nil ?_
      refine c_region ?_
      refine l_move rfl rfl ?_
      first | refine l_addr rfl rfl rfl (by omega) (by omega) ?_ | refine l_sadd rfl rfl rfl (by omega) ?_
      refine l_assign rfl rfl ?_
      refine l_nil ?_
      refine ⟨m2 - 1, [(11, .slice A g.length cg), (12, .int .i64 (x : Int)), (13, .int .i64 (y : Int)), (14, .int .i64 (z : Int)), (15, .slice (some al) gs.length cl), (16, .slice (some ⟨ib, 0, none⟩) g.length g.length), (17, .int .i64 (i : Int)), (18, .int .i64 ((j + 1 : Nat) : Int))], by omega, ⟨rfl, rfl, rfl, rfl, rfl, rfl, rfl, rfl, trivial⟩, j + 1, _, by omega, ?_, rfl, h⟩
      rw [List.take_succ_eq_append_getElem hj, ← List.append_assoc]
      exact ho.snoc hgs.1.nd hi hxm hxn
    · refine c_exit ?_
      have hj : j = gs[i].length := by omega
      subst hj
      rw [List.take_length, ← take_flat hi] at ho
      refine c_region ?_
      refine l_move rfl rfl ?_
      first | refine l_addr rfl rfl rfl (by omega) (by omega) ?_ | refine l_sadd rfl rfl rfl (by omega) ?_
      refine l_assign rfl rfl ?_
      refine l_nil ?_
      exact ⟨m - 1, [(11, .slice A g.length cg), (12, .int .i64 (x : Int)), (13, .int .i64 (y : Int)), (14, .int .i64 (z : Int)), (15, .slice (some al) gs.length cl), (16, .slice (some ⟨ib, 0, none⟩) g.length g.length), (17, .int .i64 ((i + 1 : Nat) : Int))], by omega, ⟨rfl, rfl, rfl, rfl, rfl, rfl, rfl, trivial⟩, i + 1, _, by omega, ho, rfl, h⟩
  refine c_exit ?_
  have hi : i = gs.length := by omega
  subst hi
  rw [List.take_length] at ho
  have hea := ho.whole (fun y hy => (hgs.1.all y).2 hy)
  subst hea
  clear ho hc him
  have hol := ofA_len g.length gs
  have egx := ofA_get (gs := gs) hx
  have egy := ofA_get (gs := gs) hy
  have hsame := ofF_same hgs.1 hx hy
  obtain ⟨p, hp⟩ : ∃ p, p = ofF gs x := ⟨_, rfl⟩
  obtain ⟨q, hq⟩ : ∃ q, q = ofF gs y := ⟨_, rfl⟩
  rw [← hp, ← hq] at hsame
  rw [← hp] at egx
  rw [← hq] at egy
  replace h := ((h.re [1]).drop.re [1])
  refine c_seq ?_
  refine c_region ?_
  refine l_move rfl rfl ?_
  refine l_move rfl rfl ?_
  refine l_move rfl rfl ?_
  refine l_call rfl Try.func20 rfl (by decide) rfl (reach_calls g _ (x : Int) (y : Int) hgl hgr h) ?_
  clear h
  rintro e w ⟨⟨xy, hxy, rfl⟩, h⟩
  refine ⟨_, rfl, ?_⟩
  refine l_move rfl rfl ?_
  refine l_move rfl rfl ?_
  refine l_move rfl rfl ?_
  refine l_call rfl Try.func20 rfl (by decide) rfl (reach_calls g _ (y : Int) (x : Int) hgl hgr h) ?_
  clear h
  rintro e w ⟨⟨yx, hyx, rfl⟩, h⟩
  refine ⟨_, rfl, ?_⟩
  rw [reachG_nat hx hy] at hxy
  rw [reachG_nat hy hx] at hyx
  refine l_assign rfl rfl ?_
  refine l_assign rfl rfl ?_
  refine l_nil ?_
  refine c_seq ?_
  refine c_seq ?_
  refine c_region ?_
  refine l_assign rfl rfl ?_
  refine l_nil ?_
  refine c_block ?_
  obtain ⟨to, hto⟩ : ∃ to, to = g[x] := ⟨_, rfl⟩
  have hin2 := hin _ (List.getElem_mem hx)
  rw [← hto] at hin2
  refine c_loop' (fun m env w => ∃ (t : Nat), t + m = to.length ∧ env = [(11, .slice A g.length cg), (12, .int .i64 (x : Int)), (13, .int .i64 (y : Int)), (14, .int .i64 (z : Int)), (16, .slice (some ⟨ib, 0, none⟩) g.length g.length), (19, .bool xy), (20, .bool yx), (21, .int .i64 (t : Int))] ∧ St w0 (pt rsII (.slice A g.length cg) g :: pt osN (.slice (some ⟨ib, 0, none⟩) g.length g.length) (ofA g.length gs) :: pt (rs k8) nv ns :: L) w) to.length [(11, .slice A g.length cg), (12, .int .i64 (x : Int)), (13, .int .i64 (y : Int)), (14, .int .i64 (z : Int)), (16, .slice (some ⟨ib, 0, none⟩) g.length g.length), (19, .bool xy), (20, .bool yx), (21, .int .i64 ((0 : Nat) : Int))] ⟨rfl, rfl, rfl, rfl, rfl, rfl, rfl, rfl, trivial⟩ ⟨0, by omega, rfl, h⟩ ?_
  clear h
  rintro m env w ⟨t, htm, rfl, h⟩
  obtain ⟨ag, At, ct, rfl, q3, ht1, ht2, htr, -⟩ := h.rsII_row hx
  rw [← hto] at q3 ht1
  have htb := bound63 ht1 ht2
  refine c_seq ?_
  refine c_seq ?_
  refine c_region ?_
  refine l_move rfl rfl ?_
  refine l_move rfl rfl ?_
  refine l_move rfl rfl ?_
  first | refine l_indexAddr1 rfl Try.underlying23 (by first | exact sz_23) rfl rfl (by omega) ?_ | refine l_indexAddrN rfl Try.underlying23 (by first | exact sz_23) rfl rfl (by omega) ?_ | refine l_indexAddr rfl Try.underlying23 (by first | exact sz_23) rfl rfl (by omega) (by omega) ?_
  refine l_load rfl plain26 rfl (by assumption) ?_
  first | refine l_len rfl Try.underlying26 rfl ?_ | refine l_len_string rfl Try.underlying26 rfl ?_
  first | refine l_lss rfl rfl rfl ?_ | refine l_slss rfl rfl rfl ?_
  refine l_nil ?_
  refine c_if _ rfl (fun hc => ?_) (fun hc => ?_)
  · refine c_skip ?_
    have ht : t < to.length := by omega
    obtain ⟨ar, rfl, htr2⟩ := htr (by rw [← hto]; omega)
    have q4 := (htr2 t (by rw [← hto]; exact ht)).1
    obtain ⟨v, hv⟩ : ∃ v, v = to[t] := ⟨_, rfl⟩
    have ev1 : g[x][t]'(by rw [← hto]; exact ht) = v := by rw [hv]; congr 1; exact hto.symm
    rw [ev1] at q4
    obtain ⟨hv0, hvn⟩ := hin2 v (by rw [hv]; exact List.getElem_mem ht)
    obtain ⟨u, rfl⟩ : ∃ u : Nat, v = (u : Int) := ⟨v.toNat, by omega⟩
    have hu : u < g.length := by omega
    refine c_seq ?_
    refine c_block ?_
    refine c_seq ?_
    refine c_region ?_
    refine l_move rfl rfl ?_
    refine l_move rfl rfl ?_
    refine l_move rfl rfl ?_
    refine l_move rfl rfl ?_
    first | refine l_indexAddr1 rfl Try.underlying23 (by first | exact sz_23) rfl rfl (by omega) ?_ | refine l_indexAddrN rfl Try.underlying23 (by first | exact sz_23) rfl rfl (by omega) ?_ | refine l_indexAddr rfl Try.underlying23 (by first | exact sz_23) rfl rfl (by omega) (by omega) ?_
    refine l_load rfl plain26 rfl (by assumption) ?_
    refine l_move rfl rfl ?_
    first | refine l_indexAddr1 rfl Try.underlying26 (by first | exact sz_26) rfl rfl (by omega) ?_ | refine l_indexAddrN rfl Try.underlying26 (by first | exact sz_26) rfl rfl (by omega) ?_ | refine l_indexAddr rfl Try.underlying26 (by first | exact sz_26) rfl rfl (by omega) (by omega) ?_
    refine l_load rfl plain3 rfl (by assumption) ?_
    clear q3 q4
    refine l_call rfl Try.func20 rfl (by decide) rfl (reach_calls g _ (x : Int) (u : Int) hgl hgr h) ?_
    clear h
    rintro e w ⟨⟨xu, hxu, rfl⟩, h⟩
    refine ⟨_, rfl, ?_⟩
    have : xu = true := by
      rw [hxu, reachG_nat hx hu]
      exact .edge ((nats_edge g x u).2 ⟨hx, hu, by rw [getD_get [] hx, ← hto, hv]; exact List.getElem_mem ht⟩)
    subst this
    refine l_not rfl rfl ?_
    refine l_nil ?_
    refine c_condF rfl ?_
    refine c_skip ?_
    refine c_region ?_
    refine l_move rfl rfl ?_
    first | refine l_addr rfl rfl rfl (by omega) (by omega) ?_ | refine l_sadd rfl rfl rfl (by omega) ?_
    refine l_assign rfl rfl ?_
    refine l_nil ?_
    exact ⟨m - 1, [(11, .slice (some ag) g.length cg), (12, .int .i64 (x : Int)), (13, .int .i64 (y : Int)), (14, .int .i64 (z : Int)), (16, .slice (some ⟨ib, 0, none⟩) g.length g.length), (19, .bool xy), (20, .bool yx), (21, .int .i64 ((t + 1 : Nat) : Int))], by omega, ⟨rfl, rfl, rfl, rfl, rfl, rfl, rfl, rfl, trivial⟩, t + 1, by omega, rfl, h⟩
  refine c_exit ?_
  clear q3 htr hc htm
  have call20 : ∀ {w} (r s : Int), St w0 (pt rsII (.slice (some ag) g.length cg) g :: pt osN (.slice (some ⟨ib, 0, none⟩) g.length g.length) (ofA g.length gs) :: pt (rs k8) nv ns :: L) w → Calls Try.prog 20 #[.slice (some ag) g.length cg, .int .i64 r, .int .i64 s] w fun e w' => (∃ v : Bool, (v = true ↔ ReachG g r s) ∧ e = .returned (.bool v)) ∧ St w0 (pt rsII (.slice (some ag) g.length cg) g :: pt osN (.slice (some ⟨ib, 0, none⟩) g.length g.length) (ofA g.length gs) :: pt (rs k8) nv ns :: L) w' := fun r s h => reach_calls g _ r s hgl hgr h
  have hpq : decide (p = q) = (xy && yx) := by
    rw [Bool.eq_iff_iff, Bool.and_eq_true, hxy, hyx, decide_eq_true_eq, hsame]
  refine c_seq ?_
  refine c_draw (by kernel_rfl) (fun w1 W => W = w1) (fun i => ([4, 5, 6, 7, 9, 10, 11, 12] : List Nat).contains i) [.p 0 [], .p 1 [], .p 2 [], .q 3 [8, 13, 14, 15, 16, 17, 18, 19, 20, 21, 22, 23, 24, 25, 26, 27, 28, 29, 30, 31, 32, 33, 34, 35, 36, 37, 38, 39, 40, 41, 42, 43, 44, 45, 46, 47, 48, 49, 50, 51, 52, 53, 54], .p 4 [], .p 5 [], .p 6 [], .q 7 [8, 13, 14, 15, 16, 17, 18, 19, 20, 21, 22, 23, 24, 25, 26, 27, 28, 29, 30, 31, 32, 33, 34, 35, 36, 37, 38, 39, 40, 41, 42, 43, 44, 45, 46, 47, 48, 49, 50, 51, 52, 53, 54], .p 8 [], .p 9 [], .p 10 [], .p 11 [], .p 12 [], .p 13 [], .p 14 [], .p 15 [], .p 16 [], .p 17 [], .p 18 [], .p 19 [], .p 20 [], .x 21, .p 22 [], .p 23 [], .p 24 [], .p 25 [], .p 26 [], .p 27 [], .x 28, .p 29 [], .p 30 [], .p 31 [], .p 32 [], .p 33 [], .p 34 [], .x 35, .p 36 [], .p 37 [], .p 38 [], .p 39 [], .p 40 [], .p 41 [], .x 42, .p 43 [], .p 44 [], .p 45 [], .p 46 [], .p 47 [], .x 48, .p 49 [], .p 50 [], .p 51 [], .x 52, .p 53 [], .p 54 []] (by kernel_rfl) rfl (by kernel_rfl) h ?_
  clear h; intro w h hw
  clear hw
  have q1 := ((h.re [1]).osN_at (i := x) (by omega)).1
  have q2 := ((h.re [1]).osN_at (i := y) (by omega)).1
  rw [egx] at q1
  rw [egy] at q2
  refine d_val rfl rfl (e_move rfl) ?_
  refine d_val rfl rfl (e_move rfl) ?_
  first | refine d_val rfl rfl (e_indexAddr1 Try.underlying26 (by first | exact sz_26) rfl rfl (by omega)) ?_ | refine d_val rfl rfl (e_indexAddrN Try.underlying26 (by first | exact sz_26) rfl rfl (by omega)) ?_ | refine d_val rfl rfl (e_indexAddr Try.underlying26 (by first | exact sz_26) rfl rfl (by omega) (by omega)) ?_
  refine d_load1 rfl rfl plain3 rfl (by assumption) ?_
  refine d_val rfl rfl (e_move rfl) ?_
  refine d_val rfl rfl (e_move rfl) ?_
  first | refine d_val rfl rfl (e_indexAddr1 Try.underlying26 (by first | exact sz_26) rfl rfl (by omega)) ?_ | refine d_val rfl rfl (e_indexAddrN Try.underlying26 (by first | exact sz_26) rfl rfl (by omega)) ?_ | refine d_val rfl rfl (e_indexAddr Try.underlying26 (by first | exact sz_26) rfl rfl (by omega) (by omega)) ?_
  refine d_load1 rfl rfl plain3 rfl (by assumption) ?_
  first | refine d_val rfl rfl (e_eql rfl rfl) ?_ | refine d_val rfl rfl (e_seql rfl rfl) ?_
  refine d_same 130 (.bool (xy && yx)) rfl (by rw [← hpq]; congr 1; rw [decide_eq_decide]; omega) ?_
  clear q1 q2
  cases xy with
  | false =>
    refine d_val rfl rfl (e_move rfl) ?_
    refine d_val rfl rfl (e_move rfl) ?_
    first | refine d_no rfl rfl rfl rfl rfl ?_ | refine d_noQ rfl rfl rfl rfl rfl rfl ?_ | refine d_yes rfl rfl rfl rfl (e_move rfl) ?_
    refine d_val rfl rfl (e_pick rfl rfl) ?_
    refine d_val rfl rfl (e_eqlB Try.underlying4 rfl rfl) ?_
    refine d_same 135 (.bool true) rfl (by simp) ?_
    refine d_val rfl rfl (e_move rfl) ?_
    first | refine d_no rfl rfl rfl rfl rfl ?_ | refine d_noQ rfl rfl rfl rfl rfl rfl ?_ | refine d_yes rfl rfl rfl rfl (e_move rfl) ?_
    first | refine d_no rfl rfl rfl rfl rfl ?_ | refine d_noQ rfl rfl rfl rfl rfl rfl ?_ | refine d_yes rfl rfl rfl rfl (e_not rfl) ?_
    first | refine d_no rfl rfl rfl rfl rfl ?_ | refine d_noQ rfl rfl rfl rfl rfl rfl ?_ | refine d_yes rfl rfl rfl rfl (e_move rfl) ?_
    first | refine d_no rfl rfl rfl rfl rfl ?_ | refine d_noQ rfl rfl rfl rfl rfl rfl ?_ | refine d_yes rfl rfl rfl rfl (e_move rfl) ?_
    first | refine d_no rfl rfl rfl rfl rfl ?_ | refine d_noQ rfl rfl rfl rfl rfl rfl ?_ | refine d_yes rfl rfl rfl rfl (e_move rfl) ?_
    first | refine d_no rfl rfl rfl rfl rfl ?_ | refine d_noQ rfl rfl rfl rfl rfl rfl ?_ | refine d_yes rfl rfl rfl rfl (e_move rfl) ?_
    refine d_stepN rfl rfl rfl rfl rfl ?_
    first | refine d_no rfl rfl rfl rfl rfl ?_ | refine d_noQ rfl rfl rfl rfl rfl rfl ?_ | refine d_yes rfl rfl rfl rfl (e_not rfl) ?_
    first | refine d_no rfl rfl rfl rfl rfl ?_ | refine d_noQ rfl rfl rfl rfl rfl rfl ?_ | refine d_yes rfl rfl rfl rfl (e_pick rfl rfl) ?_
    first | refine d_no rfl rfl rfl rfl rfl ?_ | refine d_noQ rfl rfl rfl rfl rfl rfl ?_ | refine d_yes rfl rfl rfl rfl (e_move rfl) ?_
    first | refine d_no rfl rfl rfl rfl rfl ?_ | refine d_noQ rfl rfl rfl rfl rfl rfl ?_ | refine d_yes rfl rfl rfl rfl (e_move rfl) ?_
    first | refine d_no rfl rfl rfl rfl rfl ?_ | refine d_noQ rfl rfl rfl rfl rfl rfl ?_ | refine d_yes rfl rfl rfl rfl (e_move rfl) ?_
    first | refine d_no rfl rfl rfl rfl rfl ?_ | refine d_noQ rfl rfl rfl rfl rfl rfl ?_ | refine d_yes rfl rfl rfl rfl (e_move rfl) ?_
    refine d_stepN rfl rfl rfl rfl rfl ?_
    first | refine d_no rfl rfl rfl rfl rfl ?_ | refine d_noQ rfl rfl rfl rfl rfl rfl ?_ | refine d_yes rfl rfl rfl rfl (e_pick rfl rfl) ?_
    refine d_val rfl rfl (e_pick rfl rfl) ?_
    refine d_val rfl rfl (e_move rfl) ?_
    first | refine d_no rfl rfl rfl rfl rfl ?_ | refine d_noQ rfl rfl rfl rfl rfl rfl ?_ | refine d_yes rfl rfl rfl rfl (e_move rfl) ?_
    first | refine d_no rfl rfl rfl rfl rfl ?_ | refine d_noQ rfl rfl rfl rfl rfl rfl ?_ | refine d_yes rfl rfl rfl rfl (e_move rfl) ?_
    first | refine d_no rfl rfl rfl rfl rfl ?_ | refine d_noQ rfl rfl rfl rfl rfl rfl ?_ | refine d_yes rfl rfl rfl rfl (e_move rfl) ?_
    refine d_stepY rfl rfl rfl ?_
    refine l_call rfl Try.func20 rfl (by decide) rfl (call20 (x : Int) (x : Int) h) ?_
    clear h
    rintro e w ⟨⟨xx, hxx, rfl⟩, h⟩
    have : xx = true := by rw [hxx, reachG_nat hx hx]; exact .refl x
    subst this
    refine ⟨_, rfl, l_nil ⟨fun hf => (nomatch hf), ?_⟩⟩
    refine d_val rfl rfl (e_pick rfl rfl) ?_
    refine d_val rfl rfl (e_move rfl) ?_
    first | refine d_no rfl rfl rfl rfl rfl ?_ | refine d_noQ rfl rfl rfl rfl rfl rfl ?_ | refine d_yes rfl rfl rfl rfl (e_move rfl) ?_
    first | refine d_no rfl rfl rfl rfl rfl ?_ | refine d_noQ rfl rfl rfl rfl rfl rfl ?_ | refine d_yes rfl rfl rfl rfl (e_move rfl) ?_
    first | refine d_no rfl rfl rfl rfl rfl ?_ | refine d_noQ rfl rfl rfl rfl rfl rfl ?_ | refine d_yes rfl rfl rfl rfl (e_move rfl) ?_
    first | refine d_no rfl rfl rfl rfl rfl ?_ | refine d_noQ rfl rfl rfl rfl rfl rfl ?_ | refine d_yes rfl rfl rfl rfl (e_len Try.underlying23 rfl) ?_ | refine d_yes rfl rfl rfl rfl (e_len_string Try.underlying23 rfl) ?_
    refine d_stepY rfl rfl rfl ?_
    refine l_call rfl Try.func20 rfl (by decide) rfl (call20 (x : Int) (g.length : Int) h) ?_
    clear h
    rintro e w ⟨⟨xn, hxn, rfl⟩, h⟩
    have : xn = false := by rw [Bool.eq_false_iff]; intro e; have := (hxn.1 e).2.2.2.1; omega
    subst this
    refine ⟨_, rfl, l_nil ⟨fun hf => (nomatch hf), ?_⟩⟩
    first | refine d_no rfl rfl rfl rfl rfl ?_ | refine d_noQ rfl rfl rfl rfl rfl rfl ?_ | refine d_yes rfl rfl rfl rfl (e_not rfl) ?_
    refine d_val rfl rfl (e_pick rfl rfl) ?_
    refine d_val rfl rfl (e_move rfl) ?_
    first | refine d_no rfl rfl rfl rfl rfl ?_ | refine d_noQ rfl rfl rfl rfl rfl rfl ?_ | refine d_yes rfl rfl rfl rfl (e_move rfl) ?_
    first | refine d_no rfl rfl rfl rfl rfl ?_ | refine d_noQ rfl rfl rfl rfl rfl rfl ?_ | refine d_yes rfl rfl rfl rfl (e_move rfl) ?_
    refine d_stepY rfl rfl rfl ?_
    refine l_call rfl Try.func20 rfl (by decide) rfl (call20 (-1) (x : Int) h) ?_
    clear h
    rintro e w ⟨⟨mx, hmx, rfl⟩, h⟩
    have : mx = false := by rw [Bool.eq_false_iff]; intro e; have := (hmx.1 e).1; omega
    subst this
    refine ⟨_, rfl, l_nil ⟨fun hf => (nomatch hf), ?_⟩⟩
    first | refine d_no rfl rfl rfl rfl rfl ?_ | refine d_noQ rfl rfl rfl rfl rfl rfl ?_ | refine d_yes rfl rfl rfl rfl (e_not rfl) ?_
    refine d_val rfl rfl (e_pick rfl rfl) ?_
    refine d_val rfl rfl (e_move rfl) ?_
    refine d_stepY rfl rfl rfl ?_
    refine l_call (args := []) rfl Try.func14 rfl (by decide) rfl (awake15_calls h) ?_
    clear h
    rintro e w ⟨rfl, h⟩
    refine ⟨_, rfl, l_nil ⟨fun hf => (nomatch hf), ?_⟩⟩
    refine d_val rfl rfl (e_pick rfl rfl) ?_
    refine d_val rfl rfl (e_assign rfl) ?_
    refine d_nil ?_
    exact c_ret ⟨.inr rfl, _, rfl, rfl, h.drop.drop⟩
  | true =>
    have hyx2 : (true && yx) = yx := by simp
    rw [hyx2]
    refine d_val rfl rfl (e_move rfl) ?_
    refine d_val rfl rfl (e_move rfl) ?_
    first | refine d_no rfl rfl rfl rfl rfl ?_ | refine d_noQ rfl rfl rfl rfl rfl rfl ?_ | refine d_yes rfl rfl rfl rfl (e_move rfl) ?_
    refine d_val rfl rfl (e_pick rfl rfl) ?_
    refine d_val rfl rfl (e_eqlB Try.underlying4 rfl rfl) ?_
    refine d_same 135 (.bool true) rfl (by simp) ?_
    refine d_val rfl rfl (e_move rfl) ?_
    first | refine d_no rfl rfl rfl rfl rfl ?_ | refine d_noQ rfl rfl rfl rfl rfl rfl ?_ | refine d_yes rfl rfl rfl rfl (e_move rfl) ?_
    first | refine d_no rfl rfl rfl rfl rfl ?_ | refine d_noQ rfl rfl rfl rfl rfl rfl ?_ | refine d_yes rfl rfl rfl rfl (e_not rfl) ?_
    first | refine d_no rfl rfl rfl rfl rfl ?_ | refine d_noQ rfl rfl rfl rfl rfl rfl ?_ | refine d_yes rfl rfl rfl rfl (e_move rfl) ?_
    first | refine d_no rfl rfl rfl rfl rfl ?_ | refine d_noQ rfl rfl rfl rfl rfl rfl ?_ | refine d_yes rfl rfl rfl rfl (e_move rfl) ?_
    first | refine d_no rfl rfl rfl rfl rfl ?_ | refine d_noQ rfl rfl rfl rfl rfl rfl ?_ | refine d_yes rfl rfl rfl rfl (e_move rfl) ?_
    first | refine d_no rfl rfl rfl rfl rfl ?_ | refine d_noQ rfl rfl rfl rfl rfl rfl ?_ | refine d_yes rfl rfl rfl rfl (e_move rfl) ?_
    refine d_stepY rfl rfl rfl ?_
    refine l_call rfl Try.func20 rfl (by decide) rfl (call20 (y : Int) (z : Int) h) ?_
    clear h
    rintro e w ⟨⟨yz, hyz, rfl⟩, h⟩
    rw [reachG_nat hy hz] at hyz
    refine ⟨_, rfl, l_nil ⟨fun hf => (nomatch hf), ?_⟩⟩
    cases yz with
    | false =>
      first | refine d_no rfl rfl rfl rfl rfl ?_ | refine d_noQ rfl rfl rfl rfl rfl rfl ?_ | refine d_yes rfl rfl rfl rfl (e_not rfl) ?_
      first | refine d_no rfl rfl rfl rfl rfl ?_ | refine d_noQ rfl rfl rfl rfl rfl rfl ?_ | refine d_yes rfl rfl rfl rfl (e_pick rfl rfl) ?_
      first | refine d_no rfl rfl rfl rfl rfl ?_ | refine d_noQ rfl rfl rfl rfl rfl rfl ?_ | refine d_yes rfl rfl rfl rfl (e_move rfl) ?_
      first | refine d_no rfl rfl rfl rfl rfl ?_ | refine d_noQ rfl rfl rfl rfl rfl rfl ?_ | refine d_yes rfl rfl rfl rfl (e_move rfl) ?_
      first | refine d_no rfl rfl rfl rfl rfl ?_ | refine d_noQ rfl rfl rfl rfl rfl rfl ?_ | refine d_yes rfl rfl rfl rfl (e_move rfl) ?_
      first | refine d_no rfl rfl rfl rfl rfl ?_ | refine d_noQ rfl rfl rfl rfl rfl rfl ?_ | refine d_yes rfl rfl rfl rfl (e_move rfl) ?_
      refine d_stepN rfl rfl rfl rfl rfl ?_
      first | refine d_no rfl rfl rfl rfl rfl ?_ | refine d_noQ rfl rfl rfl rfl rfl rfl ?_ | refine d_yes rfl rfl rfl rfl (e_pick rfl rfl) ?_
      refine d_val rfl rfl (e_pick rfl rfl) ?_
      refine d_val rfl rfl (e_move rfl) ?_
      first | refine d_no rfl rfl rfl rfl rfl ?_ | refine d_noQ rfl rfl rfl rfl rfl rfl ?_ | refine d_yes rfl rfl rfl rfl (e_move rfl) ?_
      first | refine d_no rfl rfl rfl rfl rfl ?_ | refine d_noQ rfl rfl rfl rfl rfl rfl ?_ | refine d_yes rfl rfl rfl rfl (e_move rfl) ?_
      first | refine d_no rfl rfl rfl rfl rfl ?_ | refine d_noQ rfl rfl rfl rfl rfl rfl ?_ | refine d_yes rfl rfl rfl rfl (e_move rfl) ?_
      refine d_stepY rfl rfl rfl ?_
      refine l_call rfl Try.func20 rfl (by decide) rfl (call20 (x : Int) (x : Int) h) ?_
      clear h
      rintro e w ⟨⟨xx, hxx, rfl⟩, h⟩
      have : xx = true := by rw [hxx, reachG_nat hx hx]; exact .refl x
      subst this
      refine ⟨_, rfl, l_nil ⟨fun hf => (nomatch hf), ?_⟩⟩
      refine d_val rfl rfl (e_pick rfl rfl) ?_
      refine d_val rfl rfl (e_move rfl) ?_
      first | refine d_no rfl rfl rfl rfl rfl ?_ | refine d_noQ rfl rfl rfl rfl rfl rfl ?_ | refine d_yes rfl rfl rfl rfl (e_move rfl) ?_
      first | refine d_no rfl rfl rfl rfl rfl ?_ | refine d_noQ rfl rfl rfl rfl rfl rfl ?_ | refine d_yes rfl rfl rfl rfl (e_move rfl) ?_
      first | refine d_no rfl rfl rfl rfl rfl ?_ | refine d_noQ rfl rfl rfl rfl rfl rfl ?_ | refine d_yes rfl rfl rfl rfl (e_move rfl) ?_
      first | refine d_no rfl rfl rfl rfl rfl ?_ | refine d_noQ rfl rfl rfl rfl rfl rfl ?_ | refine d_yes rfl rfl rfl rfl (e_len Try.underlying23 rfl) ?_ | refine d_yes rfl rfl rfl rfl (e_len_string Try.underlying23 rfl) ?_
      refine d_stepY rfl rfl rfl ?_
      refine l_call rfl Try.func20 rfl (by decide) rfl (call20 (x : Int) (g.length : Int) h) ?_
      clear h
      rintro e w ⟨⟨xn, hxn, rfl⟩, h⟩
      have : xn = false := by rw [Bool.eq_false_iff]; intro e; have := (hxn.1 e).2.2.2.1; omega
      subst this
      refine ⟨_, rfl, l_nil ⟨fun hf => (nomatch hf), ?_⟩⟩
      first | refine d_no rfl rfl rfl rfl rfl ?_ | refine d_noQ rfl rfl rfl rfl rfl rfl ?_ | refine d_yes rfl rfl rfl rfl (e_not rfl) ?_
      refine d_val rfl rfl (e_pick rfl rfl) ?_
      refine d_val rfl rfl (e_move rfl) ?_
      first | refine d_no rfl rfl rfl rfl rfl ?_ | refine d_noQ rfl rfl rfl rfl rfl rfl ?_ | refine d_yes rfl rfl rfl rfl (e_move rfl) ?_
      first | refine d_no rfl rfl rfl rfl rfl ?_ | refine d_noQ rfl rfl rfl rfl rfl rfl ?_ | refine d_yes rfl rfl rfl rfl (e_move rfl) ?_
      refine d_stepY rfl rfl rfl ?_
      refine l_call rfl Try.func20 rfl (by decide) rfl (call20 (-1) (x : Int) h) ?_
      clear h
      rintro e w ⟨⟨mx, hmx, rfl⟩, h⟩
      have : mx = false := by rw [Bool.eq_false_iff]; intro e; have := (hmx.1 e).1; omega
      subst this
      refine ⟨_, rfl, l_nil ⟨fun hf => (nomatch hf), ?_⟩⟩
      first | refine d_no rfl rfl rfl rfl rfl ?_ | refine d_noQ rfl rfl rfl rfl rfl rfl ?_ | refine d_yes rfl rfl rfl rfl (e_not rfl) ?_
      refine d_val rfl rfl (e_pick rfl rfl) ?_
      refine d_val rfl rfl (e_move rfl) ?_
      refine d_stepY rfl rfl rfl ?_
      refine l_call (args := []) rfl Try.func14 rfl (by decide) rfl (awake15_calls h) ?_
      clear h
      rintro e w ⟨rfl, h⟩
      refine ⟨_, rfl, l_nil ⟨fun hf => (nomatch hf), ?_⟩⟩
      refine d_val rfl rfl (e_pick rfl rfl) ?_
      refine d_val rfl rfl (e_assign rfl) ?_
      refine d_nil ?_
      exact c_ret ⟨.inr rfl, _, rfl, rfl, h.drop.drop⟩
    | true =>
      first | refine d_no rfl rfl rfl rfl rfl ?_ | refine d_noQ rfl rfl rfl rfl rfl rfl ?_ | refine d_yes rfl rfl rfl rfl (e_not rfl) ?_
      first | refine d_no rfl rfl rfl rfl rfl ?_ | refine d_noQ rfl rfl rfl rfl rfl rfl ?_ | refine d_yes rfl rfl rfl rfl (e_pick rfl rfl) ?_
      first | refine d_no rfl rfl rfl rfl rfl ?_ | refine d_noQ rfl rfl rfl rfl rfl rfl ?_ | refine d_yes rfl rfl rfl rfl (e_move rfl) ?_
      first | refine d_no rfl rfl rfl rfl rfl ?_ | refine d_noQ rfl rfl rfl rfl rfl rfl ?_ | refine d_yes rfl rfl rfl rfl (e_move rfl) ?_
      first | refine d_no rfl rfl rfl rfl rfl ?_ | refine d_noQ rfl rfl rfl rfl rfl rfl ?_ | refine d_yes rfl rfl rfl rfl (e_move rfl) ?_
      first | refine d_no rfl rfl rfl rfl rfl ?_ | refine d_noQ rfl rfl rfl rfl rfl rfl ?_ | refine d_yes rfl rfl rfl rfl (e_move rfl) ?_
      refine d_stepY rfl rfl rfl ?_
      refine l_call rfl Try.func20 rfl (by decide) rfl (call20 (x : Int) (z : Int) h) ?_
      clear h
      rintro e w ⟨⟨xz, hxz, rfl⟩, h⟩
      have : xz = true := by rw [hxz, reachG_nat hx hz]; exact (hxy.1 rfl).trans (hyz.1 rfl)
      subst this
      refine ⟨_, rfl, l_nil ⟨fun hf => (nomatch hf), ?_⟩⟩
      first | refine d_no rfl rfl rfl rfl rfl ?_ | refine d_noQ rfl rfl rfl rfl rfl rfl ?_ | refine d_yes rfl rfl rfl rfl (e_pick rfl rfl) ?_
      refine d_val rfl rfl (e_pick rfl rfl) ?_
      refine d_val rfl rfl (e_move rfl) ?_
      first | refine d_no rfl rfl rfl rfl rfl ?_ | refine d_noQ rfl rfl rfl rfl rfl rfl ?_ | refine d_yes rfl rfl rfl rfl (e_move rfl) ?_
      first | refine d_no rfl rfl rfl rfl rfl ?_ | refine d_noQ rfl rfl rfl rfl rfl rfl ?_ | refine d_yes rfl rfl rfl rfl (e_move rfl) ?_
      first | refine d_no rfl rfl rfl rfl rfl ?_ | refine d_noQ rfl rfl rfl rfl rfl rfl ?_ | refine d_yes rfl rfl rfl rfl (e_move rfl) ?_
      refine d_stepY rfl rfl rfl ?_
      refine l_call rfl Try.func20 rfl (by decide) rfl (call20 (x : Int) (x : Int) h) ?_
      clear h
      rintro e w ⟨⟨xx, hxx, rfl⟩, h⟩
      have : xx = true := by rw [hxx, reachG_nat hx hx]; exact .refl x
      subst this
      refine ⟨_, rfl, l_nil ⟨fun hf => (nomatch hf), ?_⟩⟩
      refine d_val rfl rfl (e_pick rfl rfl) ?_
      refine d_val rfl rfl (e_move rfl) ?_
      first | refine d_no rfl rfl rfl rfl rfl ?_ | refine d_noQ rfl rfl rfl rfl rfl rfl ?_ | refine d_yes rfl rfl rfl rfl (e_move rfl) ?_
      first | refine d_no rfl rfl rfl rfl rfl ?_ | refine d_noQ rfl rfl rfl rfl rfl rfl ?_ | refine d_yes rfl rfl rfl rfl (e_move rfl) ?_
      first | refine d_no rfl rfl rfl rfl rfl ?_ | refine d_noQ rfl rfl rfl rfl rfl rfl ?_ | refine d_yes rfl rfl rfl rfl (e_move rfl) ?_
      first | refine d_no rfl rfl rfl rfl rfl ?_ | refine d_noQ rfl rfl rfl rfl rfl rfl ?_ | refine d_yes rfl rfl rfl rfl (e_len Try.underlying23 rfl) ?_ | refine d_yes rfl rfl rfl rfl (e_len_string Try.underlying23 rfl) ?_
      refine d_stepY rfl rfl rfl ?_
      refine l_call rfl Try.func20 rfl (by decide) rfl (call20 (x : Int) (g.length : Int) h) ?_
      clear h
      rintro e w ⟨⟨xn, hxn, rfl⟩, h⟩
      have : xn = false := by rw [Bool.eq_false_iff]; intro e; have := (hxn.1 e).2.2.2.1; omega
      subst this
      refine ⟨_, rfl, l_nil ⟨fun hf => (nomatch hf), ?_⟩⟩
      first | refine d_no rfl rfl rfl rfl rfl ?_ | refine d_noQ rfl rfl rfl rfl rfl rfl ?_ | refine d_yes rfl rfl rfl rfl (e_not rfl) ?_
      refine d_val rfl rfl (e_pick rfl rfl) ?_
      refine d_val rfl rfl (e_move rfl) ?_
      first | refine d_no rfl rfl rfl rfl rfl ?_ | refine d_noQ rfl rfl rfl rfl rfl rfl ?_ | refine d_yes rfl rfl rfl rfl (e_move rfl) ?_
      first | refine d_no rfl rfl rfl rfl rfl ?_ | refine d_noQ rfl rfl rfl rfl rfl rfl ?_ | refine d_yes rfl rfl rfl rfl (e_move rfl) ?_
      refine d_stepY rfl rfl rfl ?_
      refine l_call rfl Try.func20 rfl (by decide) rfl (call20 (-1) (x : Int) h) ?_
      clear h
      rintro e w ⟨⟨mx, hmx, rfl⟩, h⟩
      have : mx = false := by rw [Bool.eq_false_iff]; intro e; have := (hmx.1 e).1; omega
      subst this
      refine ⟨_, rfl, l_nil ⟨fun hf => (nomatch hf), ?_⟩⟩
      first | refine d_no rfl rfl rfl rfl rfl ?_ | refine d_noQ rfl rfl rfl rfl rfl rfl ?_ | refine d_yes rfl rfl rfl rfl (e_not rfl) ?_
      refine d_val rfl rfl (e_pick rfl rfl) ?_
      refine d_val rfl rfl (e_move rfl) ?_
      refine d_stepY rfl rfl rfl ?_
      refine l_call (args := []) rfl Try.func14 rfl (by decide) rfl (awake15_calls h) ?_
      clear h
      rintro e w ⟨rfl, h⟩
      refine ⟨_, rfl, l_nil ⟨fun hf => (nomatch hf), ?_⟩⟩
      refine d_val rfl rfl (e_pick rfl rfl) ?_
      refine d_val rfl rfl (e_assign rfl) ?_
      refine d_nil ?_
      exact c_ret ⟨.inr rfl, _, rfl, rfl, h.drop.drop⟩
end Go.Proofs.Ythamopcfpmkbfaa
