/- The law WaveAhead, walked. No condition. -/
import Derived.Test.YthamopcfpmkbfaaLD
set_option linter.unusedVariables false
set_option linter.unusedSimpArgs false
namespace Go.Proofs.Ythamopcfpmkbfaa
open Go.Proofs.Fw
variable {w0 w : World} {L : List Res}
/-- Whether a group right below has been met. -/
structure BlInv (gs : List (List Nat)) (Lv : Nat → Nat) (i : Nat) (P : Nat → Nat → Prop) (bl : Bool) : Prop where
  zero : Lv i = 0 → bl = true
  met : ∀ x y, P x y → ofF gs y ≠ i → Lv i = Lv (ofF gs y) + 1 → bl = true
theorem BlInv.congr {gs : List (List Nat)} {Lv : Nat → Nat} {i : Nat} {P Q : Nat → Nat → Prop} {bl : Bool} (h : BlInv gs Lv i P bl) (e : ∀ x y, Q x y → P x y) : BlInv gs Lv i Q bl := ⟨h.zero, fun x y hq => h.met x y (e x y hq)⟩
theorem BlInv.skip {gs : List (List Nat)} {Lv : Nat → Nat} {i : Nat} {P : Nat → Nat → Prop} {bl : Bool} (h : BlInv gs Lv i P bl) {x0 y0 : Nat} (he : ofF gs y0 = i) : BlInv gs Lv i (fun x y => P x y ∨ (x = x0 ∧ y = y0)) bl :=
  ⟨h.zero, fun x y hp hne e => by
    rcases hp with hp | ⟨rfl, rfl⟩
    · exact h.met x y hp hne e
    · exact absurd he hne⟩
theorem BlInv.add {gs : List (List Nat)} {Lv : Nat → Nat} {i : Nat} {P : Nat → Nat → Prop} {bl : Bool} (h : BlInv gs Lv i P bl) {x0 y0 : Nat} {bl' : Bool} (hb : bl' = (bl || decide (Lv i = Lv (ofF gs y0) + 1))) : BlInv gs Lv i (fun x y => P x y ∨ (x = x0 ∧ y = y0)) bl' := by
  subst hb
  refine ⟨fun e => by rw [h.zero e]; rfl, fun x y hp hne e => ?_⟩
  rcases hp with hp | ⟨rfl, rfl⟩
  · rw [h.met x y hp hne e]; rfl
  · simp [e]
theorem BlInv.whole {g : List (List Int)} {gs : List (List Nat)} {Lv : Nat → Nat} {i : Nat} {P : Nat → Nat → Prop} {bl : Bool} (h : BlInv gs Lv i P bl) (hL : LvG g gs Lv) (hall : ∀ x y, EdgG g x y → ofF gs x = i → P x y) : bl = true := by
  rcases (hL i).2 with h1 | ⟨j, ⟨hne, x, y, hxy, hx, hy⟩, h1⟩
  · exact h.zero h1
  · exact h.met x y (hall x y hxy hx) (by rw [hy]; exact Ne.symm hne) (by rw [hy]; exact h1)
set_option maxRecDepth 4000 in
theorem waveahead_calls {ns : List Nat} {nv : Value} {n : Nat} (hn : n ≤ 255) (h : St w0 (pt (rs k8) nv ns :: L) w) :
    Calls Try.prog 8 #[nv, .int .u8 (n : Int)] w fun e w' => e = .returned (.bool true) ∧ St w0 (pt (rs k8) nv ns :: L) w' := by
  refine f_one Try.func8 rfl Try.results8 Try.ntmps8 rfl ?_
  refine c_seq ?_
  refine c_region ?_
  refine l_assign rfl rfl ?_
  refine l_nil ?_
  refine c_seq ?_
  refine c_region ?_
  refine l_move rfl rfl ?_
  refine l_move rfl rfl ?_
  refine l_call rfl Try.func13 rfl (by decide) rfl (make_calls hn h) ?_
  clear h
  rintro e w ⟨g0, gv, hgl0, hg0, rfl, h⟩
  refine ⟨_, rfl, ?_⟩
  replace h := osNN_rs h
  obtain ⟨g, hge⟩ : ∃ g, g = intss g0 := ⟨_, rfl⟩
  have hgl : g.length ≤ 100000 := by rw [hge, intss_len]; omega
  have hgr : ∀ r ∈ g, r.length ≤ 100000 := by
    rw [hge]
    exact intss_rows fun r hr => by have := (hg0 r hr).1; omega
  have hin : ∀ r ∈ g, ∀ b ∈ r, 0 ≤ b ∧ b < (g.length : Int) := by
    rw [hge, intss_len, hgl0]
    intro r hr b hb
    obtain ⟨r', hr', rfl⟩ := List.mem_map.1 hr
    obtain ⟨y, hy, rfl⟩ := List.mem_map.1 hb
    have := (hg0 r' hr').2 y hy
    omega
  rw [← hge] at h
  clear hg0 hgl0 hge
  obtain ⟨gs, hgs⟩ := grp_exists g hgl
  obtain ⟨Lv, hLv⟩ := lvG_exists hgs
  have hgsl := hgs.len
  have hLb := fun i => lvG_le hgs.1 hLv i
  obtain ⟨A, c, rfl, -, -⟩ := h.rs_form
  refine l_assign rfl rfl ?_
  refine l_nil ?_
  refine c_seq ?_
  refine c_region ?_
  refine l_move rfl rfl ?_
  refine l_call rfl Try.func19 rfl (by decide) rfl (groups15_calls hgs _ hgl hgr h) ?_
  clear h
  rintro e w ⟨lv, rfl, h⟩
  refine ⟨_, rfl, ?_⟩
  replace h : St w0 (pt (rs (rs kN)) lv gs :: pt rsII (.slice A g.length c) g :: pt (rs k8) nv ns :: L) w := h.frz (os_frz (os_frz kN_pers.frz rfl) rfl)
  obtain ⟨Al, cl, rfl, hl1, hl2⟩ := h.rs_form
  refine l_assign rfl rfl ?_
  refine l_nil ?_
  refine c_seq ?_
  refine c_region ?_
  refine l_move rfl rfl ?_
  refine l_call rfl Try.func22 rfl (by decide) rfl (levels_calls hgs hLv _ hgl hgr (h.re [1])) ?_
  clear h
  rintro e w ⟨vv, rfl, h⟩
  refine ⟨_, rfl, ?_⟩
  obtain ⟨ls, hls⟩ : ∃ ls, ls = (List.range gs.length).map Lv := ⟨_, rfl⟩
  have hll : ls.length = gs.length := by rw [hls]; simp
  have hlat : ∀ i (hi : i < ls.length), ls[i] = Lv i := fun i hi => by subst hls; simp
  rw [← hls] at h
  clear hls
  replace h : St w0 (pt (rs kN) vv ls :: pt rsII (.slice A g.length c) g :: pt (rs (rs kN)) (.slice Al gs.length cl) gs :: pt (rs k8) nv ns :: L) w := h.frz (os_frz kN_pers.frz rfl)
  obtain ⟨Av, cv, rfl, hv1, hv2⟩ := h.rs_form' hll
  refine l_assign rfl rfl ?_
  refine l_nil ?_
  refine c_seq ?_
  refine c_seq ?_
  refine c_region ?_
  refine l_move rfl rfl ?_
  first | refine l_len rfl Try.underlying26 rfl ?_ | refine l_len_string rfl Try.underlying26 rfl ?_
  refine l_move rfl rfl ?_
  first | refine l_len rfl Try.underlying23 rfl ?_ | refine l_len_string rfl Try.underlying23 rfl ?_
  first | refine l_neq rfl rfl rfl ?_ | refine l_sneq rfl rfl rfl ?_
  refine l_set 27 (.bool false) rfl (by simp) ?_
  refine l_nil ?_
  refine c_condF rfl ?_
  refine c_skip ?_
  refine c_seq ?_
  refine c_region ?_
  refine l_move rfl rfl ?_
  first | refine l_len rfl Try.underlying23 rfl ?_ | refine l_len_string rfl Try.underlying23 rfl ?_
  refine l_makeS (Kx := kN) (zx := 0) rfl Try.underlying26 info3 rfl ⟨rfl, Nat.zero_le _⟩ rfl rfl (by omega) (by unfold maxLen; omega) h ?_
  clear h; intro ib w h
  refine l_assign rfl rfl ?_
  refine l_nil ?_
  refine c_seq ?_
  refine c_seq ?_
  refine c_region ?_
  refine l_assign rfl rfl ?_
  refine l_nil ?_
  refine c_block ?_
  refine c_loop' (fun m env w => ∃ (i : Nat) (arr : List Nat), i + m = gs.length ∧ OfTo g.length gs (gs.take i).flatten arr ∧ env = [(5, .slice A g.length c), (6, .slice Al gs.length cl), (7, .slice Av gs.length cv), (8, .slice (some ⟨ib, 0, none⟩) g.length g.length), (9, .int .i64 (i : Int))] ∧ St w0 (pt osN (.slice (some ⟨ib, 0, none⟩) g.length g.length) arr :: pt (rs kN) (.slice Av gs.length cv) ls :: pt rsII (.slice A g.length c) g :: pt (rs (rs kN)) (.slice Al gs.length cl) gs :: pt (rs k8) nv ns :: L) w) gs.length [(5, .slice A g.length c), (6, .slice Al gs.length cl), (7, .slice Av gs.length cv), (8, .slice (some ⟨ib, 0, none⟩) g.length g.length), (9, .int .i64 ((0 : Nat) : Int))] ⟨rfl, rfl, rfl, rfl, rfl, trivial⟩ ⟨0, _, by omega, by simpa using OfTo.begin g.length gs, rfl, h⟩ ?_
  clear h
  rintro m env w ⟨i, arr, him, ho, rfl, h⟩
  refine c_seq ?_
  refine c_seq ?_
  refine c_region ?_
  refine l_move rfl rfl ?_
  refine l_move rfl rfl ?_
  first | refine l_len rfl Try.underlying23 rfl ?_ | refine l_len_string rfl Try.underlying23 rfl ?_
  first | refine l_lss rfl rfl rfl ?_ | refine l_slss rfl rfl rfl ?_
  refine l_nil ?_
  refine c_if _ rfl (fun hc => ?_) (fun hc => ?_)
  · refine c_skip ?_
    have hi : i < gs.length := by omega
    refine c_seq ?_
    refine c_block ?_
    refine c_seq ?_
    refine c_region ?_
    refine l_assign rfl rfl ?_
    refine l_nil ?_
    refine c_block ?_
    refine c_loop' (fun m2 env w => ∃ (j : Nat) (arr : List Nat), j + m2 = gs[i].length ∧ OfTo g.length gs ((gs.take i).flatten ++ gs[i].take j) arr ∧ env = [(5, .slice A g.length c), (6, .slice Al gs.length cl), (7, .slice Av gs.length cv), (8, .slice (some ⟨ib, 0, none⟩) g.length g.length), (9, .int .i64 (i : Int)), (10, .int .i64 (j : Int))] ∧ St w0 (pt osN (.slice (some ⟨ib, 0, none⟩) g.length g.length) arr :: pt (rs kN) (.slice Av gs.length cv) ls :: pt rsII (.slice A g.length c) g :: pt (rs (rs kN)) (.slice Al gs.length cl) gs :: pt (rs k8) nv ns :: L) w) gs[i].length [(5, .slice A g.length c), (6, .slice Al gs.length cl), (7, .slice Av gs.length cv), (8, .slice (some ⟨ib, 0, none⟩) g.length g.length), (9, .int .i64 (i : Int)), (10, .int .i64 ((0 : Nat) : Int))] ⟨rfl, rfl, rfl, rfl, rfl, rfl, trivial⟩ ⟨0, _, by omega, by simpa using ho, rfl, h⟩ ?_
    clear h ho
    rintro m2 env w ⟨j, arr, hjm, ho, rfl, h⟩
    obtain ⟨al, Ar, cr, rfl, q, hr1, hr2, hrow, -⟩ := (h.re [3]).rsNN_row hi
    have hrb := bound63 hr1 hr2
    refine c_seq ?_
    refine c_seq ?_
    refine c_region ?_
    refine l_move rfl rfl ?_
    refine l_move rfl rfl ?_
    refine l_move rfl rfl ?_
    first | refine l_indexAddr1 rfl Try.underlying23 (by first | exact sz_23) rfl rfl (by omega) ?_ | refine l_indexAddrN rfl Try.underlying23 (by first | exact sz_23) rfl rfl (by omega) ?_ | refine l_indexAddr rfl Try.underlying23 (by first | exact sz_23) rfl rfl (by omega) (by omega) ?_
    refine l_load rfl plain26 rfl (by assumption) ?_
    first | refine l_len rfl Try.underlying26 rfl ?_ | refine l_len_string rfl Try.underlying26 rfl ?_
    first | refine l_lss rfl rfl rfl ?_ | refine l_slss rfl rfl rfl ?_
    refine l_nil ?_
    refine c_if _ rfl (fun hc2 => ?_) (fun hc2 => ?_)
    · refine c_skip ?_
      have hj : j < gs[i].length := by omega
      have hxm : gs[i][j] ∈ gs[i] := List.getElem_mem hj
      have hxn := hgs.row hi hxm
      have hal : arr.length = g.length := ho.len
      obtain ⟨ar, rfl, hra⟩ := hrow (by omega)
      have q2 := (hra j hj).1
      refine c_seq ?_
      refine c_block ?_
      refine c_region ?_
      refine l_move rfl rfl ?_
      refine l_move rfl rfl ?_
      refine l_move rfl rfl ?_
      first | refine l_indexAddr1 rfl Try.underlying23 (by first | exact sz_23) rfl rfl (by omega) ?_ | refine l_indexAddrN rfl Try.underlying23 (by first | exact sz_23) rfl rfl (by omega) ?_ | refine l_indexAddr rfl Try.underlying23 (by first | exact sz_23) rfl rfl (by omega) (by omega) ?_
      refine l_load rfl plain26 rfl (by assumption) ?_
      refine l_move rfl rfl ?_
      first | refine l_indexAddr1 rfl Try.underlying26 (by first | exact sz_26) rfl rfl (by omega) ?_ | refine l_indexAddrN rfl Try.underlying26 (by first | exact sz_26) rfl rfl (by omega) ?_ | refine l_indexAddr rfl Try.underlying26 (by first | exact sz_26) rfl rfl (by omega) (by omega) ?_
      refine l_load rfl plain3 rfl (by assumption) ?_
      refine l_move rfl rfl ?_
      first | refine l_indexAddr1 rfl Try.underlying26 (by first | exact sz_26) rfl rfl (by omega) ?_ | refine l_indexAddrN rfl Try.underlying26 (by first | exact sz_26) rfl rfl (by omega) ?_ | refine l_indexAddr rfl Try.underlying26 (by first | exact sz_26) rfl rfl (by omega) (by omega) ?_
      refine l_storeE plain3 rfl rfl rfl rfl (by omega) ((h.addNat i (by omega)).re [1, 0]) ?_
      clear h q q2; intro w h
      refine l_nil ?_
      refine c_region ?_
      refine l_move rfl rfl ?_
      first | refine l_addr rfl rfl rfl (by omega) (by omega) ?_ | refine l_sadd rfl rfl rfl (by omega) ?_
      refine l_assign rfl rfl ?_
      refine l_nil ?_
      refine ⟨m2 - 1, [(5, .slice A g.length c), (6, .slice (some al) gs.length cl), (7, .slice Av gs.length cv), (8, .slice (some ⟨ib, 0, none⟩) g.length g.length), (9, .int .i64 (i : Int)), (10, .int .i64 ((j + 1 : Nat) : Int))], by omega, ⟨rfl, rfl, rfl, rfl, rfl, rfl, trivial⟩, j + 1, _, by omega, ?_, rfl, h⟩
      rw [List.take_succ_eq_append_getElem hj, ← List.append_assoc]
      exact ho.snoc hgs.1.nd hi hxm hxn
    · refine c_exit ?_
      have hj : j = gs[i].length := by omega
      subst hj
      rw [List.take_length, ← take_flat hi] at ho
      refine c_region ?_
      refine l_move rfl rfl ?_
      first | refine l_addr rfl rfl rfl (by omega) (by omega) ?_ | refine l_sadd rfl rfl rfl (by omega) ?_
      refine l_assign rfl rfl ?_
      refine l_nil ?_
      exact ⟨m - 1, [(5, .slice A g.length c), (6, .slice (some al) gs.length cl), (7, .slice Av gs.length cv), (8, .slice (some ⟨ib, 0, none⟩) g.length g.length), (9, .int .i64 ((i + 1 : Nat) : Int))], by omega, ⟨rfl, rfl, rfl, rfl, rfl, trivial⟩, i + 1, _, by omega, ho, rfl, h⟩
  refine c_exit ?_
  have hi : i = gs.length := by omega
  subst hi
  rw [List.take_length] at ho
  have ha := ho.whole (fun y hy => (hgs.1.all y).2 hy)
  subst ha
  clear ho hc him
  have hol := ofA_len g.length gs
  refine c_seq ?_
  refine c_seq ?_
  refine c_region ?_
  refine l_assign rfl rfl ?_
  refine l_nil ?_
  refine c_block ?_
  refine c_loop' (fun m env w => ∃ (i : Nat), i + m = gs.length ∧ env = [(5, .slice A g.length c), (6, .slice Al gs.length cl), (7, .slice Av gs.length cv), (8, .slice (some ⟨ib, 0, none⟩) g.length g.length), (11, .int .i64 (i : Int))] ∧ St w0 (pt osN (.slice (some ⟨ib, 0, none⟩) g.length g.length) (ofA g.length gs) :: pt (rs kN) (.slice Av gs.length cv) ls :: pt rsII (.slice A g.length c) g :: pt (rs (rs kN)) (.slice Al gs.length cl) gs :: pt (rs k8) nv ns :: L) w) gs.length [(5, .slice A g.length c), (6, .slice Al gs.length cl), (7, .slice Av gs.length cv), (8, .slice (some ⟨ib, 0, none⟩) g.length g.length), (11, .int .i64 ((0 : Nat) : Int))] ⟨rfl, rfl, rfl, rfl, rfl, trivial⟩ ⟨0, by omega, rfl, h⟩ ?_
  clear h
  rintro m env w ⟨i, him, rfl, h⟩
  refine c_seq ?_
  refine c_seq ?_
  refine c_region ?_
  refine l_move rfl rfl ?_
  refine l_move rfl rfl ?_
  first | refine l_len rfl Try.underlying23 rfl ?_ | refine l_len_string rfl Try.underlying23 rfl ?_
  first | refine l_lss rfl rfl rfl ?_ | refine l_slss rfl rfl rfl ?_
  refine l_nil ?_
  refine c_if _ rfl (fun hc => ?_) (fun hc => ?_)
  rotate_left
  · refine c_exit ?_
    refine c_seq ?_
    refine c_region ?_
    refine l_call (args := []) rfl Try.func23 rfl (by decide) rfl (awake16_calls h) ?_
    clear h
    rintro e w ⟨rfl, h⟩
    refine ⟨_, rfl, ?_⟩
    refine l_assign rfl rfl ?_
    refine l_nil ?_
    exact c_ret ⟨.inr rfl, _, rfl, rfl, h.drop.drop.drop.drop⟩
  refine c_skip ?_
  have hi : i < gs.length := by omega
  obtain ⟨al, Ar, cr, rfl, -, hr1, hr2, hrow, -⟩ := (h.re [3]).rsNN_row hi
  clear hrow
  obtain ⟨av, rfl⟩ := (h.re [1]).rsN_ad rfl (i := i) (by omega)
  have hrb := bound63 hr1 hr2
  obtain ⟨row, hre⟩ : ∃ row, row = gs[i] := ⟨_, rfl⟩
  have hrlt : ∀ x ∈ row, x < g.length := fun x hx => by rw [hre] at hx; exact hgs.row hi hx
  have rowOk : ∀ {w}, St w0 (pt osN (.slice (some ⟨ib, 0, none⟩) g.length g.length) (ofA g.length gs) :: pt (rs kN) (.slice (some av) gs.length cv) ls :: pt rsII (.slice A g.length c) g :: pt (rs (rs kN)) (.slice (some al) gs.length cl) gs :: pt (rs k8) nv ns :: L) w → ∃ Ar cr, w.cell? (al.add i) = some (.slice Ar row.length cr) ∧ ∀ k (hk : k < row.length), ∃ ar, Ar = some ar ∧ w.cell? (ar.add k) = some (.int .i64 (row[k] : Int)) := fun {w} h => by
    obtain ⟨al', Ar, cr, hA, q, -, -, hrow, -⟩ := (h.re [3]).rsNN_row hi
    cases hA
    rw [← hre] at q hrow
    refine ⟨Ar, cr, q, fun k hk => ?_⟩
    obtain ⟨ar, k1, k2⟩ := hrow (by omega)
    exact ⟨ar, k1, (k2 k hk).1⟩
  rw [← hre] at hr1 hrb
  have qL := ((h.re [1]).rsN_at (i := i) (by omega)).1
  rw [hlat] at qL
  refine c_seq ?_
  refine c_block ?_
  refine c_seq ?_
  refine c_region ?_
  refine l_move rfl rfl ?_
  refine l_move rfl rfl ?_
  first | refine l_indexAddr1 rfl Try.underlying26 (by first | exact sz_26) rfl rfl (by omega) ?_ | refine l_indexAddrN rfl Try.underlying26 (by first | exact sz_26) rfl rfl (by omega) ?_ | refine l_indexAddr rfl Try.underlying26 (by first | exact sz_26) rfl rfl (by omega) (by omega) ?_
  refine l_load rfl plain3 rfl (by assumption) ?_
  first | refine l_eql rfl rfl rfl ?_ | refine l_seql rfl rfl rfl ?_
  refine l_set 66 (.bool (decide (Lv i = 0))) rfl (by congr 1; simp) ?_
  refine l_assign rfl rfl ?_
  refine l_nil ?_
  clear qL
  refine c_seq ?_
  refine c_seq ?_
  refine c_region ?_
  refine l_assign rfl rfl ?_
  refine l_nil ?_
  refine c_block ?_
  refine c_loop' (fun m3 env w => ∃ (k : Nat) (bl : Bool), k + m3 = row.length ∧ BlInv gs Lv i (GUp g row k 0 0) bl ∧ env = [(5, .slice A g.length c), (6, .slice (some al) gs.length cl), (7, .slice (some av) gs.length cv), (8, .slice (some ⟨ib, 0, none⟩) g.length g.length), (11, .int .i64 (i : Int)), (12, .bool bl), (13, .int .i64 (k : Int))] ∧ St w0 (pt osN (.slice (some ⟨ib, 0, none⟩) g.length g.length) (ofA g.length gs) :: pt (rs kN) (.slice (some av) gs.length cv) ls :: pt rsII (.slice A g.length c) g :: pt (rs (rs kN)) (.slice (some al) gs.length cl) gs :: pt (rs k8) nv ns :: L) w) row.length [(5, .slice A g.length c), (6, .slice (some al) gs.length cl), (7, .slice (some av) gs.length cv), (8, .slice (some ⟨ib, 0, none⟩) g.length g.length), (11, .int .i64 (i : Int)), (12, .bool (decide (Lv i = 0))), (13, .int .i64 ((0 : Nat) : Int))] ⟨rfl, rfl, rfl, rfl, rfl, rfl, rfl, trivial⟩ ⟨0, _, by omega, ⟨fun e => by simp [e], fun x y hq => by obtain ⟨h1, h2 | ⟨h2, h3⟩⟩ := hq <;> simp at *⟩, rfl, h⟩ ?_
  clear h
  rintro m3 env w ⟨k, bl, hkm, hI, rfl, h⟩
  refine c_seq ?_
  refine c_seq ?_
  refine c_region ?_
  obtain ⟨Ar, cr, q, qs⟩ := rowOk h
  refine l_move rfl rfl ?_
  refine l_move rfl rfl ?_
  refine l_move rfl rfl ?_
  first | refine l_indexAddr1 rfl Try.underlying23 (by first | exact sz_23) rfl rfl (by omega) ?_ | refine l_indexAddrN rfl Try.underlying23 (by first | exact sz_23) rfl rfl (by omega) ?_ | refine l_indexAddr rfl Try.underlying23 (by first | exact sz_23) rfl rfl (by omega) (by omega) ?_
  refine l_load rfl plain26 rfl (by assumption) ?_
  first | refine l_len rfl Try.underlying26 rfl ?_ | refine l_len_string rfl Try.underlying26 rfl ?_
  first | refine l_lss rfl rfl rfl ?_ | refine l_slss rfl rfl rfl ?_
  refine l_nil ?_
  refine c_if _ rfl (fun hc3 => ?_) (fun hc3 => ?_)
  rotate_left
  · refine c_exit ?_
    have hk : k = row.length := by omega
    subst hk
    have hbl := hI.whole hLv (fun x y hxy hx => ⟨hxy, .inl (by
      rw [List.take_length, hre]
      subst hx
      exact ofF_mem hi)⟩)
    subst hbl
    have qL := ((h.re [1]).rsN_at (i := i) (by omega)).1
    refine c_seq ?_
    refine c_region ?_
    refine l_move rfl rfl ?_
    refine l_not rfl rfl ?_
    refine l_move rfl rfl ?_
    first | (refine l_yes rfl rfl ?_; first | refine l_move rfl rfl ?_) | refine l_no rfl rfl rfl rfl ?_ | refine l_no' rfl rfl rfl ?_
    first | (refine l_yes rfl rfl ?_; first | refine l_move rfl rfl ?_) | refine l_no rfl rfl rfl rfl ?_ | refine l_no' rfl rfl rfl ?_
    first | (refine l_yes rfl rfl ?_; first | refine l_indexAddr1 rfl Try.underlying26 (by first | exact sz_26) rfl rfl (by omega) ?_ | refine l_indexAddrN rfl Try.underlying26 (by first | exact sz_26) rfl rfl (by omega) ?_ | refine l_indexAddr rfl Try.underlying26 (by first | exact sz_26) rfl rfl (by omega) (by omega) ?_) | refine l_no rfl rfl rfl rfl ?_ | refine l_no' rfl rfl rfl ?_
    first | (refine l_yes rfl rfl ?_; first | refine l_load rfl plain3 rfl (by assumption) ?_) | refine l_no rfl rfl rfl rfl ?_ | refine l_no' rfl rfl rfl ?_
    first | (refine l_yes rfl rfl ?_; first | refine l_lss rfl rfl rfl ?_ | refine l_slss rfl rfl rfl ?_) | refine l_no rfl rfl rfl rfl ?_ | refine l_no' rfl rfl rfl ?_
    refine l_set 142 (.bool false) rfl (vF (by omega)) ?_
    refine l_pick rfl rfl rfl ?_
    refine l_nil ?_
    refine c_condF rfl ?_
    refine c_skip ?_
    refine c_region ?_
    refine l_move rfl rfl ?_
    first | refine l_addr rfl rfl rfl (by omega) (by omega) ?_ | refine l_sadd rfl rfl rfl (by omega) ?_
    refine l_assign rfl rfl ?_
    refine l_nil ?_
    exact ⟨m - 1, [(5, .slice A g.length c), (6, .slice (some al) gs.length cl), (7, .slice (some av) gs.length cv), (8, .slice (some ⟨ib, 0, none⟩) g.length g.length), (11, .int .i64 ((i + 1 : Nat) : Int))], by omega, ⟨rfl, rfl, rfl, rfl, rfl, trivial⟩, i + 1, by omega, rfl, h⟩
  refine c_skip ?_
  have hk : k < row.length := by omega
  obtain ⟨ar, rfl, q2⟩ := qs k hk
  obtain ⟨x, hxe⟩ : ∃ x, x = row[k] := ⟨_, rfl⟩
  have hxg : x < g.length := by rw [hxe]; exact hrlt _ (List.getElem_mem hk)
  rw [← hxe] at q2
  obtain ⟨ag, At, ct, rfl, q3, ht1, ht2, htr, h4⟩ := (h.re [2]).rsII_row hxg
  have htb := bound63 ht1 ht2
  have hxi : ofF gs x = i := ofF_eq hgs.1.nd hi (by rw [← hre, hxe]; exact List.getElem_mem hk)
  refine c_seq ?_
  refine c_block ?_
  refine c_seq ?_
  refine c_region ?_
  refine l_move rfl rfl ?_
  refine l_move rfl rfl ?_
  refine l_move rfl rfl ?_
  first | refine l_indexAddr1 rfl Try.underlying23 (by first | exact sz_23) rfl rfl (by omega) ?_ | refine l_indexAddrN rfl Try.underlying23 (by first | exact sz_23) rfl rfl (by omega) ?_ | refine l_indexAddr rfl Try.underlying23 (by first | exact sz_23) rfl rfl (by omega) (by omega) ?_
  refine l_load rfl plain26 rfl (by assumption) ?_
  refine l_move rfl rfl ?_
  first | refine l_indexAddr1 rfl Try.underlying26 (by first | exact sz_26) rfl rfl (by omega) ?_ | refine l_indexAddrN rfl Try.underlying26 (by first | exact sz_26) rfl rfl (by omega) ?_ | refine l_indexAddr rfl Try.underlying26 (by first | exact sz_26) rfl rfl (by omega) (by omega) ?_
  refine l_load rfl plain3 rfl (by assumption) ?_
  first | refine l_indexAddr1 rfl Try.underlying23 (by first | exact sz_23) rfl rfl (by omega) ?_ | refine l_indexAddrN rfl Try.underlying23 (by first | exact sz_23) rfl rfl (by omega) ?_ | refine l_indexAddr rfl Try.underlying23 (by first | exact sz_23) rfl rfl (by omega) (by omega) ?_
  refine l_load rfl plain26 rfl (by assumption) ?_
  refine l_assign rfl rfl ?_
  refine l_nil ?_
  clear q q2 q3 htr
  refine c_seq ?_
  refine c_region ?_
  refine l_assign rfl rfl ?_
  refine l_nil ?_
  obtain ⟨to, hto⟩ : ∃ to, to = g[x] := ⟨_, rfl⟩
  have hgD : g.getD x [] = to := by rw [hto, getD_get [] hxg]
  have hin2 := hin _ (List.getElem_mem hxg)
  rw [← hto] at h4 htb ht1 hin2 ⊢
  replace h : St w0 (pt osN (.slice (some ⟨ib, 0, none⟩) g.length g.length) (ofA g.length gs) :: pt (rs kN) (.slice (some av) gs.length cv) ls :: pt rsII (.slice (some ag) g.length c) g :: pt (rs (rs kN)) (.slice (some al) gs.length cl) gs :: pt rsI (.slice At to.length ct) to :: pt (rs k8) nv ns :: L) w := h4.re [2, 3, 1, 4, 0]
  clear h4
  refine c_block ?_
  refine c_loop' (fun m4 env w => ∃ (t : Nat) (bl : Bool), t + m4 = to.length ∧ BlInv gs Lv i (GUp g row k t x) bl ∧ env = [(5, .slice (some ag) g.length c), (6, .slice (some al) gs.length cl), (7, .slice (some av) gs.length cv), (8, .slice (some ⟨ib, 0, none⟩) g.length g.length), (11, .int .i64 (i : Int)), (12, .bool bl), (13, .int .i64 (k : Int)), (14, .slice At to.length ct), (15, .int .i64 (t : Int))] ∧ St w0 (pt osN (.slice (some ⟨ib, 0, none⟩) g.length g.length) (ofA g.length gs) :: pt (rs kN) (.slice (some av) gs.length cv) ls :: pt rsII (.slice (some ag) g.length c) g :: pt (rs (rs kN)) (.slice (some al) gs.length cl) gs :: pt rsI (.slice At to.length ct) to :: pt (rs k8) nv ns :: L) w) to.length [(5, .slice (some ag) g.length c), (6, .slice (some al) gs.length cl), (7, .slice (some av) gs.length cv), (8, .slice (some ⟨ib, 0, none⟩) g.length g.length), (11, .int .i64 (i : Int)), (12, .bool bl), (13, .int .i64 (k : Int)), (14, .slice At to.length ct), (15, .int .i64 ((0 : Nat) : Int))] ⟨rfl, rfl, rfl, rfl, rfl, rfl, rfl, rfl, rfl, trivial⟩ ⟨0, _, by omega, hI.congr (gup_move g row), rfl, h⟩ ?_
  clear h hI bl
  rintro m4 env w ⟨t, bl, htm, hI, rfl, h⟩
  refine c_seq ?_
  refine c_seq ?_
  refine c_region ?_
  refine l_move rfl rfl ?_
  refine l_move rfl rfl ?_
  first | refine l_len rfl Try.underlying26 rfl ?_ | refine l_len_string rfl Try.underlying26 rfl ?_
  first | refine l_lss rfl rfl rfl ?_ | refine l_slss rfl rfl rfl ?_
  refine l_nil ?_
  refine c_if _ rfl (fun hc4 => ?_) (fun hc4 => ?_)
  rotate_left
  · refine c_exit ?_
    have ht : t = to.length := by omega
    subst ht
    refine c_region ?_
    refine l_move rfl rfl ?_
    first | refine l_addr rfl rfl rfl (by omega) (by omega) ?_ | refine l_sadd rfl rfl rfl (by omega) ?_
    refine l_assign rfl rfl ?_
    refine l_nil ?_
    refine ⟨m3 - 1, [(5, .slice (some ag) g.length c), (6, .slice (some al) gs.length cl), (7, .slice (some av) gs.length cv), (8, .slice (some ⟨ib, 0, none⟩) g.length g.length), (11, .int .i64 (i : Int)), (12, .bool bl), (13, .int .i64 ((k + 1 : Nat) : Int))], by omega, ⟨rfl, rfl, rfl, rfl, rfl, rfl, rfl, trivial⟩, k + 1, _, by omega, hI.congr (fun x' y' hq => ?_), rfl, (h.re [4]).drop⟩
    rw [← hgD]
    exact gup_end g row hk hxe.symm x' y' hq
  refine c_skip ?_
  have ht : t < to.length := by omega
  obtain ⟨b, hb⟩ : ∃ b, b = to[t] := ⟨_, rfl⟩
  have htD : t < (g.getD x []).length := by rw [hgD]; exact ht
  have hbD : (g.getD x [])[t] = b := by rw [hb]; congr 1
  obtain ⟨ar, rfl⟩ := (h.re [4]).rsN_ad rfl ht
  obtain ⟨hb0, hbn⟩ := hin2 b (by rw [hb]; exact List.getElem_mem ht)
  obtain ⟨y, rfl⟩ : ∃ y : Nat, b = (y : Int) := ⟨b.toNat, by omega⟩
  have hy : y < g.length := by omega
  have hay := ofF_lt hgs.1 hy
  have egy := ofA_get (gs := gs) hy
  obtain ⟨z, hz⟩ : ∃ z, z = ofF gs y := ⟨_, rfl⟩
  rw [← hz] at hay egy
  have hup := gup_take g row (k := k) htD hbD
  have hxy : EdgG g x y := ⟨hxg, hy, by rw [hgD, hb]; exact List.getElem_mem ht⟩
  have cells : ∀ {w}, St w0 (pt osN (.slice (some ⟨ib, 0, none⟩) g.length g.length) (ofA g.length gs) :: pt (rs kN) (.slice (some av) gs.length cv) ls :: pt rsII (.slice (some ag) g.length c) g :: pt (rs (rs kN)) (.slice (some al) gs.length cl) gs :: pt rsI (.slice (some ar) to.length ct) to :: pt (rs k8) nv ns :: L) w → w.cell? (ar.add t) = some (.int .i64 (y : Int)) ∧ w.cell? ((⟨ib, 0, none⟩ : Addr).add y) = some (.int .i64 (z : Int)) ∧ w.cell? (av.add i) = some (.int .i64 (Lv i : Int)) ∧ w.cell? (av.add z) = some (.int .i64 (Lv z : Int)) := fun {w} h => by
    have k1 := ((h.re [4]).rsI_at ht).1
    have k2 := (h.osN_at (i := y) (by omega)).1
    have k3 := ((h.re [1]).rsN_at (i := i) (by omega)).1
    have k4 := ((h.re [1]).rsN_at (i := z) (by omega)).1
    rw [← hb] at k1
    rw [egy] at k2
    rw [hlat] at k3 k4
    exact ⟨k1, k2, k3, k4⟩
  have hLi := hLb i
  have hLz := hLb z
  refine c_seqX (fun bl : Bool => [(5, .slice (some ag) g.length c), (6, .slice (some al) gs.length cl), (7, .slice (some av) gs.length cv), (8, .slice (some ⟨ib, 0, none⟩) g.length g.length), (11, .int .i64 (i : Int)), (12, .bool bl), (13, .int .i64 (k : Int)), (14, .slice (some ar) to.length ct), (15, .int .i64 (t : Int))]) (fun bl w => BlInv gs Lv i (GUp g row k (t + 1) x) bl ∧ St w0 (pt osN (.slice (some ⟨ib, 0, none⟩) g.length g.length) (ofA g.length gs) :: pt (rs kN) (.slice (some av) gs.length cv) ls :: pt rsII (.slice (some ag) g.length c) g :: pt (rs (rs kN)) (.slice (some al) gs.length cl) gs :: pt rsI (.slice (some ar) to.length ct) to :: pt (rs k8) nv ns :: L) w) ?_ ?_
  rotate_left
  · clear h hI bl
    rintro bl w ⟨hI, h⟩
    refine c_region ?_
    refine l_move rfl rfl ?_
    first | refine l_addr rfl rfl rfl (by omega) (by omega) ?_ | refine l_sadd rfl rfl rfl (by omega) ?_
    refine l_assign rfl rfl ?_
    refine l_nil ?_
    exact ⟨m4 - 1, [(5, .slice (some ag) g.length c), (6, .slice (some al) gs.length cl), (7, .slice (some av) gs.length cv), (8, .slice (some ⟨ib, 0, none⟩) g.length g.length), (11, .int .i64 (i : Int)), (12, .bool bl), (13, .int .i64 (k : Int)), (14, .slice (some ar) to.length ct), (15, .int .i64 ((t + 1 : Nat) : Int))], by omega, ⟨rfl, rfl, rfl, rfl, rfl, rfl, rfl, rfl, rfl, trivial⟩, t + 1, _, by omega, hI, rfl, h⟩
  refine c_block ?_
  refine c_seq ?_
  refine c_seq ?_
  refine c_region ?_
  obtain ⟨q1, q2, q3, q4⟩ := cells h
  refine l_move rfl rfl ?_
  refine l_move rfl rfl ?_
  refine l_move rfl rfl ?_
  first | refine l_indexAddr1 rfl Try.underlying26 (by first | exact sz_26) rfl rfl (by omega) ?_ | refine l_indexAddrN rfl Try.underlying26 (by first | exact sz_26) rfl rfl (by omega) ?_ | refine l_indexAddr rfl Try.underlying26 (by first | exact sz_26) rfl rfl (by omega) (by omega) ?_
  refine l_load rfl plain3 rfl (by assumption) ?_
  first | refine l_indexAddr1 rfl Try.underlying26 (by first | exact sz_26) rfl rfl (by omega) ?_ | refine l_indexAddrN rfl Try.underlying26 (by first | exact sz_26) rfl rfl (by omega) ?_ | refine l_indexAddr rfl Try.underlying26 (by first | exact sz_26) rfl rfl (by omega) (by omega) ?_
  refine l_load rfl plain3 rfl (by assumption) ?_
  refine l_move rfl rfl ?_
  first | refine l_eql rfl rfl rfl ?_ | refine l_seql rfl rfl rfl ?_
  by_cases hzi : z = i
  · refine l_set 100 (.bool true) rfl (by simp [hzi]) ?_
    refine l_nil ?_
    refine c_condT rfl ?_
    refine c_exit ?_
    exact ⟨bl, ⟨rfl, rfl, rfl, rfl, rfl, rfl, rfl, rfl, rfl, trivial⟩, (hI.skip (x0 := x) (y0 := y) (by rw [← hz, hzi])).congr hup, h⟩
  have hbel : Bel g gs i z := ⟨fun e => hzi e.symm, x, y, hxy, hxi, hz.symm⟩
  have hlz := (hLv i).1 z hbel
  refine l_set 100 (.bool false) rfl (by simp; omega) ?_
  refine l_nil ?_
  refine c_condF rfl ?_
  refine c_skip ?_
  clear q1 q2 q3 q4
  refine c_seq ?_
  refine c_seq ?_
  refine c_draw (by kernel_rfl) (fun w1 W => W = w1) (fun i => ([10, 11, 12, 13] : List Nat).contains i) [.p 0 [], .p 1 [], .p 2 [], .p 3 [], .p 4 [], .q 5 [6, 7, 8, 9, 14], .p 6 [], .q 7 [8, 9, 14], .p 8 [], .q 9 [14], .p 10 [], .p 11 [], .p 12 [], .q 13 [14], .p 14 []] (by kernel_rfl) rfl (by kernel_rfl) h ?_
  clear h; intro w h hw
  clear hw
  obtain ⟨q1, q2, q3, q4⟩ := cells h
  refine d_val rfl rfl (e_move rfl) ?_
  refine d_val rfl rfl (e_move rfl) ?_
  refine d_val rfl rfl (e_move rfl) ?_
  refine d_val rfl rfl (e_move rfl) ?_
  first | refine d_val rfl rfl (e_indexAddr1 Try.underlying26 (by first | exact sz_26) rfl rfl (by omega)) ?_ | refine d_val rfl rfl (e_indexAddrN Try.underlying26 (by first | exact sz_26) rfl rfl (by omega)) ?_ | refine d_val rfl rfl (e_indexAddr Try.underlying26 (by first | exact sz_26) rfl rfl (by omega) (by omega)) ?_
  refine d_load1 rfl rfl plain3 rfl (by assumption) ?_
  first | refine d_val rfl rfl (e_indexAddr1 Try.underlying26 (by first | exact sz_26) rfl rfl (by omega)) ?_ | refine d_val rfl rfl (e_indexAddrN Try.underlying26 (by first | exact sz_26) rfl rfl (by omega)) ?_ | refine d_val rfl rfl (e_indexAddr Try.underlying26 (by first | exact sz_26) rfl rfl (by omega) (by omega)) ?_
  refine d_load1 rfl rfl plain3 rfl (by assumption) ?_
  first | refine d_val rfl rfl (e_indexAddr1 Try.underlying26 (by first | exact sz_26) rfl rfl (by omega)) ?_ | refine d_val rfl rfl (e_indexAddrN Try.underlying26 (by first | exact sz_26) rfl rfl (by omega)) ?_ | refine d_val rfl rfl (e_indexAddr Try.underlying26 (by first | exact sz_26) rfl rfl (by omega) (by omega)) ?_
  refine d_load1 rfl rfl plain3 rfl (by assumption) ?_
  refine d_val rfl rfl (e_move rfl) ?_
  refine d_val rfl rfl (e_move rfl) ?_
  first | refine d_val rfl rfl (e_indexAddr1 Try.underlying26 (by first | exact sz_26) rfl rfl (by omega)) ?_ | refine d_val rfl rfl (e_indexAddrN Try.underlying26 (by first | exact sz_26) rfl rfl (by omega)) ?_ | refine d_val rfl rfl (e_indexAddr Try.underlying26 (by first | exact sz_26) rfl rfl (by omega) (by omega)) ?_
  refine d_load1 rfl rfl plain3 rfl (by assumption) ?_
  refine d_val rfl rfl (e_geq rfl rfl) ?_
  refine d_same 115 (.bool false) rfl (vF (by omega)) ?_
  refine d_nil ?_
  refine c_condF rfl ?_
  refine c_skip ?_
  clear q1 q2 q3 q4
  refine c_draw (by kernel_rfl) (fun w1 W => W = w1) (fun i => ([12, 13, 14, 15, 16] : List Nat).contains i) [.p 0 [], .p 1 [], .p 2 [], .p 3 [], .p 4 [], .p 5 [], .p 6 [], .q 7 [8, 9, 10, 11, 17, 18, 19], .p 8 [], .q 9 [10, 11, 17, 18, 19], .p 10 [], .q 11 [17, 18, 19], .p 12 [], .p 13 [], .p 14 [], .q 15 [16, 17, 18, 19], .p 16 [], .p 17 [], .p 18 [], .p 19 []] (by kernel_rfl) rfl (by kernel_rfl) h ?_
  clear h; intro w h hw
  clear hw
  obtain ⟨q1, q2, q3, q4⟩ := cells h
  cases bl with
  | true =>
    refine d_val rfl rfl (e_move rfl) ?_
    refine d_val rfl rfl (e_move rfl) ?_
    first | refine d_no rfl rfl rfl rfl rfl ?_ | refine d_noQ rfl rfl rfl rfl rfl rfl ?_ | refine d_yes rfl rfl rfl rfl (e_move rfl) ?_
    first | refine d_no rfl rfl rfl rfl rfl ?_ | refine d_noQ rfl rfl rfl rfl rfl rfl ?_ | refine d_yes rfl rfl rfl rfl (e_move rfl) ?_
    first | refine d_no rfl rfl rfl rfl rfl ?_ | refine d_noQ rfl rfl rfl rfl rfl rfl ?_ | refine d_yes rfl rfl rfl rfl (e_move rfl) ?_
    first | refine d_no rfl rfl rfl rfl rfl ?_ | refine d_noQ rfl rfl rfl rfl rfl rfl ?_ | refine d_yes rfl rfl rfl rfl (e_move rfl) ?_
    first | refine d_no rfl rfl rfl rfl rfl ?_ | refine d_noQ rfl rfl rfl rfl rfl rfl ?_ | refine d_yes rfl rfl rfl rfl (e_indexAddr1 Try.underlying26 (by first | exact sz_26) rfl rfl (by omega)) ?_ | refine d_yes rfl rfl rfl rfl (e_indexAddrN Try.underlying26 (by first | exact sz_26) rfl rfl (by omega)) ?_ | refine d_yes rfl rfl rfl rfl (e_indexAddr Try.underlying26 (by first | exact sz_26) rfl rfl (by omega) (by omega)) ?_
    first | refine d_no rfl rfl rfl rfl rfl ?_ | refine d_noQ rfl rfl rfl rfl rfl rfl ?_ | refine d_loadY rfl rfl rfl rfl plain3 rfl (by assumption) ?_
    first | refine d_no rfl rfl rfl rfl rfl ?_ | refine d_noQ rfl rfl rfl rfl rfl rfl ?_ | refine d_yes rfl rfl rfl rfl (e_indexAddr1 Try.underlying26 (by first | exact sz_26) rfl rfl (by omega)) ?_ | refine d_yes rfl rfl rfl rfl (e_indexAddrN Try.underlying26 (by first | exact sz_26) rfl rfl (by omega)) ?_ | refine d_yes rfl rfl rfl rfl (e_indexAddr Try.underlying26 (by first | exact sz_26) rfl rfl (by omega) (by omega)) ?_
    first | refine d_no rfl rfl rfl rfl rfl ?_ | refine d_noQ rfl rfl rfl rfl rfl rfl ?_ | refine d_loadY rfl rfl rfl rfl plain3 rfl (by assumption) ?_
    first | refine d_no rfl rfl rfl rfl rfl ?_ | refine d_noQ rfl rfl rfl rfl rfl rfl ?_ | refine d_yes rfl rfl rfl rfl (e_indexAddr1 Try.underlying26 (by first | exact sz_26) rfl rfl (by omega)) ?_ | refine d_yes rfl rfl rfl rfl (e_indexAddrN Try.underlying26 (by first | exact sz_26) rfl rfl (by omega)) ?_ | refine d_yes rfl rfl rfl rfl (e_indexAddr Try.underlying26 (by first | exact sz_26) rfl rfl (by omega) (by omega)) ?_
    first | refine d_no rfl rfl rfl rfl rfl ?_ | refine d_noQ rfl rfl rfl rfl rfl rfl ?_ | refine d_loadY rfl rfl rfl rfl plain3 rfl (by assumption) ?_
    first | refine d_no rfl rfl rfl rfl rfl ?_ | refine d_noQ rfl rfl rfl rfl rfl rfl ?_ | refine d_yes rfl rfl rfl rfl (e_move rfl) ?_
    first | refine d_no rfl rfl rfl rfl rfl ?_ | refine d_noQ rfl rfl rfl rfl rfl rfl ?_ | refine d_yes rfl rfl rfl rfl (e_move rfl) ?_
    first | refine d_no rfl rfl rfl rfl rfl ?_ | refine d_noQ rfl rfl rfl rfl rfl rfl ?_ | refine d_yes rfl rfl rfl rfl (e_indexAddr1 Try.underlying26 (by first | exact sz_26) rfl rfl (by omega)) ?_ | refine d_yes rfl rfl rfl rfl (e_indexAddrN Try.underlying26 (by first | exact sz_26) rfl rfl (by omega)) ?_ | refine d_yes rfl rfl rfl rfl (e_indexAddr Try.underlying26 (by first | exact sz_26) rfl rfl (by omega) (by omega)) ?_
    first | refine d_no rfl rfl rfl rfl rfl ?_ | refine d_noQ rfl rfl rfl rfl rfl rfl ?_ | refine d_loadY rfl rfl rfl rfl plain3 rfl (by assumption) ?_
    first | refine d_no rfl rfl rfl rfl rfl ?_ | refine d_noQ rfl rfl rfl rfl rfl rfl ?_ | refine d_yes rfl rfl rfl rfl (e_subr rfl rfl (by omega) (by omega)) ?_
    first | refine d_no rfl rfl rfl rfl rfl ?_ | refine d_noQ rfl rfl rfl rfl rfl rfl ?_ | refine d_yes rfl rfl rfl rfl (e_eql rfl rfl) ?_ | refine d_yes rfl rfl rfl rfl (e_seql rfl rfl) ?_
    refine d_val rfl rfl (e_pick rfl rfl) ?_
    refine d_val rfl rfl (e_assign rfl) ?_
    refine d_nil ?_
    exact ⟨true, ⟨rfl, rfl, rfl, rfl, rfl, rfl, rfl, rfl, rfl, trivial⟩, (hI.add (x0 := x) (y0 := y) rfl).congr hup, h⟩
  | false =>
    refine d_val rfl rfl (e_move rfl) ?_
    refine d_val rfl rfl (e_move rfl) ?_
    first | refine d_no rfl rfl rfl rfl rfl ?_ | refine d_noQ rfl rfl rfl rfl rfl rfl ?_ | refine d_yes rfl rfl rfl rfl (e_move rfl) ?_
    first | refine d_no rfl rfl rfl rfl rfl ?_ | refine d_noQ rfl rfl rfl rfl rfl rfl ?_ | refine d_yes rfl rfl rfl rfl (e_move rfl) ?_
    first | refine d_no rfl rfl rfl rfl rfl ?_ | refine d_noQ rfl rfl rfl rfl rfl rfl ?_ | refine d_yes rfl rfl rfl rfl (e_move rfl) ?_
    first | refine d_no rfl rfl rfl rfl rfl ?_ | refine d_noQ rfl rfl rfl rfl rfl rfl ?_ | refine d_yes rfl rfl rfl rfl (e_move rfl) ?_
    first | refine d_no rfl rfl rfl rfl rfl ?_ | refine d_noQ rfl rfl rfl rfl rfl rfl ?_ | refine d_yes rfl rfl rfl rfl (e_indexAddr1 Try.underlying26 (by first | exact sz_26) rfl rfl (by omega)) ?_ | refine d_yes rfl rfl rfl rfl (e_indexAddrN Try.underlying26 (by first | exact sz_26) rfl rfl (by omega)) ?_ | refine d_yes rfl rfl rfl rfl (e_indexAddr Try.underlying26 (by first | exact sz_26) rfl rfl (by omega) (by omega)) ?_
    first | refine d_no rfl rfl rfl rfl rfl ?_ | refine d_noQ rfl rfl rfl rfl rfl rfl ?_ | refine d_loadY rfl rfl rfl rfl plain3 rfl (by assumption) ?_
    first | refine d_no rfl rfl rfl rfl rfl ?_ | refine d_noQ rfl rfl rfl rfl rfl rfl ?_ | refine d_yes rfl rfl rfl rfl (e_indexAddr1 Try.underlying26 (by first | exact sz_26) rfl rfl (by omega)) ?_ | refine d_yes rfl rfl rfl rfl (e_indexAddrN Try.underlying26 (by first | exact sz_26) rfl rfl (by omega)) ?_ | refine d_yes rfl rfl rfl rfl (e_indexAddr Try.underlying26 (by first | exact sz_26) rfl rfl (by omega) (by omega)) ?_
    first | refine d_no rfl rfl rfl rfl rfl ?_ | refine d_noQ rfl rfl rfl rfl rfl rfl ?_ | refine d_loadY rfl rfl rfl rfl plain3 rfl (by assumption) ?_
    first | refine d_no rfl rfl rfl rfl rfl ?_ | refine d_noQ rfl rfl rfl rfl rfl rfl ?_ | refine d_yes rfl rfl rfl rfl (e_indexAddr1 Try.underlying26 (by first | exact sz_26) rfl rfl (by omega)) ?_ | refine d_yes rfl rfl rfl rfl (e_indexAddrN Try.underlying26 (by first | exact sz_26) rfl rfl (by omega)) ?_ | refine d_yes rfl rfl rfl rfl (e_indexAddr Try.underlying26 (by first | exact sz_26) rfl rfl (by omega) (by omega)) ?_
    first | refine d_no rfl rfl rfl rfl rfl ?_ | refine d_noQ rfl rfl rfl rfl rfl rfl ?_ | refine d_loadY rfl rfl rfl rfl plain3 rfl (by assumption) ?_
    first | refine d_no rfl rfl rfl rfl rfl ?_ | refine d_noQ rfl rfl rfl rfl rfl rfl ?_ | refine d_yes rfl rfl rfl rfl (e_move rfl) ?_
    first | refine d_no rfl rfl rfl rfl rfl ?_ | refine d_noQ rfl rfl rfl rfl rfl rfl ?_ | refine d_yes rfl rfl rfl rfl (e_move rfl) ?_
    first | refine d_no rfl rfl rfl rfl rfl ?_ | refine d_noQ rfl rfl rfl rfl rfl rfl ?_ | refine d_yes rfl rfl rfl rfl (e_indexAddr1 Try.underlying26 (by first | exact sz_26) rfl rfl (by omega)) ?_ | refine d_yes rfl rfl rfl rfl (e_indexAddrN Try.underlying26 (by first | exact sz_26) rfl rfl (by omega)) ?_ | refine d_yes rfl rfl rfl rfl (e_indexAddr Try.underlying26 (by first | exact sz_26) rfl rfl (by omega) (by omega)) ?_
    first | refine d_no rfl rfl rfl rfl rfl ?_ | refine d_noQ rfl rfl rfl rfl rfl rfl ?_ | refine d_loadY rfl rfl rfl rfl plain3 rfl (by assumption) ?_
    first | refine d_no rfl rfl rfl rfl rfl ?_ | refine d_noQ rfl rfl rfl rfl rfl rfl ?_ | refine d_yes rfl rfl rfl rfl (e_subr rfl rfl (by omega) (by omega)) ?_
    first | refine d_no rfl rfl rfl rfl rfl ?_ | refine d_noQ rfl rfl rfl rfl rfl rfl ?_ | refine d_yes rfl rfl rfl rfl (e_eql rfl rfl) ?_ | refine d_yes rfl rfl rfl rfl (e_seql rfl rfl) ?_
    refine d_same 133 (.bool (decide (Lv i = Lv (ofF gs y) + 1))) rfl (by rw [← hz]; congr 1; rw [decide_eq_decide]; omega) ?_
    refine d_val rfl rfl (e_pick rfl rfl) ?_
    refine d_val rfl rfl (e_assign rfl) ?_
    refine d_nil ?_
    exact ⟨decide (Lv i = Lv (ofF gs y) + 1), ⟨rfl, rfl, rfl, rfl, rfl, rfl, rfl, rfl, rfl, trivial⟩, (hI.add (x0 := x) (y0 := y) rfl).congr hup, h⟩
end Go.Proofs.Ythamopcfpmkbfaa
