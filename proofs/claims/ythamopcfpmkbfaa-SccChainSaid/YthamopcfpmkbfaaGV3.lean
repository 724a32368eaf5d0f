/- r15.Levels. No condition but that the graph is small. -/
import Derived.Test.YthamopcfpmkbfaaGV2
import Derived.Test.YthamopcfpmkbfaaPX
set_option linter.unusedVariables false
set_option linter.unusedSimpArgs false
namespace Go.Proofs.Ythamopcfpmkbfaa
open Go.Proofs.Fw
variable {w0 w : World} {L : List Res}
set_option maxRecDepth 4000 in
theorem levels15_calls {g : List (List Int)} {gs : List (List Nat)} {Lv : Nat → Nat} (hgs : Grp g gs) (hLv : LvG g gs Lv) (gv : Value) (hn : g.length ≤ 100000) (hr : ∀ r ∈ g, r.length ≤ 100000) (h : St w0 (pt rsII gv g :: L) w) :
    Calls Try.prog 24 #[gv] w (Gives w0 osN ((List.range gs.length).map Lv) (pt rsII gv g :: L)) := by
  have hgl := hgs.len
  have hLb := fun i => lvG_le hgs.1 hLv i
  obtain ⟨A, c, rfl, -, -⟩ := h.rs_form
  refine f_one Try.func24 rfl Try.results24 Try.ntmps24 rfl ?_
  refine c_seq ?_
  refine c_region ?_
  refine l_assign rfl rfl ?_
  refine l_nil ?_
  refine c_seq ?_
  refine c_region ?_
  refine l_move rfl rfl ?_
  refine l_call rfl Try.func19 rfl (by decide) rfl (groups15_calls hgs _ hn hr h) ?_
  clear h
  rintro e w ⟨lv, rfl, h⟩
  refine ⟨_, rfl, ?_⟩
  replace h : St w0 (pt (rs (rs kN)) lv gs :: pt rsII (.slice A g.length c) g :: L) w := h.frz (os_frz (os_frz kN_pers.frz rfl) rfl)
  obtain ⟨Al, cl, rfl, hl1, hl2⟩ := h.rs_form
  refine l_assign rfl rfl ?_
  refine l_nil ?_
  refine c_seq ?_
  refine c_region ?_
  refine l_move rfl rfl ?_
  first | refine l_len rfl Try.underlying23 rfl ?_ | refine l_len_string rfl Try.underlying23 rfl ?_
  refine l_makeS (Kx := kN) (zx := 0) rfl Try.underlying26 info3 rfl ⟨rfl, Nat.zero_le _⟩ rfl rfl (by omega) (by unfold maxLen; omega) h ?_
  clear h; intro ib w h
  refine l_assign rfl rfl ?_
  refine l_nil ?_
  refine c_seq ?_
  refine c_seq ?_
  refine c_region ?_
  refine l_assign rfl rfl ?_
  refine l_nil ?_
  refine c_block ?_
  refine c_loop' (fun m env w => ∃ (i : Nat) (arr : List Nat), i + m = gs.length ∧ OfTo g.length gs (gs.take i).flatten arr ∧ env = [(0, .slice A g.length c), (3, .slice Al gs.length cl), (4, .slice (some ⟨ib, 0, none⟩) g.length g.length), (5, .int .i64 (i : Int))] ∧ St w0 (pt osN (.slice (some ⟨ib, 0, none⟩) g.length g.length) arr :: pt (rs (rs kN)) (.slice Al gs.length cl) gs :: pt rsII (.slice A g.length c) g :: L) w) gs.length [(0, .slice A g.length c), (3, .slice Al gs.length cl), (4, .slice (some ⟨ib, 0, none⟩) g.length g.length), (5, .int .i64 ((0 : Nat) : Int))] ⟨rfl, rfl, rfl, rfl, trivial⟩ ⟨0, _, by omega, by simpa using OfTo.begin g.length gs, rfl, h⟩ ?_
  clear h
  rintro m env w ⟨i, arr, him, ho, rfl, h⟩
  refine c_seq ?_
  refine c_seq ?_
  refine c_region ?_
  refine l_move rfl rfl ?_
  refine l_move rfl rfl ?_
  first | refine l_len rfl Try.underlying23 rfl ?_ | refine l_len_string rfl Try.underlying23 rfl ?_
  first | refine l_lss rfl rfl rfl ?_ | refine l_slss rfl rfl rfl ?_
  refine l_nil ?_
  refine c_if _ rfl (fun hc => ?_) (fun hc => ?_)
  · refine c_skip ?_
    have hi : i < gs.length := by omega
    refine c_seq ?_
    refine c_block ?_
    refine c_seq ?_
    refine c_region ?_
    refine l_assign rfl rfl ?_
    refine l_nil ?_
    refine c_block ?_
    refine c_loop' (fun m2 env w => ∃ (j : Nat) (arr : List Nat), j + m2 = gs[i].length ∧ OfTo g.length gs ((gs.take i).flatten ++ gs[i].take j) arr ∧ env = [(0, .slice A g.length c), (3, .slice Al gs.length cl), (4, .slice (some ⟨ib, 0, none⟩) g.length g.length), (5, .int .i64 (i : Int)), (6, .int .i64 (j : Int))] ∧ St w0 (pt osN (.slice (some ⟨ib, 0, none⟩) g.length g.length) arr :: pt (rs (rs kN)) (.slice Al gs.length cl) gs :: pt rsII (.slice A g.length c) g :: L) w) gs[i].length [(0, .slice A g.length c), (3, .slice Al gs.length cl), (4, .slice (some ⟨ib, 0, none⟩) g.length g.length), (5, .int .i64 (i : Int)), (6, .int .i64 ((0 : Nat) : Int))] ⟨rfl, rfl, rfl, rfl, rfl, trivial⟩ ⟨0, _, by omega, by simpa using ho, rfl, h⟩ ?_
    clear h ho
    rintro m2 env w ⟨j, arr, hjm, ho, rfl, h⟩
    obtain ⟨al, Ar, cr, rfl, q, hr1, hr2, hrow, -⟩ := (h.re [1]).rsNN_row hi
    have hrb := bound63 hr1 hr2
    refine c_seq ?_
    refine c_seq ?_
    refine c_region ?_
    refine l_move rfl rfl ?_
    refine l_move rfl rfl ?_
    refine l_move rfl rfl ?_
    first | refine l_indexAddr1 rfl Try.underlying23 (by first | exact sz_23) rfl rfl (by omega) ?_ | refine l_indexAddrN rfl Try.underlying23 (by first | exact sz_23) rfl rfl (by omega) ?_ | refine l_indexAddr rfl Try.underlying23 (by first | exact sz_23) rfl rfl (by omega) (by omega) ?_
    refine l_load rfl plain26 rfl (by assumption) ?_
    first | refine l_len rfl Try.underlying26 rfl ?_ | refine l_len_string rfl Try.underlying26 rfl ?_
    first | refine l_lss rfl rfl rfl ?_ | refine l_slss rfl rfl rfl ?_
    refine l_nil ?_
    refine c_if _ rfl (fun hc2 => ?_) (fun hc2 => ?_)
    · refine c_skip ?_
      have hj : j < gs[i].length := by omega
      have hxm : gs[i][j] ∈ gs[i] := List.getElem_mem hj
      have hxn := hgs.row hi hxm
      have hal : arr.length = g.length := ho.len
      obtain ⟨ar, rfl, hra⟩ := hrow (by omega)
      have q2 := (hra j hj).1
      refine c_seq ?_
      refine c_block ?_
      refine c_region ?_
      refine l_move rfl rfl ?_
      refine l_move rfl rfl ?_
      refine l_move rfl rfl ?_
      first | refine l_indexAddr1 rfl Try.underlying23 (by first | exact sz_23) rfl rfl (by omega) ?_ | refine l_indexAddrN rfl Try.underlying23 (by first | exact sz_23) rfl rfl (by omega) ?_ | refine l_indexAddr rfl Try.underlying23 (by first | exact sz_23) rfl rfl (by omega) (by omega) ?_
      refine l_load rfl plain26 rfl (by assumption) ?_
      refine l_move rfl rfl ?_
      first | refine l_indexAddr1 rfl Try.underlying26 (by first | exact sz_26) rfl rfl (by omega) ?_ | refine l_indexAddrN rfl Try.underlying26 (by first | exact sz_26) rfl rfl (by omega) ?_ | refine l_indexAddr rfl Try.underlying26 (by first | exact sz_26) rfl rfl (by omega) (by omega) ?_
      refine l_load rfl plain3 rfl (by assumption) ?_
      refine l_move rfl rfl ?_
      first | refine l_indexAddr1 rfl Try.underlying26 (by first | exact sz_26) rfl rfl (by omega) ?_ | refine l_indexAddrN rfl Try.underlying26 (by first | exact sz_26) rfl rfl (by omega) ?_ | refine l_indexAddr rfl Try.underlying26 (by first | exact sz_26) rfl rfl (by omega) (by omega) ?_
      refine l_storeE plain3 rfl rfl rfl rfl (by omega) ((h.addNat i (by omega)).re [1, 0]) ?_
      clear h q q2; intro w h
      refine l_nil ?_
      refine c_region ?_
      refine l_move rfl rfl ?_
      first | refine l_addr rfl rfl rfl (by omega) (by omega) ?_ | refine l_sadd rfl rfl rfl (by omega) ?_
      refine l_assign rfl rfl ?_
      refine l_nil ?_
      refine ⟨m2 - 1, [(0, .slice A g.length c), (3, .slice (some al) gs.length cl), (4, .slice (some ⟨ib, 0, none⟩) g.length g.length), (5, .int .i64 (i : Int)), (6, .int .i64 ((j + 1 : Nat) : Int))], by omega, ⟨rfl, rfl, rfl, rfl, rfl, trivial⟩, j + 1, _, by omega, ?_, rfl, h⟩
      rw [List.take_succ_eq_append_getElem hj, ← List.append_assoc]
      exact ho.snoc hgs.1.nd hi hxm hxn
    · refine c_exit ?_
      have hj : j = gs[i].length := by omega
      subst hj
      rw [List.take_length, ← take_flat hi] at ho
      refine c_region ?_
      refine l_move rfl rfl ?_
      first | refine l_addr rfl rfl rfl (by omega) (by omega) ?_ | refine l_sadd rfl rfl rfl (by omega) ?_
      refine l_assign rfl rfl ?_
      refine l_nil ?_
      exact ⟨m - 1, [(0, .slice A g.length c), (3, .slice (some al) gs.length cl), (4, .slice (some ⟨ib, 0, none⟩) g.length g.length), (5, .int .i64 ((i + 1 : Nat) : Int))], by omega, ⟨rfl, rfl, rfl, rfl, trivial⟩, i + 1, _, by omega, ho, rfl, h⟩
  refine c_exit ?_
  have hi : i = gs.length := by omega
  subst hi
  rw [List.take_length] at ho
  have ha := ho.whole (fun y hy => (hgs.1.all y).2 hy)
  subst ha
  clear ho hc him
  refine c_seq ?_
  refine c_region ?_
  refine l_move rfl rfl ?_
  first | refine l_len rfl Try.underlying23 rfl ?_ | refine l_len_string rfl Try.underlying23 rfl ?_
  refine l_makeS (Kx := kN) (zx := 0) rfl Try.underlying26 info3 rfl ⟨rfl, Nat.zero_le _⟩ rfl rfl (by omega) (by unfold maxLen; omega) h ?_
  clear h; intro ob w h
  refine l_assign rfl rfl ?_
  refine l_nil ?_
  refine c_seq ?_
  refine c_seq ?_
  refine c_region ?_
  refine l_assign rfl rfl ?_
  refine l_nil ?_
  refine c_block ?_
  refine c_loop' (fun m env w => ∃ (r : Nat) (arr : List Nat), r + m = gs.length ∧ RInv gs Lv r 0 (fun _ _ => False) arr ∧ env = [(0, .slice A g.length c), (3, .slice Al gs.length cl), (4, .slice (some ⟨ib, 0, none⟩) g.length g.length), (7, .slice (some ⟨ob, 0, none⟩) gs.length gs.length), (8, .int .i64 (r : Int))] ∧ St w0 (pt osN (.slice (some ⟨ob, 0, none⟩) gs.length gs.length) arr :: pt osN (.slice (some ⟨ib, 0, none⟩) g.length g.length) (ofA g.length gs) :: pt (rs (rs kN)) (.slice Al gs.length cl) gs :: pt rsII (.slice A g.length c) g :: L) w) gs.length [(0, .slice A g.length c), (3, .slice Al gs.length cl), (4, .slice (some ⟨ib, 0, none⟩) g.length g.length), (7, .slice (some ⟨ob, 0, none⟩) gs.length gs.length), (8, .int .i64 ((0 : Nat) : Int))] ⟨rfl, rfl, rfl, rfl, rfl, trivial⟩ ⟨0, _, by omega, RInv.begin gs Lv, rfl, h⟩ ?_
  clear h
  rintro m env w ⟨r, arr, hrm, hI, rfl, h⟩
  refine c_seq ?_
  refine c_seq ?_
  refine c_region ?_
  refine l_move rfl rfl ?_
  refine l_move rfl rfl ?_
  first | refine l_len rfl Try.underlying23 rfl ?_ | refine l_len_string rfl Try.underlying23 rfl ?_
  first | refine l_lss rfl rfl rfl ?_ | refine l_slss rfl rfl rfl ?_
  refine l_nil ?_
  refine c_if _ rfl (fun hc => ?_) (fun hc => ?_)
  rotate_left
  · refine c_exit ?_
    have hr' : r = gs.length := by omega
    subst hr'
    have := hI.whole hLb
    subst this
    refine c_seq ?_
    refine c_region ?_
    refine l_move rfl rfl ?_
    refine l_assign rfl rfl ?_
    refine l_nil ?_
    exact c_ret ⟨.inr rfl, _, rfl, _, rfl, ((h.re [1]).drop.re [1]).drop⟩
  refine c_skip ?_
  refine c_seq ?_
  refine c_block ?_
  refine c_seq ?_
  refine c_region ?_
  refine l_assign rfl rfl ?_
  refine l_nil ?_
  refine c_block ?_
  refine c_loop' (fun m2 env w => ∃ (i : Nat) (arr : List Nat), i + m2 = gs.length ∧ RInv gs Lv r i (fun _ _ => False) arr ∧ env = [(0, .slice A g.length c), (3, .slice Al gs.length cl), (4, .slice (some ⟨ib, 0, none⟩) g.length g.length), (7, .slice (some ⟨ob, 0, none⟩) gs.length gs.length), (8, .int .i64 (r : Int)), (9, .int .i64 (i : Int))] ∧ St w0 (pt osN (.slice (some ⟨ob, 0, none⟩) gs.length gs.length) arr :: pt osN (.slice (some ⟨ib, 0, none⟩) g.length g.length) (ofA g.length gs) :: pt (rs (rs kN)) (.slice Al gs.length cl) gs :: pt rsII (.slice A g.length c) g :: L) w) gs.length [(0, .slice A g.length c), (3, .slice Al gs.length cl), (4, .slice (some ⟨ib, 0, none⟩) g.length g.length), (7, .slice (some ⟨ob, 0, none⟩) gs.length gs.length), (8, .int .i64 (r : Int)), (9, .int .i64 ((0 : Nat) : Int))] ⟨rfl, rfl, rfl, rfl, rfl, rfl, trivial⟩ ⟨0, _, by omega, hI, rfl, h⟩ ?_
  clear h hI arr
  rintro m2 env w ⟨i, arr, him, hI, rfl, h⟩
  refine c_seq ?_
  refine c_seq ?_
  refine c_region ?_
  refine l_move rfl rfl ?_
  refine l_move rfl rfl ?_
  first | refine l_len rfl Try.underlying23 rfl ?_ | refine l_len_string rfl Try.underlying23 rfl ?_
  first | refine l_lss rfl rfl rfl ?_ | refine l_slss rfl rfl rfl ?_
  refine l_nil ?_
  refine c_if _ rfl (fun hc2 => ?_) (fun hc2 => ?_)
  rotate_left
  · refine c_exit ?_
    have hi : i = gs.length := by omega
    subst hi
    refine c_region ?_
    refine l_move rfl rfl ?_
    first | refine l_addr rfl rfl rfl (by omega) (by omega) ?_ | refine l_sadd rfl rfl rfl (by omega) ?_
    refine l_assign rfl rfl ?_
    refine l_nil ?_
    exact ⟨m - 1, [(0, .slice A g.length c), (3, .slice Al gs.length cl), (4, .slice (some ⟨ib, 0, none⟩) g.length g.length), (7, .slice (some ⟨ob, 0, none⟩) gs.length gs.length), (8, .int .i64 ((r + 1 : Nat) : Int))], by omega, ⟨rfl, rfl, rfl, rfl, rfl, trivial⟩, r + 1, _, by omega, hI.round, rfl, h⟩
  refine c_skip ?_
  have hi : i < gs.length := by omega
  obtain ⟨al, Ar, cr, rfl, -, hr1, hr2, hrow, -⟩ := (h.re [2]).rsNN_row hi
  clear hrow
  have hrb := bound63 hr1 hr2
  obtain ⟨row, hre⟩ : ∃ row, row = gs[i] := ⟨_, rfl⟩
  have hrlt : ∀ x ∈ row, x < g.length := fun x hx => by rw [hre] at hx; exact hgs.row hi hx
  have rowOk : ∀ {arr w}, St w0 (pt osN (.slice (some ⟨ob, 0, none⟩) gs.length gs.length) arr :: pt osN (.slice (some ⟨ib, 0, none⟩) g.length g.length) (ofA g.length gs) :: pt (rs (rs kN)) (.slice (some al) gs.length cl) gs :: pt rsII (.slice A g.length c) g :: L) w → ∃ Ar cr, w.cell? (al.add i) = some (.slice Ar row.length cr) ∧ ∀ k (hk : k < row.length), ∃ ar, Ar = some ar ∧ w.cell? (ar.add k) = some (.int .i64 (row[k] : Int)) := fun {arr w} h => by
    obtain ⟨al', Ar, cr, hA, q, -, -, hrow, -⟩ := (h.re [2]).rsNN_row hi
    cases hA
    rw [← hre] at q hrow
    refine ⟨Ar, cr, q, fun k hk => ?_⟩
    obtain ⟨ar, k1, k2⟩ := hrow (by omega)
    exact ⟨ar, k1, (k2 k hk).1⟩
  rw [← hre] at hr1 hrb
  refine c_seq ?_
  refine c_block ?_
  refine c_seq ?_
  refine c_region ?_
  refine l_assign rfl rfl ?_
  refine l_nil ?_
  refine c_block ?_
  refine c_loop' (fun m3 env w => ∃ (k : Nat) (arr : List Nat), k + m3 = row.length ∧ RInv gs Lv r i (GUp g row k 0 0) arr ∧ env = [(0, .slice A g.length c), (3, .slice (some al) gs.length cl), (4, .slice (some ⟨ib, 0, none⟩) g.length g.length), (7, .slice (some ⟨ob, 0, none⟩) gs.length gs.length), (8, .int .i64 (r : Int)), (9, .int .i64 (i : Int)), (10, .int .i64 (k : Int))] ∧ St w0 (pt osN (.slice (some ⟨ob, 0, none⟩) gs.length gs.length) arr :: pt osN (.slice (some ⟨ib, 0, none⟩) g.length g.length) (ofA g.length gs) :: pt (rs (rs kN)) (.slice (some al) gs.length cl) gs :: pt rsII (.slice A g.length c) g :: L) w) row.length [(0, .slice A g.length c), (3, .slice (some al) gs.length cl), (4, .slice (some ⟨ib, 0, none⟩) g.length g.length), (7, .slice (some ⟨ob, 0, none⟩) gs.length gs.length), (8, .int .i64 (r : Int)), (9, .int .i64 (i : Int)), (10, .int .i64 ((0 : Nat) : Int))] ⟨rfl, rfl, rfl, rfl, rfl, rfl, rfl, trivial⟩ ⟨0, _, by omega, hI.congr (fun x y hq => by obtain ⟨h1, h2 | ⟨h2, h3⟩⟩ := hq <;> simp at *), rfl, h⟩ ?_
  clear h hI arr
  rintro m3 env w ⟨k, arr, hkm, hI, rfl, h⟩
  refine c_seq ?_
  refine c_seq ?_
  refine c_region ?_
  obtain ⟨Ar, cr, q, qs⟩ := rowOk h
  refine l_move rfl rfl ?_
  refine l_move rfl rfl ?_
  refine l_move rfl rfl ?_
  first | refine l_indexAddr1 rfl Try.underlying23 (by first | exact sz_23) rfl rfl (by omega) ?_ | refine l_indexAddrN rfl Try.underlying23 (by first | exact sz_23) rfl rfl (by omega) ?_ | refine l_indexAddr rfl Try.underlying23 (by first | exact sz_23) rfl rfl (by omega) (by omega) ?_
  refine l_load rfl plain26 rfl (by assumption) ?_
  first | refine l_len rfl Try.underlying26 rfl ?_ | refine l_len_string rfl Try.underlying26 rfl ?_
  first | refine l_lss rfl rfl rfl ?_ | refine l_slss rfl rfl rfl ?_
  refine l_nil ?_
  refine c_if _ rfl (fun hc3 => ?_) (fun hc3 => ?_)
  rotate_left
  · refine c_exit ?_
    have hk : k = row.length := by omega
    subst hk
    refine c_region ?_
    refine l_move rfl rfl ?_
    first | refine l_addr rfl rfl rfl (by omega) (by omega) ?_ | refine l_sadd rfl rfl rfl (by omega) ?_
    refine l_assign rfl rfl ?_
    refine l_nil ?_
    refine ⟨m2 - 1, [(0, .slice A g.length c), (3, .slice (some al) gs.length cl), (4, .slice (some ⟨ib, 0, none⟩) g.length g.length), (7, .slice (some ⟨ob, 0, none⟩) gs.length gs.length), (8, .int .i64 (r : Int)), (9, .int .i64 ((i + 1 : Nat) : Int))], by omega, ⟨rfl, rfl, rfl, rfl, rfl, rfl, trivial⟩, i + 1, _, by omega, hI.next hLv (fun x y hxy hx => ⟨hxy, .inl ?_⟩), rfl, h⟩
    rw [List.take_length, hre]
    subst hx
    exact ofF_mem hi
  refine c_skip ?_
  have hk : k < row.length := by omega
  obtain ⟨ar, rfl, q2⟩ := qs k hk
  obtain ⟨x, hxe⟩ : ∃ x, x = row[k] := ⟨_, rfl⟩
  have hxg : x < g.length := by rw [hxe]; exact hrlt _ (List.getElem_mem hk)
  rw [← hxe] at q2
  obtain ⟨ag, At, ct, rfl, q3, ht1, ht2, htr, h4⟩ := (h.re [3]).rsII_row hxg
  have htb := bound63 ht1 ht2
  refine c_seq ?_
  refine c_block ?_
  refine c_seq ?_
  refine c_region ?_
  refine l_move rfl rfl ?_
  refine l_move rfl rfl ?_
  refine l_move rfl rfl ?_
  first | refine l_indexAddr1 rfl Try.underlying23 (by first | exact sz_23) rfl rfl (by omega) ?_ | refine l_indexAddrN rfl Try.underlying23 (by first | exact sz_23) rfl rfl (by omega) ?_ | refine l_indexAddr rfl Try.underlying23 (by first | exact sz_23) rfl rfl (by omega) (by omega) ?_
  refine l_load rfl plain26 rfl (by assumption) ?_
  refine l_move rfl rfl ?_
  first | refine l_indexAddr1 rfl Try.underlying26 (by first | exact sz_26) rfl rfl (by omega) ?_ | refine l_indexAddrN rfl Try.underlying26 (by first | exact sz_26) rfl rfl (by omega) ?_ | refine l_indexAddr rfl Try.underlying26 (by first | exact sz_26) rfl rfl (by omega) (by omega) ?_
  refine l_load rfl plain3 rfl (by assumption) ?_
  first | refine l_indexAddr1 rfl Try.underlying23 (by first | exact sz_23) rfl rfl (by omega) ?_ | refine l_indexAddrN rfl Try.underlying23 (by first | exact sz_23) rfl rfl (by omega) ?_ | refine l_indexAddr rfl Try.underlying23 (by first | exact sz_23) rfl rfl (by omega) (by omega) ?_
  refine l_load rfl plain26 rfl (by assumption) ?_
  refine l_assign rfl rfl ?_
  refine l_nil ?_
  clear q q2 q3 htr
  refine c_seq ?_
  refine c_region ?_
  refine l_assign rfl rfl ?_
  refine l_nil ?_
  obtain ⟨to, hto⟩ : ∃ to, to = g[x] := ⟨_, rfl⟩
  have hgD : g.getD x [] = to := by rw [hto, getD_get [] hxg]
  have hxi : ofF gs x = i := ofF_eq hgs.1.nd hi (by rw [← hre, hxe]; exact List.getElem_mem hk)
  have toOk : ∀ {arr w}, St w0 (pt osN (.slice (some ⟨ob, 0, none⟩) gs.length gs.length) arr :: pt osN (.slice (some ⟨ib, 0, none⟩) g.length g.length) (ofA g.length gs) :: pt (rs (rs kN)) (.slice (some al) gs.length cl) gs :: pt rsII (.slice (some ag) g.length c) g :: pt rsI (.slice At to.length ct) to :: L) w → ∀ t (ht : t < to.length), ∃ ar, At = some ar ∧ w.cell? (ar.add t) = some (.int .i64 to[t]) := fun {arr w} h t ht => by
    obtain ⟨ar, rfl⟩ := (h.re [4]).rsN_ad rfl ht
    exact ⟨ar, rfl, ((h.re [4]).rsI_at ht).1⟩
  rw [← hto] at h4 htb ht1
  replace h : St w0 (pt osN (.slice (some ⟨ob, 0, none⟩) gs.length gs.length) arr :: pt osN (.slice (some ⟨ib, 0, none⟩) g.length g.length) (ofA g.length gs) :: pt (rs (rs kN)) (.slice (some al) gs.length cl) gs :: pt rsII (.slice (some ag) g.length c) g :: pt rsI (.slice At to.length ct) to :: L) w := h4.re [2, 3, 4, 1, 0]
  clear h4
  rw [← hto]
  refine c_block ?_
  refine c_loop' (fun m4 env w => ∃ (t : Nat) (arr : List Nat), t + m4 = to.length ∧ RInv gs Lv r i (GUp g row k t x) arr ∧ env = [(0, .slice (some ag) g.length c), (3, .slice (some al) gs.length cl), (4, .slice (some ⟨ib, 0, none⟩) g.length g.length), (7, .slice (some ⟨ob, 0, none⟩) gs.length gs.length), (8, .int .i64 (r : Int)), (9, .int .i64 (i : Int)), (10, .int .i64 (k : Int)), (11, .slice At to.length ct), (12, .int .i64 (t : Int))] ∧ St w0 (pt osN (.slice (some ⟨ob, 0, none⟩) gs.length gs.length) arr :: pt osN (.slice (some ⟨ib, 0, none⟩) g.length g.length) (ofA g.length gs) :: pt (rs (rs kN)) (.slice (some al) gs.length cl) gs :: pt rsII (.slice (some ag) g.length c) g :: pt rsI (.slice At to.length ct) to :: L) w) to.length [(0, .slice (some ag) g.length c), (3, .slice (some al) gs.length cl), (4, .slice (some ⟨ib, 0, none⟩) g.length g.length), (7, .slice (some ⟨ob, 0, none⟩) gs.length gs.length), (8, .int .i64 (r : Int)), (9, .int .i64 (i : Int)), (10, .int .i64 (k : Int)), (11, .slice At to.length ct), (12, .int .i64 ((0 : Nat) : Int))] ⟨rfl, rfl, rfl, rfl, rfl, rfl, rfl, rfl, rfl, trivial⟩ ⟨0, _, by omega, hI.congr (gup_move g row), rfl, h⟩ ?_
  clear h hI arr
  rintro m4 env w ⟨t, arr, htm, hI, rfl, h⟩
  refine c_seq ?_
  refine c_seq ?_
  refine c_region ?_
  refine l_move rfl rfl ?_
  refine l_move rfl rfl ?_
  first | refine l_len rfl Try.underlying26 rfl ?_ | refine l_len_string rfl Try.underlying26 rfl ?_
  first | refine l_lss rfl rfl rfl ?_ | refine l_slss rfl rfl rfl ?_
  refine l_nil ?_
  refine c_if _ rfl (fun hc4 => ?_) (fun hc4 => ?_)
  rotate_left
  · refine c_exit ?_
    have ht : t = to.length := by omega
    subst ht
    refine c_region ?_
    refine l_move rfl rfl ?_
    first | refine l_addr rfl rfl rfl (by omega) (by omega) ?_ | refine l_sadd rfl rfl rfl (by omega) ?_
    refine l_assign rfl rfl ?_
    refine l_nil ?_
    refine ⟨m3 - 1, [(0, .slice (some ag) g.length c), (3, .slice (some al) gs.length cl), (4, .slice (some ⟨ib, 0, none⟩) g.length g.length), (7, .slice (some ⟨ob, 0, none⟩) gs.length gs.length), (8, .int .i64 (r : Int)), (9, .int .i64 (i : Int)), (10, .int .i64 ((k + 1 : Nat) : Int))], by omega, ⟨rfl, rfl, rfl, rfl, rfl, rfl, rfl, trivial⟩, k + 1, _, by omega, hI.congr (fun x' y' hq => ?_), rfl, (h.re [4]).drop⟩
    rw [← hgD]
    exact gup_end g row hk hxe.symm x' y' hq
  refine c_skip ?_
  have ht : t < to.length := by omega
  obtain ⟨b, hb⟩ : ∃ b, b = to[t] := ⟨_, rfl⟩
  have htD : t < (g.getD x []).length := by rw [hgD]; exact ht
  have hbD : (g.getD x [])[t] = b := by rw [hb]; congr 1
  obtain ⟨ar, rfl, q⟩ := toOk h t ht
  have hbb := ((h.re [4]).rsI_at ht).2
  rw [← hb] at q hbb
  obtain ⟨hb1, hb2⟩ := hbb
  refine c_seqS [(0, .slice (some ag) g.length c), (3, .slice (some al) gs.length cl), (4, .slice (some ⟨ib, 0, none⟩) g.length g.length), (7, .slice (some ⟨ob, 0, none⟩) gs.length gs.length), (8, .int .i64 (r : Int)), (9, .int .i64 (i : Int)), (10, .int .i64 (k : Int)), (11, .slice (some ar) to.length ct), (12, .int .i64 (t : Int))] (fun w => ∃ arr, RInv gs Lv r i (GUp g row k (t + 1) x) arr ∧ St w0 (pt osN (.slice (some ⟨ob, 0, none⟩) gs.length gs.length) arr :: pt osN (.slice (some ⟨ib, 0, none⟩) g.length g.length) (ofA g.length gs) :: pt (rs (rs kN)) (.slice (some al) gs.length cl) gs :: pt rsII (.slice (some ag) g.length c) g :: pt rsI (.slice (some ar) to.length ct) to :: L) w) ?_ ?_
  rotate_left
  · clear h hI arr q
    rintro w ⟨arr, hI, h⟩
    refine c_region ?_
    refine l_move rfl rfl ?_
    first | refine l_addr rfl rfl rfl (by omega) (by omega) ?_ | refine l_sadd rfl rfl rfl (by omega) ?_
    refine l_assign rfl rfl ?_
    refine l_nil ?_
    exact ⟨m4 - 1, [(0, .slice (some ag) g.length c), (3, .slice (some al) gs.length cl), (4, .slice (some ⟨ib, 0, none⟩) g.length g.length), (7, .slice (some ⟨ob, 0, none⟩) gs.length gs.length), (8, .int .i64 (r : Int)), (9, .int .i64 (i : Int)), (10, .int .i64 (k : Int)), (11, .slice (some ar) to.length ct), (12, .int .i64 ((t + 1 : Nat) : Int))], by omega, ⟨rfl, rfl, rfl, rfl, rfl, rfl, rfl, rfl, rfl, trivial⟩, t + 1, _, by omega, hI, rfl, h⟩
  refine c_block ?_
  have small : ∀ {arr w}, RInv gs Lv r i (GUp g row k (t + 1) x) arr → St w0 (pt osN (.slice (some ⟨ob, 0, none⟩) gs.length gs.length) arr :: pt osN (.slice (some ⟨ib, 0, none⟩) g.length g.length) (ofA g.length gs) :: pt (rs (rs kN)) (.slice (some al) gs.length cl) gs :: pt rsII (.slice (some ag) g.length c) g :: pt rsI (.slice (some ar) to.length ct) to :: L) w → ∃ arr, RInv gs Lv r i (GUp g row k (t + 1) x) arr ∧ St w0 (pt osN (.slice (some ⟨ob, 0, none⟩) gs.length gs.length) arr :: pt osN (.slice (some ⟨ib, 0, none⟩) g.length g.length) (ofA g.length gs) :: pt (rs (rs kN)) (.slice (some al) gs.length cl) gs :: pt rsII (.slice (some ag) g.length c) g :: pt rsI (.slice (some ar) to.length ct) to :: L) w := fun {arr w} a b => ⟨arr, a, b⟩
  refine c_seq ?_
  refine c_region ?_
  by_cases hb0 : b ≥ 0
  rotate_left
  · skip
    refine l_move rfl rfl ?_
    refine l_move rfl rfl ?_
    first | refine l_indexAddr1 rfl Try.underlying26 (by first | exact sz_26) rfl rfl (by omega) ?_ | refine l_indexAddrN rfl Try.underlying26 (by first | exact sz_26) rfl rfl (by omega) ?_ | refine l_indexAddr rfl Try.underlying26 (by first | exact sz_26) rfl rfl (by omega) (by omega) ?_
    refine l_load rfl plain3 rfl (by assumption) ?_
    refine l_geq rfl rfl rfl ?_
    refine l_set 87 (.bool false) rfl (vF (by omega)) ?_
    refine l_move rfl rfl ?_
    first | (refine l_yes rfl rfl ?_; first | refine l_move rfl rfl ?_) | refine l_no rfl rfl rfl rfl ?_ | refine l_no' rfl rfl rfl ?_
    first | (refine l_yes rfl rfl ?_; first | refine l_move rfl rfl ?_) | refine l_no rfl rfl rfl rfl ?_ | refine l_no' rfl rfl rfl ?_
    first | (refine l_yes rfl rfl ?_; first | refine l_indexAddr1 rfl Try.underlying26 (by first | exact sz_26) rfl rfl (by omega) ?_ | refine l_indexAddrN rfl Try.underlying26 (by first | exact sz_26) rfl rfl (by omega) ?_ | refine l_indexAddr rfl Try.underlying26 (by first | exact sz_26) rfl rfl (by omega) (by omega) ?_) | refine l_no rfl rfl rfl rfl ?_ | refine l_no' rfl rfl rfl ?_
    first | (refine l_yes rfl rfl ?_; first | refine l_load rfl plain3 rfl (by assumption) ?_) | refine l_no rfl rfl rfl rfl ?_ | refine l_no' rfl rfl rfl ?_
    first | (refine l_yes rfl rfl ?_; first | refine l_move rfl rfl ?_) | refine l_no rfl rfl rfl rfl ?_ | refine l_no' rfl rfl rfl ?_
    first | (refine l_yes rfl rfl ?_; first | refine l_len rfl Try.underlying23 rfl ?_ | refine l_len_string rfl Try.underlying23 rfl ?_) | refine l_no rfl rfl rfl rfl ?_ | refine l_no' rfl rfl rfl ?_
    first | (refine l_yes rfl rfl ?_; first | refine l_lss rfl rfl rfl ?_ | refine l_slss rfl rfl rfl ?_) | refine l_no rfl rfl rfl rfl ?_ | refine l_no' rfl rfl rfl ?_
    refine l_pick rfl rfl rfl ?_
    refine l_move rfl rfl ?_
    first | (refine l_yes rfl rfl ?_; first | refine l_move rfl rfl ?_) | refine l_no rfl rfl rfl rfl ?_ | refine l_no' rfl rfl rfl ?_
    first | (refine l_yes rfl rfl ?_; first | refine l_move rfl rfl ?_) | refine l_no rfl rfl rfl rfl ?_ | refine l_no' rfl rfl rfl ?_
    first | (refine l_yes rfl rfl ?_; first | refine l_move rfl rfl ?_) | refine l_no rfl rfl rfl rfl ?_ | refine l_no' rfl rfl rfl ?_
    first | (refine l_yes rfl rfl ?_; first | refine l_indexAddr1 rfl Try.underlying26 (by first | exact sz_26) rfl rfl (by omega) ?_ | refine l_indexAddrN rfl Try.underlying26 (by first | exact sz_26) rfl rfl (by omega) ?_ | refine l_indexAddr rfl Try.underlying26 (by first | exact sz_26) rfl rfl (by omega) (by omega) ?_) | refine l_no rfl rfl rfl rfl ?_ | refine l_no' rfl rfl rfl ?_
    first | (refine l_yes rfl rfl ?_; first | refine l_load rfl plain3 rfl (by assumption) ?_) | refine l_no rfl rfl rfl rfl ?_ | refine l_no' rfl rfl rfl ?_
    first | (refine l_yes rfl rfl ?_; first | refine l_indexAddr1 rfl Try.underlying26 (by first | exact sz_26) rfl rfl (by omega) ?_ | refine l_indexAddrN rfl Try.underlying26 (by first | exact sz_26) rfl rfl (by omega) ?_ | refine l_indexAddr rfl Try.underlying26 (by first | exact sz_26) rfl rfl (by omega) (by omega) ?_) | refine l_no rfl rfl rfl rfl ?_ | refine l_no' rfl rfl rfl ?_
    first | (refine l_yes rfl rfl ?_; first | refine l_load rfl plain3 rfl (by assumption) ?_) | refine l_no rfl rfl rfl rfl ?_ | refine l_no' rfl rfl rfl ?_
    first | (refine l_yes rfl rfl ?_; first | refine l_move rfl rfl ?_) | refine l_no rfl rfl rfl rfl ?_ | refine l_no' rfl rfl rfl ?_
    first | (refine l_yes rfl rfl ?_; first | refine l_neq rfl rfl rfl ?_ | refine l_sneq rfl rfl rfl ?_) | refine l_no rfl rfl rfl rfl ?_ | refine l_no' rfl rfl rfl ?_
    refine l_pick rfl rfl rfl ?_
    refine l_nil ?_
    refine c_condF rfl ?_
    refine c_skip ?_
    exact ⟨⟨rfl, rfl, rfl, rfl, rfl, rfl, rfl, rfl, rfl, trivial⟩, arr, hI.congr (fun x' y' hq => gup_skip g row htD (by rw [hbD]; omega) x' y' hq), h⟩
  by_cases hbn : b < (g.length : Int)
  rotate_left
  · skip
    refine l_move rfl rfl ?_
    refine l_move rfl rfl ?_
    first | refine l_indexAddr1 rfl Try.underlying26 (by first | exact sz_26) rfl rfl (by omega) ?_ | refine l_indexAddrN rfl Try.underlying26 (by first | exact sz_26) rfl rfl (by omega) ?_ | refine l_indexAddr rfl Try.underlying26 (by first | exact sz_26) rfl rfl (by omega) (by omega) ?_
    refine l_load rfl plain3 rfl (by assumption) ?_
    refine l_geq rfl rfl rfl ?_
    refine l_set 87 (.bool true) rfl (vT (by omega)) ?_
    refine l_move rfl rfl ?_
    first | (refine l_yes rfl rfl ?_; first | refine l_move rfl rfl ?_) | refine l_no rfl rfl rfl rfl ?_ | refine l_no' rfl rfl rfl ?_
    first | (refine l_yes rfl rfl ?_; first | refine l_move rfl rfl ?_) | refine l_no rfl rfl rfl rfl ?_ | refine l_no' rfl rfl rfl ?_
    first | (refine l_yes rfl rfl ?_; first | refine l_indexAddr1 rfl Try.underlying26 (by first | exact sz_26) rfl rfl (by omega) ?_ | refine l_indexAddrN rfl Try.underlying26 (by first | exact sz_26) rfl rfl (by omega) ?_ | refine l_indexAddr rfl Try.underlying26 (by first | exact sz_26) rfl rfl (by omega) (by omega) ?_) | refine l_no rfl rfl rfl rfl ?_ | refine l_no' rfl rfl rfl ?_
    first | (refine l_yes rfl rfl ?_; first | refine l_load rfl plain3 rfl (by assumption) ?_) | refine l_no rfl rfl rfl rfl ?_ | refine l_no' rfl rfl rfl ?_
    first | (refine l_yes rfl rfl ?_; first | refine l_move rfl rfl ?_) | refine l_no rfl rfl rfl rfl ?_ | refine l_no' rfl rfl rfl ?_
    first | (refine l_yes rfl rfl ?_; first | refine l_len rfl Try.underlying23 rfl ?_ | refine l_len_string rfl Try.underlying23 rfl ?_) | refine l_no rfl rfl rfl rfl ?_ | refine l_no' rfl rfl rfl ?_
    first | (refine l_yes rfl rfl ?_; first | refine l_lss rfl rfl rfl ?_ | refine l_slss rfl rfl rfl ?_) | refine l_no rfl rfl rfl rfl ?_ | refine l_no' rfl rfl rfl ?_
    refine l_set 95 (.bool false) rfl (vF (by omega)) ?_
    refine l_pick rfl rfl rfl ?_
    refine l_move rfl rfl ?_
    first | (refine l_yes rfl rfl ?_; first | refine l_move rfl rfl ?_) | refine l_no rfl rfl rfl rfl ?_ | refine l_no' rfl rfl rfl ?_
    first | (refine l_yes rfl rfl ?_; first | refine l_move rfl rfl ?_) | refine l_no rfl rfl rfl rfl ?_ | refine l_no' rfl rfl rfl ?_
    first | (refine l_yes rfl rfl ?_; first | refine l_move rfl rfl ?_) | refine l_no rfl rfl rfl rfl ?_ | refine l_no' rfl rfl rfl ?_
    first | (refine l_yes rfl rfl ?_; first | refine l_indexAddr1 rfl Try.underlying26 (by first | exact sz_26) rfl rfl (by omega) ?_ | refine l_indexAddrN rfl Try.underlying26 (by first | exact sz_26) rfl rfl (by omega) ?_ | refine l_indexAddr rfl Try.underlying26 (by first | exact sz_26) rfl rfl (by omega) (by omega) ?_) | refine l_no rfl rfl rfl rfl ?_ | refine l_no' rfl rfl rfl ?_
    first | (refine l_yes rfl rfl ?_; first | refine l_load rfl plain3 rfl (by assumption) ?_) | refine l_no rfl rfl rfl rfl ?_ | refine l_no' rfl rfl rfl ?_
    first | (refine l_yes rfl rfl ?_; first | refine l_indexAddr1 rfl Try.underlying26 (by first | exact sz_26) rfl rfl (by omega) ?_ | refine l_indexAddrN rfl Try.underlying26 (by first | exact sz_26) rfl rfl (by omega) ?_ | refine l_indexAddr rfl Try.underlying26 (by first | exact sz_26) rfl rfl (by omega) (by omega) ?_) | refine l_no rfl rfl rfl rfl ?_ | refine l_no' rfl rfl rfl ?_
    first | (refine l_yes rfl rfl ?_; first | refine l_load rfl plain3 rfl (by assumption) ?_) | refine l_no rfl rfl rfl rfl ?_ | refine l_no' rfl rfl rfl ?_
    first | (refine l_yes rfl rfl ?_; first | refine l_move rfl rfl ?_) | refine l_no rfl rfl rfl rfl ?_ | refine l_no' rfl rfl rfl ?_
    first | (refine l_yes rfl rfl ?_; first | refine l_neq rfl rfl rfl ?_ | refine l_sneq rfl rfl rfl ?_) | refine l_no rfl rfl rfl rfl ?_ | refine l_no' rfl rfl rfl ?_
    refine l_pick rfl rfl rfl ?_
    refine l_nil ?_
    refine c_condF rfl ?_
    refine c_skip ?_
    exact ⟨⟨rfl, rfl, rfl, rfl, rfl, rfl, rfl, rfl, rfl, trivial⟩, arr, hI.congr (fun x' y' hq => gup_skip g row htD (by rw [hbD]; omega) x' y' hq), h⟩
  obtain ⟨y, rfl⟩ : ∃ y : Nat, b = (y : Int) := ⟨b.toNat, by omega⟩
  have hy : y < g.length := by omega
  have hol := ofA_len g.length gs
  have hay := ofF_lt hgs.1 hy
  have egy := ofA_get (gs := gs) hy
  obtain ⟨z, hz⟩ : ∃ z, z = ofF gs y := ⟨_, rfl⟩
  rw [← hz] at hay egy
  have q5 := ((h.re [1]).osN_at (i := y) (by omega)).1
  rw [egy] at q5
  have hup := gup_take g row (k := k) htD hbD
  have hxy : EdgG g x y := ⟨hxg, hy, by rw [hgD, hb]; exact List.getElem_mem ht⟩
  refine l_move rfl rfl ?_
  refine l_move rfl rfl ?_
  first | refine l_indexAddr1 rfl Try.underlying26 (by first | exact sz_26) rfl rfl (by omega) ?_ | refine l_indexAddrN rfl Try.underlying26 (by first | exact sz_26) rfl rfl (by omega) ?_ | refine l_indexAddr rfl Try.underlying26 (by first | exact sz_26) rfl rfl (by omega) (by omega) ?_
  refine l_load rfl plain3 rfl (by assumption) ?_
  refine l_geq rfl rfl rfl ?_
  refine l_set 87 (.bool true) rfl (vT (by omega)) ?_
  refine l_move rfl rfl ?_
  first | (refine l_yes rfl rfl ?_; first | refine l_move rfl rfl ?_) | refine l_no rfl rfl rfl rfl ?_ | refine l_no' rfl rfl rfl ?_
  first | (refine l_yes rfl rfl ?_; first | refine l_move rfl rfl ?_) | refine l_no rfl rfl rfl rfl ?_ | refine l_no' rfl rfl rfl ?_
  first | (refine l_yes rfl rfl ?_; first | refine l_indexAddr1 rfl Try.underlying26 (by first | exact sz_26) rfl rfl (by omega) ?_ | refine l_indexAddrN rfl Try.underlying26 (by first | exact sz_26) rfl rfl (by omega) ?_ | refine l_indexAddr rfl Try.underlying26 (by first | exact sz_26) rfl rfl (by omega) (by omega) ?_) | refine l_no rfl rfl rfl rfl ?_ | refine l_no' rfl rfl rfl ?_
  first | (refine l_yes rfl rfl ?_; first | refine l_load rfl plain3 rfl (by assumption) ?_) | refine l_no rfl rfl rfl rfl ?_ | refine l_no' rfl rfl rfl ?_
  first | (refine l_yes rfl rfl ?_; first | refine l_move rfl rfl ?_) | refine l_no rfl rfl rfl rfl ?_ | refine l_no' rfl rfl rfl ?_
  first | (refine l_yes rfl rfl ?_; first | refine l_len rfl Try.underlying23 rfl ?_ | refine l_len_string rfl Try.underlying23 rfl ?_) | refine l_no rfl rfl rfl rfl ?_ | refine l_no' rfl rfl rfl ?_
  first | (refine l_yes rfl rfl ?_; first | refine l_lss rfl rfl rfl ?_ | refine l_slss rfl rfl rfl ?_) | refine l_no rfl rfl rfl rfl ?_ | refine l_no' rfl rfl rfl ?_
  refine l_set 95 (.bool true) rfl (vT (by omega)) ?_
  refine l_pick rfl rfl rfl ?_
  refine l_move rfl rfl ?_
  first | (refine l_yes rfl rfl ?_; first | refine l_move rfl rfl ?_) | refine l_no rfl rfl rfl rfl ?_ | refine l_no' rfl rfl rfl ?_
  first | (refine l_yes rfl rfl ?_; first | refine l_move rfl rfl ?_) | refine l_no rfl rfl rfl rfl ?_ | refine l_no' rfl rfl rfl ?_
  first | (refine l_yes rfl rfl ?_; first | refine l_move rfl rfl ?_) | refine l_no rfl rfl rfl rfl ?_ | refine l_no' rfl rfl rfl ?_
  first | (refine l_yes rfl rfl ?_; first | refine l_indexAddr1 rfl Try.underlying26 (by first | exact sz_26) rfl rfl (by omega) ?_ | refine l_indexAddrN rfl Try.underlying26 (by first | exact sz_26) rfl rfl (by omega) ?_ | refine l_indexAddr rfl Try.underlying26 (by first | exact sz_26) rfl rfl (by omega) (by omega) ?_) | refine l_no rfl rfl rfl rfl ?_ | refine l_no' rfl rfl rfl ?_
  first | (refine l_yes rfl rfl ?_; first | refine l_load rfl plain3 rfl (by assumption) ?_) | refine l_no rfl rfl rfl rfl ?_ | refine l_no' rfl rfl rfl ?_
  first | (refine l_yes rfl rfl ?_; first | refine l_indexAddr1 rfl Try.underlying26 (by first | exact sz_26) rfl rfl (by omega) ?_ | refine l_indexAddrN rfl Try.underlying26 (by first | exact sz_26) rfl rfl (by omega) ?_ | refine l_indexAddr rfl Try.underlying26 (by first | exact sz_26) rfl rfl (by omega) (by omega) ?_) | refine l_no rfl rfl rfl rfl ?_ | refine l_no' rfl rfl rfl ?_
  first | (refine l_yes rfl rfl ?_; first | refine l_load rfl plain3 rfl (by assumption) ?_) | refine l_no rfl rfl rfl rfl ?_ | refine l_no' rfl rfl rfl ?_
  first | (refine l_yes rfl rfl ?_; first | refine l_move rfl rfl ?_) | refine l_no rfl rfl rfl rfl ?_ | refine l_no' rfl rfl rfl ?_
  first | (refine l_yes rfl rfl ?_; first | refine l_neq rfl rfl rfl ?_ | refine l_sneq rfl rfl rfl ?_) | refine l_no rfl rfl rfl rfl ?_ | refine l_no' rfl rfl rfl ?_
  by_cases hzi : z = i
  · refine l_set 106 (.bool false) rfl (by simp [hzi]) ?_
    refine l_pick rfl rfl rfl ?_
    refine l_nil ?_
    refine c_condF rfl ?_
    refine c_skip ?_
    exact ⟨⟨rfl, rfl, rfl, rfl, rfl, rfl, rfl, rfl, rfl, trivial⟩, arr, (hI.skip (x0 := x) (y0 := y) (by rw [← hz, hzi])).congr hup, h⟩
  refine l_set 106 (.bool true) rfl (by simp; omega) ?_
  refine l_pick rfl rfl rfl ?_
  refine l_nil ?_
  refine c_condT rfl ?_
  clear q q5
  have hbel : Bel g gs i z := ⟨fun e => hzi e.symm, x, y, hxy, hxi, hz.symm⟩
  have hLz := (hLv i).1 z hbel
  have hal := hI.len
  have hup2 := hI.up i
  have hupz := hI.up z
  have hLi := hLb i
  refine c_draw (by kernel_rfl) (fun w1 W => W = w1) (fun i => ([6, 7, 8, 9, 10, 11, 12, 13, 14, 15, 16] : List Nat).contains i) [.p 0 [], .p 1 [], .p 2 [], .p 3 [], .p 4 [], .q 5 [17, 18, 19], .p 6 [], .p 7 [], .p 8 [], .p 9 [], .p 10 [], .q 11 [12, 13, 14, 15, 16, 17, 18, 19], .p 12 [], .q 13 [14, 15, 16, 17, 18, 19], .p 14 [], .q 15 [16, 17, 18, 19], .p 16 [], .p 17 [], .p 18 [], .x 19] (by kernel_rfl) rfl (by kernel_rfl) h ?_
  clear h; intro w h hw
  clear hw
  obtain ⟨q1, -⟩ := h.osN_at (i := i) (by omega)
  obtain ⟨q2, -⟩ := h.osN_at (i := z) (by omega)
  obtain ⟨_, hA, q3⟩ := toOk h t ht
  cases hA
  rw [← hb] at q3
  have q4 := ((h.re [1]).osN_at (i := y) (by omega)).1
  rw [egy] at q4
  have e1 : arr[i]'(by omega) = lvAt arr i := (getD_get 0 (by omega)).symm
  have e2 : arr[z]'(by omega) = lvAt arr z := (getD_get 0 (by omega)).symm
  rw [e1] at q1
  rw [e2] at q2
  refine d_val rfl rfl (e_move rfl) ?_
  refine d_val rfl rfl (e_move rfl) ?_
  refine d_val rfl rfl (e_move rfl) ?_
  refine d_val rfl rfl (e_move rfl) ?_
  first | refine d_val rfl rfl (e_indexAddr1 Try.underlying26 (by first | exact sz_26) rfl rfl (by omega)) ?_ | refine d_val rfl rfl (e_indexAddrN Try.underlying26 (by first | exact sz_26) rfl rfl (by omega)) ?_ | refine d_val rfl rfl (e_indexAddr Try.underlying26 (by first | exact sz_26) rfl rfl (by omega) (by omega)) ?_
  refine d_load1 rfl rfl plain3 rfl (by assumption) ?_
  refine d_val rfl rfl (e_move rfl) ?_
  refine d_val rfl rfl (e_move rfl) ?_
  refine d_val rfl rfl (e_move rfl) ?_
  refine d_val rfl rfl (e_move rfl) ?_
  first | refine d_val rfl rfl (e_indexAddr1 Try.underlying26 (by first | exact sz_26) rfl rfl (by omega)) ?_ | refine d_val rfl rfl (e_indexAddrN Try.underlying26 (by first | exact sz_26) rfl rfl (by omega)) ?_ | refine d_val rfl rfl (e_indexAddr Try.underlying26 (by first | exact sz_26) rfl rfl (by omega) (by omega)) ?_
  refine d_load1 rfl rfl plain3 rfl (by assumption) ?_
  first | refine d_val rfl rfl (e_indexAddr1 Try.underlying26 (by first | exact sz_26) rfl rfl (by omega)) ?_ | refine d_val rfl rfl (e_indexAddrN Try.underlying26 (by first | exact sz_26) rfl rfl (by omega)) ?_ | refine d_val rfl rfl (e_indexAddr Try.underlying26 (by first | exact sz_26) rfl rfl (by omega) (by omega)) ?_
  refine d_load1 rfl rfl plain3 rfl (by assumption) ?_
  first | refine d_val rfl rfl (e_indexAddr1 Try.underlying26 (by first | exact sz_26) rfl rfl (by omega)) ?_ | refine d_val rfl rfl (e_indexAddrN Try.underlying26 (by first | exact sz_26) rfl rfl (by omega)) ?_ | refine d_val rfl rfl (e_indexAddr Try.underlying26 (by first | exact sz_26) rfl rfl (by omega) (by omega)) ?_
  refine d_load1 rfl rfl plain3 rfl (by assumption) ?_
  first | refine d_val rfl rfl (e_addr rfl rfl (by omega) (by omega)) ?_ | refine d_val rfl rfl (e_sadd rfl rfl (by omega)) ?_
  refine d_same 124 (.int .i64 ((lvAt arr z + 1 : Nat) : Int)) rfl rfl ?_
  refine d_val rfl rfl (e_max rfl rfl) ?_
  refine d_same 125 (.int .i64 ((max (lvAt arr i) (lvAt arr z + 1) : Nat) : Int)) rfl (max_nat _ _) ?_
  first | refine d_val rfl rfl (e_indexAddr1 Try.underlying26 (by first | exact sz_26) rfl rfl (by omega)) ?_ | refine d_val rfl rfl (e_indexAddrN Try.underlying26 (by first | exact sz_26) rfl rfl (by omega)) ?_ | refine d_val rfl rfl (e_indexAddr Try.underlying26 (by first | exact sz_26) rfl rfl (by omega) (by omega)) ?_
  refine d_step rfl ?_
  refine l_storeE plain3 rfl rfl rfl rfl (by omega) ((h.addNat (max (lvAt arr i) (lvAt arr z + 1)) (by omega)).re [1, 0]) ?_
  clear h q1 q2 q3 q4; intro w h
  refine l_nil ⟨fun hf => (nomatch hf), ?_⟩
  refine d_nil ?_
  refine ⟨⟨rfl, rfl, rfl, rfl, rfl, rfl, rfl, rfl, rfl, trivial⟩, _, (hI.add hi (x0 := x) (y0 := y) (by rw [← hz]; exact hay) (by rw [← hz]; exact hLz)).congr hup, ?_⟩
  rw [← hz]
  exact h
end Go.Proofs.Ythamopcfpmkbfaa
