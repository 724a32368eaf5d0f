/- wave.Levels. No condition but that the graph is small. -/
import Derived.Test.YthamopcfpmkbfaaGB
import Derived.Test.YthamopcfpmkbfaaPX
set_option linter.unusedVariables false
set_option linter.unusedSimpArgs false
namespace Go.Proofs.Ythamopcfpmkbfaa
open Go.Proofs.Fw
variable {w0 w : World} {L : List Res}
theorem max_nat (a b : Nat) : Value.int .i64 (if ((b : Nat) : Int) > (a : Int) then ((b : Nat) : Int) else (a : Int)) = .int .i64 ((max a b : Nat) : Int) := by
  congr 1
  split <;> omega
theorem getD_get {α : Type} {l : List α} {i : Nat} (d : α) (h : i < l.length) : l.getD i d = l[i] := by simp [List.getD_eq_getElem?_getD, h]
set_option maxRecDepth 4000 in
theorem levels_calls {g : List (List Int)} {gs : List (List Nat)} {Lv : Nat → Nat} (hgs : Grp g gs) (hLv : LvG g gs Lv) (gv : Value) (hn : g.length ≤ 100000) (hr : ∀ r ∈ g, r.length ≤ 100000) (h : St w0 (pt rsII gv g :: L) w) :
    Calls Try.prog 22 #[gv] w (Gives w0 osN ((List.range gs.length).map Lv) (pt rsII gv g :: L)) := by
  have hgl := hgs.len
  refine f_one Try.func22 rfl Try.results22 Try.ntmps22 rfl ?_
  refine c_seq ?_
  refine c_region ?_
  refine l_assign rfl rfl ?_
  refine l_nil ?_
  refine c_seq ?_
  refine c_region ?_
  refine l_move rfl rfl ?_
  refine l_call rfl Try.func33 rfl (by decide) rfl (below_calls hgs _ hn hr h) ?_
  clear h
  rintro e w ⟨out, ov, hB, rfl, h⟩
  refine ⟨_, rfl, ?_⟩
  have hol := hB.len
  have hrlt : ∀ x (hx : x < out.length), ∀ y ∈ out[x], y < out.length := fun x hx y hy => by rw [hol]; exact hB.lt _ (List.getElem_mem hx) y hy
  obtain ⟨L', hL', hLb, hgo⟩ := levels_course hgs.1 hB.whole (by omega)
  have eL : (List.range gs.length).map L' = (List.range gs.length).map Lv := by
    apply List.map_congr_left
    intro i _
    exact lvG_unique hgs.1 hL' hLv i
  rw [eL] at hgo
  clear eL hL' hLb hB
  replace h : St w0 (pt (rs (rs kN)) ov out :: pt rsII gv g :: L) w := h.frz (os_frz (os_frz kN_pers.frz rfl) rfl)
  obtain ⟨Ao, co, rfl, ho1, ho2⟩ := h.rs_form
  refine l_assign rfl rfl ?_
  refine l_nil ?_
  refine c_seq ?_
  refine c_region ?_
  refine l_move rfl rfl ?_
  first | refine l_len rfl Try.underlying23 rfl ?_ | refine l_len_string rfl Try.underlying23 rfl ?_
  refine l_makeS (Kx := kN) (zx := 0) rfl Try.underlying26 info3 rfl ⟨rfl, Nat.zero_le _⟩ rfl rfl (by omega) (by unfold maxLen; omega) h ?_
  clear h; intro lb w h
  refine l_assign rfl rfl ?_
  refine l_nil ?_
  refine c_seq ?_
  refine c_region ?_
  refine l_move rfl rfl ?_
  first | refine l_len rfl Try.underlying23 rfl ?_ | refine l_len_string rfl Try.underlying23 rfl ?_
  refine l_makeS (Kx := kBool) (zx := false) rfl Try.underlying41 info4 rfl rfl rfl rfl (by omega) (by unfold maxLen; omega) h ?_
  clear h; intro kb w h
  refine l_assign rfl rfl ?_
  refine l_nil ?_
  refine c_seq ?_
  refine c_seq ?_
  refine c_region ?_
  refine l_move rfl rfl ?_
  first | refine l_len rfl Try.underlying23 rfl ?_ | refine l_len_string rfl Try.underlying23 rfl ?_
  refine l_move rfl rfl ?_
  refine l_nil ?_
  refine c_block ?_
  refine c_loop' (fun m env w => ∃ (i : Nat) (lv : List Nat) (kn : List Bool), i + m = out.length ∧ LGo out 10000000001 i (lv, kn) ((List.range gs.length).map Lv) ∧ env = [(3, .slice Ao out.length co), (4, .slice (some ⟨lb, 0, none⟩) out.length out.length), (5, .slice (some ⟨kb, 0, none⟩) out.length out.length), (22, .int .i64 (out.length : Int)), (23, .int .i64 (i : Int))] ∧ St w0 (pt osB (.slice (some ⟨kb, 0, none⟩) out.length out.length) kn :: pt osN (.slice (some ⟨lb, 0, none⟩) out.length out.length) lv :: pt (rs (rs kN)) (.slice Ao out.length co) out :: pt rsII gv g :: L) w) out.length [(3, .slice Ao out.length co), (4, .slice (some ⟨lb, 0, none⟩) out.length out.length), (5, .slice (some ⟨kb, 0, none⟩) out.length out.length), (22, .int .i64 (out.length : Int)), (23, .int .i64 ((0 : Nat) : Int))] ⟨rfl, rfl, rfl, rfl, rfl, trivial⟩ ⟨0, _, _, by omega, hgo, rfl, h⟩ ?_
  clear h hgo
  rintro m env w ⟨i, lv, kn, him, hgo, rfl, h⟩
  refine c_seq ?_
  refine c_region ?_
  first | refine l_lss rfl rfl rfl ?_ | refine l_slss rfl rfl rfl ?_
  refine l_nil ?_
  refine c_seq ?_
  refine c_if _ rfl (fun hc => ?_) (fun hc => ?_)
  rotate_left
  · refine c_exit ?_
    have := hgo.over (by omega)
    subst this
    refine c_seq ?_
    refine c_region ?_
    refine l_move rfl rfl ?_
    refine l_assign rfl rfl ?_
    refine l_nil ?_
    exact c_ret ⟨.inr rfl, _, rfl, _, rfl, (h.drop.re [1]).drop⟩
  refine c_skip ?_
  have hi : i < out.length := by omega
  obtain ⟨k, lv', kn', h1, h2, hrun, hgo2⟩ := hgo.head hi
  refine c_seq ?_
  refine c_block ?_
  refine c_seq ?_
  refine c_region ?_
  refine l_move rfl rfl ?_
  refine l_assign rfl rfl ?_
  refine l_nil ?_
  refine c_seq ?_
  refine c_region ?_
  refine l_move rfl rfl ?_
  refine l_buildSlice1 (x := i) rfl Try.underlying26 sz3 zero3 rfl rfl (h.addNat i (by omega)) ?_
  clear h; intro sv w h
  refine l_assign rfl rfl ?_
  refine l_nil ?_
  refine c_block ?_
  refine c_loop' (fun k env w => ∃ (sv : Value) (st lv : List Nat) (kn : List Bool), LRun out 10000000001 k (lv, kn, st) (lv', kn', []) ∧ env = [(3, .slice Ao out.length co), (4, .slice (some ⟨lb, 0, none⟩) out.length out.length), (5, .slice (some ⟨kb, 0, none⟩) out.length out.length), (7, sv), (22, .int .i64 (out.length : Int)), (23, .int .i64 (i : Int))] ∧ St w0 (pt osN sv st :: pt osB (.slice (some ⟨kb, 0, none⟩) out.length out.length) kn :: pt osN (.slice (some ⟨lb, 0, none⟩) out.length out.length) lv :: pt (rs (rs kN)) (.slice Ao out.length co) out :: pt rsII gv g :: L) w) k [(3, .slice Ao out.length co), (4, .slice (some ⟨lb, 0, none⟩) out.length out.length), (5, .slice (some ⟨kb, 0, none⟩) out.length out.length), (7, sv), (22, .int .i64 (out.length : Int)), (23, .int .i64 (i : Int))] ⟨rfl, rfl, rfl, rfl, rfl, rfl, trivial⟩ ⟨sv, [i], lv, kn, hrun, rfl, h⟩ ?_
  clear h hrun h1 h2 hgo lv kn
  rintro k env w ⟨sv, st, lv, kn, hrun, rfl, h⟩
  obtain ⟨As, cs, rfl, hs1, hs2⟩ := h.os_form
  refine c_seq ?_
  refine c_seq ?_
  refine c_region ?_
  refine l_move rfl rfl ?_
  first | refine l_len rfl Try.underlying26 rfl ?_ | refine l_len_string rfl Try.underlying26 rfl ?_
  refine l_gtr rfl rfl rfl ?_
  refine l_nil ?_
  refine c_if _ rfl (fun hc2 => ?_) (fun hc2 => ?_)
  rotate_left
  · refine c_exit ?_
    have : st = [] := List.length_eq_zero_iff.1 (by omega)
    subst this
    obtain ⟨rfl, rfl⟩ := hrun.over
    refine c_region ?_
    first | refine l_addr rfl rfl rfl (by omega) (by omega) ?_ | refine l_sadd rfl rfl rfl (by omega) ?_
    refine l_move rfl rfl ?_
    refine l_nil ?_
    exact ⟨m - 1, [(3, .slice Ao out.length co), (4, .slice (some ⟨lb, 0, none⟩) out.length out.length), (5, .slice (some ⟨kb, 0, none⟩) out.length out.length), (22, .int .i64 (out.length : Int)), (23, .int .i64 ((i + 1 : Nat) : Int))], by omega, ⟨rfl, rfl, rfl, rfl, rfl, trivial⟩, i + 1, _, _, by omega, hgo2, rfl, h.drop⟩
  refine c_skip ?_
  obtain ⟨k', l, x, rfl, rfl, hx, h1, h2, hbd, hnext⟩ := hrun.head (by intro e; subst e; simp at hc2)
  obtain ⟨row, hrow⟩ : ∃ row, row = out.getD x [] := ⟨_, rfl⟩
  have hrx : row = out[x] := by rw [hrow, getD_get [] hx]
  rw [← hrow] at hbd hnext
  have hrow2 : ∀ y ∈ row, y < out.length := by rw [hrx]; exact hrlt x hx
  have hll : (l ++ [x]).length = l.length + 1 := by simp
  have hlast : l.length < (l ++ [x]).length := by omega
  have hlx : (l ++ [x])[l.length] = x := by simp
  obtain ⟨sa, rfl⟩ := h.osN_ad rfl kN_pers hlast
  have q := (h.osN_at hlast).1
  rw [hlx] at q
  refine c_block ?_
  refine c_seq ?_
  refine c_region ?_
  refine l_move rfl rfl ?_
  refine l_move rfl rfl ?_
  first | refine l_len rfl Try.underlying26 rfl ?_ | refine l_len_string rfl Try.underlying26 rfl ?_
  refine l_subr rfl rfl rfl (by omega) (by omega) ?_
  refine l_set 34 (.int .i64 ((l.length : Nat) : Int)) rfl (by simp) ?_
  first | refine l_indexAddr1 rfl Try.underlying26 (by first | exact sz_26) rfl rfl (by omega) ?_ | refine l_indexAddrN rfl Try.underlying26 (by first | exact sz_26) rfl rfl (by omega) ?_ | refine l_indexAddr rfl Try.underlying26 (by first | exact sz_26) rfl rfl (by omega) (by omega) ?_
  refine l_load rfl plain3 rfl (by assumption) ?_
  refine l_assign rfl rfl ?_
  refine l_nil ?_
  clear q
  refine c_seq ?_
  refine c_region ?_
  refine l_assign rfl rfl ?_
  refine l_assign rfl rfl ?_
  refine l_nil ?_
  refine c_seq ?_
  refine c_seq ?_
  refine c_region ?_
  obtain ⟨ao, Ar, cr, rfl, q, hr1, hr2, hrr, h3⟩ := (h.re [3]).rsNN_row hx
  rw [← hrx] at q hr1 hrr h3
  refine l_move rfl rfl ?_
  refine l_move rfl rfl ?_
  first | refine l_indexAddr1 rfl Try.underlying23 (by first | exact sz_23) rfl rfl (by omega) ?_ | refine l_indexAddrN rfl Try.underlying23 (by first | exact sz_23) rfl rfl (by omega) ?_ | refine l_indexAddr rfl Try.underlying23 (by first | exact sz_23) rfl rfl (by omega) (by omega) ?_
  refine l_load rfl plain26 rfl (by assumption) ?_
  first | refine l_len rfl Try.underlying26 rfl ?_ | refine l_len_string rfl Try.underlying26 rfl ?_
  refine l_move rfl rfl ?_
  refine l_nil ?_
  clear q h
  refine c_block ?_
  have hrb := bound63 hr1 hr2
  refine c_loop' (fun m2 env w => ∃ (j : Nat) (sv : Value), j + m2 = row.length ∧ env = [(3, .slice (some ao) out.length co), (4, .slice (some ⟨lb, 0, none⟩) out.length out.length), (5, .slice (some ⟨kb, 0, none⟩) out.length out.length), (7, sv), (8, .int .i64 (x : Int)), (9, .int .i64 ((supL (lvAt lv) (row.take j) : Nat) : Int)), (10, .bool (unkF kn (row.take j)).isEmpty), (22, .int .i64 (out.length : Int)), (23, .int .i64 (i : Int)), (40, .slice Ar row.length cr), (41, .int .i64 (row.length : Int)), (42, .int .i64 (j : Int))] ∧ St w0 (pt osN sv (l ++ [x] ++ unkF kn (row.take j)) :: pt osB (.slice (some ⟨kb, 0, none⟩) out.length out.length) kn :: pt osN (.slice (some ⟨lb, 0, none⟩) out.length out.length) lv :: pt (rs kN) (.slice Ar row.length cr) row :: pt (rs (rs kN)) (.slice (some ao) out.length co) out :: pt rsII gv g :: L) w) row.length [(3, .slice (some ao) out.length co), (4, .slice (some ⟨lb, 0, none⟩) out.length out.length), (5, .slice (some ⟨kb, 0, none⟩) out.length out.length), (7, (.slice (some sa) (l ++ [x]).length cs)), (8, .int .i64 (x : Int)), (9, .int .i64 ((supL (lvAt lv) (row.take (0 : Nat)) : Nat) : Int)), (10, .bool (unkF kn (row.take (0 : Nat))).isEmpty), (22, .int .i64 (out.length : Int)), (23, .int .i64 (i : Int)), (40, .slice Ar row.length cr), (41, .int .i64 (row.length : Int)), (42, .int .i64 ((0 : Nat) : Int))] ⟨rfl, rfl, rfl, rfl, rfl, rfl, rfl, rfl, rfl, rfl, rfl, rfl, trivial⟩ ⟨0, _, by omega, rfl, ?_⟩ ?_
  · have e : l ++ [x] ++ unkF kn (row.take 0) = l ++ [x] := by simp [unkF]
    rw [e]
    exact h3.re [2, 3, 4, 0, 1]
  clear h3
  rintro m2 env w ⟨j, sv, hjm, rfl, h⟩
  refine c_seq ?_
  refine c_region ?_
  first | refine l_lss rfl rfl rfl ?_ | refine l_slss rfl rfl rfl ?_
  refine l_nil ?_
  refine c_seq ?_
  refine c_if _ rfl (fun hc3 => ?_) (fun hc3 => ?_)
  · refine c_skip ?_
    have hj : j < row.length := by omega
    have hy := hrow2 _ (List.getElem_mem hj)
    obtain ⟨ar, rfl, hra⟩ := hrr (by omega)
    obtain ⟨y, hye⟩ : ∃ y, y = row[j] := ⟨_, rfl⟩
    have q := ((h.re [3]).rsN_at hj).1
    rw [← hye] at q hy
    have htk : row.take (j + 1) = row.take j ++ [y] := by rw [List.take_succ_eq_append_getElem hj, hye]
    have husn := unkF_snoc kn (row.take j) y
    have hssn := supL_snoc (lvAt lv) (row.take j) y
    rw [← htk] at husn hssn
    have hkg := getD_get false (show y < kn.length by omega)
    have hlg : lvAt lv y = lv[y]'(by omega) := getD_get 0 (show y < lv.length by omega)
    have hul := unkF_len kn row
    have hulj : (unkF kn (row.take j)).length ≤ (unkF kn row).length := by
      have : unkF kn row = unkF kn (row.take j) ++ unkF kn (row.drop j) := by
        rw [show unkF kn row = unkF kn (row.take j ++ row.drop j) by rw [List.take_append_drop]]; unfold unkF; exact List.filter_append ..
      rw [this]; simp
    refine c_seq ?_
    refine c_block ?_
    refine c_seq ?_
    refine c_region ?_
    first | refine l_indexAddr1 rfl Try.underlying26 (by first | exact sz_26) rfl rfl (by omega) ?_ | refine l_indexAddrN rfl Try.underlying26 (by first | exact sz_26) rfl rfl (by omega) ?_ | refine l_indexAddr rfl Try.underlying26 (by first | exact sz_26) rfl rfl (by omega) (by omega) ?_
    refine l_load rfl plain3 rfl (by assumption) ?_
    refine l_assign rfl rfl ?_
    refine l_nil ?_
    clear q
    have qk := (h.re [1]).osB_at (i := y) (by omega)
    have ql := ((h.re [2]).osN_at (i := y) (by omega))
    refine c_seqX (fun sv : Value => [(3, .slice (some ao) out.length co), (4, .slice (some ⟨lb, 0, none⟩) out.length out.length), (5, .slice (some ⟨kb, 0, none⟩) out.length out.length), (7, sv), (8, .int .i64 (x : Int)), (9, .int .i64 ((supL (lvAt lv) (row.take j) : Nat) : Int)), (10, .bool (unkF kn (row.take (j + 1))).isEmpty), (12, .int .i64 (y : Int)), (22, .int .i64 (out.length : Int)), (23, .int .i64 (i : Int)), (40, .slice (some ar) row.length cr), (41, .int .i64 (row.length : Int)), (42, .int .i64 (j : Int))])
      (fun sv w => St w0 (pt osN sv (l ++ [x] ++ unkF kn (row.take (j + 1))) :: pt osB (.slice (some ⟨kb, 0, none⟩) out.length out.length) kn :: pt osN (.slice (some ⟨lb, 0, none⟩) out.length out.length) lv :: pt (rs kN) (.slice (some ar) row.length cr) row :: pt (rs (rs kN)) (.slice (some ao) out.length co) out :: pt rsII gv g :: L) w) ?_ ?_
    · refine c_seq ?_
      refine c_region ?_
      refine l_move rfl rfl ?_
      refine l_move rfl rfl ?_
      first | refine l_indexAddr1 rfl Try.underlying41 (by first | exact sz_41) rfl rfl (by omega) ?_ | refine l_indexAddrN rfl Try.underlying41 (by first | exact sz_41) rfl rfl (by omega) ?_ | refine l_indexAddr rfl Try.underlying41 (by first | exact sz_41) rfl rfl (by omega) (by omega) ?_
      refine l_load rfl plain4 rfl (by assumption) ?_
      refine l_not rfl rfl ?_
      refine l_nil ?_
      clear qk
      cases hk : kn[y]'(by omega) with
      | true =>
        refine c_condF rfl ?_
        refine c_skip ?_
        rw [husn, if_pos (by rw [hkg, hk])]
        exact ⟨sv, ⟨rfl, rfl, rfl, rfl, rfl, rfl, rfl, rfl, rfl, rfl, rfl, rfl, rfl, trivial⟩, h⟩
      | false =>
        refine c_condT rfl ?_
        refine c_seq ?_
        refine c_region ?_
        refine l_move rfl rfl ?_
        refine l_move rfl rfl ?_
        refine l_buildSlice1 (x := y) rfl Try.underlying26 sz3 zero3 rfl rfl (h.addNat y (by omega)) ?_
        clear h ql; intro bs w h
        refine l_append rfl Try.underlying26 info3 rfl (by decide) rfl rfl (h.re [1, 0]) (by simp only [List.length_append, List.length_cons, List.length_nil]; omega) (by simp only [List.length_append, List.length_cons, List.length_nil]; unfold maxLen; omega) ?_
        clear h; intro sv2 w h
        refine l_assign rfl rfl ?_
        refine l_nil ?_
        refine c_region ?_
        refine l_assign rfl rfl ?_
        refine l_nil ?_
        rw [husn, if_neg (by rw [hkg, hk]; simp)]
        rw [List.append_assoc] at h
        exact ⟨sv2, ⟨rfl, rfl, rfl, rfl, rfl, rfl, by simp [lk], rfl, rfl, rfl, rfl, rfl, rfl, trivial⟩, h⟩
    clear h ql sv
    intro sv w h
    obtain ⟨ql, hqb⟩ := (h.re [2]).osN_at (i := y) (by omega)
    rw [← hlg] at ql hqb
    refine c_region ?_
    refine l_move rfl rfl ?_
    refine l_move rfl rfl ?_
    refine l_move rfl rfl ?_
    first | refine l_indexAddr1 rfl Try.underlying26 (by first | exact sz_26) rfl rfl (by omega) ?_ | refine l_indexAddrN rfl Try.underlying26 (by first | exact sz_26) rfl rfl (by omega) ?_ | refine l_indexAddr rfl Try.underlying26 (by first | exact sz_26) rfl rfl (by omega) (by omega) ?_
    refine l_load rfl plain3 rfl (by assumption) ?_
    first | refine l_addr rfl rfl rfl (by omega) (by omega) ?_ | refine l_sadd rfl rfl rfl (by omega) ?_
    refine l_set 60 (.int .i64 ((lvAt lv y + 1 : Nat) : Int)) rfl rfl ?_
    refine l_max rfl rfl rfl ?_
    refine l_set 61 (.int .i64 ((max (supL (lvAt lv) (row.take j)) (lvAt lv y + 1) : Nat) : Int)) rfl (max_nat _ _) ?_
    rw [← hssn]
    refine l_assign rfl rfl ?_
    refine l_nil ?_
    refine c_region ?_
    first | refine l_addr rfl rfl rfl (by omega) (by omega) ?_ | refine l_sadd rfl rfl rfl (by omega) ?_
    refine l_move rfl rfl ?_
    refine l_nil ?_
    exact ⟨m2 - 1, [(3, .slice (some ao) out.length co), (4, .slice (some ⟨lb, 0, none⟩) out.length out.length), (5, .slice (some ⟨kb, 0, none⟩) out.length out.length), (7, sv), (8, .int .i64 (x : Int)), (9, .int .i64 ((supL (lvAt lv) (row.take (j + 1 : Nat)) : Nat) : Int)), (10, .bool (unkF kn (row.take (j + 1 : Nat))).isEmpty), (22, .int .i64 (out.length : Int)), (23, .int .i64 (i : Int)), (40, .slice (some ar) row.length cr), (41, .int .i64 (row.length : Int)), (42, .int .i64 ((j + 1 : Nat) : Int))], by omega, ⟨rfl, rfl, rfl, rfl, rfl, rfl, rfl, rfl, rfl, rfl, rfl, rfl, trivial⟩, j + 1, sv, by omega, rfl, h⟩
  · refine c_exit ?_
    have hj : j = row.length := by omega
    subst hj
    rw [List.take_length] at h ⊢
    clear hc3 hjm
    refine c_seq ?_
    refine c_region ?_
    refine l_move rfl rfl ?_
    refine l_nil ?_
    rcases hnext with ⟨hu, hsb, hrun'⟩ | ⟨hu, hrun'⟩
    · rw [hu, List.append_nil] at h
      refine c_set 63 (.bool true) rfl (by rw [hu]; rfl) ?_
      refine c_condT rfl ?_
      refine c_seq ?_
      refine c_region ?_
      refine l_move rfl rfl ?_
      refine l_move rfl rfl ?_
      refine l_move rfl rfl ?_
      refine l_move rfl rfl ?_
      refine l_move rfl rfl ?_
      first | refine l_indexAddr1 rfl Try.underlying26 (by first | exact sz_26) rfl rfl (by omega) ?_ | refine l_indexAddrN rfl Try.underlying26 (by first | exact sz_26) rfl rfl (by omega) ?_ | refine l_indexAddr rfl Try.underlying26 (by first | exact sz_26) rfl rfl (by omega) (by omega) ?_
      refine l_storeE plain3 rfl rfl rfl rfl (by omega) ((h.re [2]).addNat (supL (lvAt lv) row) (by omega) |>.re [1, 0]) ?_
      clear h; intro w h
      first | refine l_indexAddr1 rfl Try.underlying41 (by first | exact sz_41) rfl rfl (by omega) ?_ | refine l_indexAddrN rfl Try.underlying41 (by first | exact sz_41) rfl rfl (by omega) ?_ | refine l_indexAddr rfl Try.underlying41 (by first | exact sz_41) rfl rfl (by omega) (by omega) ?_
      refine l_storeE plain4 rfl rfl rfl rfl (by omega) ((h.re [2]).addBool true |>.re [1]) ?_
      clear h; intro w h
      refine l_nil ?_
      obtain ⟨As, cs, rfl, hs1, hs2⟩ := (h.re [2]).os_form' hll
      obtain ⟨sb, rfl⟩ := (h.re [2]).osN_ad rfl kN_pers hlast
      refine c_region ?_
      refine l_move rfl rfl ?_
      refine l_move rfl rfl ?_
      first | refine l_len rfl Try.underlying26 rfl ?_ | refine l_len_string rfl Try.underlying26 rfl ?_
      refine l_subr rfl rfl rfl (by omega) (by omega) ?_
      refine l_set 74 (.int .i64 ((l.length : Nat) : Int)) rfl (by simp) ?_
      refine l_slice_h rfl Try.underlying26 sz3 rfl rfl (by omega) (by omega) ?_
      refine l_assign rfl rfl ?_
      refine l_nil ?_
      have h5 := (h.re [2]).os_cut l.length (by simp)
      rw [List.take_left] at h5
      exact ⟨k', [(3, .slice (some ao) out.length co), (4, .slice (some ⟨lb, 0, none⟩) out.length out.length), (5, .slice (some ⟨kb, 0, none⟩) out.length out.length), (7, .slice (some sb) l.length cs), (22, .int .i64 (out.length : Int)), (23, .int .i64 (i : Int))], by omega, ⟨rfl, rfl, rfl, rfl, rfl, rfl, trivial⟩, _, l, _, _, hrun', rfl, (h5.re [3]).drop.re [0, 1, 2]⟩
    · have hne : (unkF kn row).isEmpty = false := by simpa using hu
      refine c_set 63 (.bool false) rfl (by rw [hne]) ?_
      refine c_condF rfl ?_
      refine c_skip ?_
      exact ⟨k', [(3, .slice (some ao) out.length co), (4, .slice (some ⟨lb, 0, none⟩) out.length out.length), (5, .slice (some ⟨kb, 0, none⟩) out.length out.length), (7, sv), (22, .int .i64 (out.length : Int)), (23, .int .i64 (i : Int))], by omega, ⟨rfl, rfl, rfl, rfl, rfl, rfl, trivial⟩, sv, _, _, _, hrun', rfl, (h.re [3]).drop⟩
end Go.Proofs.Ythamopcfpmkbfaa
