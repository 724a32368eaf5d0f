/- wave.Waves. No condition but that the graph is small. -/
import Derived.Test.YthamopcfpmkbfaaGV1
import Derived.Test.YthamopcfpmkbfaaPX
set_option linter.unusedVariables false
set_option linter.unusedSimpArgs false
namespace Go.Proofs.Ythamopcfpmkbfaa
open Go.Proofs.Fw
variable {w0 w : World} {L : List Res}
theorem lvs_get {m : Nat} {Lv : Nat → Nat} (h : ∀ i, Lv i ≤ m) (i : Nat) : ((List.range m).map Lv).getD i 0 + 1 ≤ m + 1 := by
  by_cases hi : i < m
  · rw [getD_get 0 (by simpa using hi)]; simpa using h i
  · rw [List.getD_eq_getElem?_getD, List.getElem?_eq_none (by simpa using hi)]; simp
set_option maxRecDepth 4000 in
theorem waves_calls {g : List (List Int)} {gs : List (List Nat)} {Lv : Nat → Nat} (hgs : Grp g gs) (hLv : LvG g gs Lv) (gv : Value) (hn : g.length ≤ 100000) (hr : ∀ r ∈ g, r.length ≤ 100000) (h : St w0 (pt rsII gv g :: L) w) :
    Calls Try.prog 25 #[gv] w (Gives w0 osNN (wavesF ((List.range gs.length).map Lv) gs.length) (pt rsII gv g :: L)) := by
  have hgl := hgs.len
  have hLb := lvs_get (fun i => lvG_le hgs.1 hLv i)
  have hnil : ∀ {L w}, St w0 L w → St w0 (pt osNN (.slice none 0 0) [] :: L) w := fun h => h.add (.inl ⟨rfl, rfl⟩)
  have hnil1 : ∀ {L w}, St w0 L w → St w0 (pt osN (.slice none 0 0) [] :: L) w := fun h => h.add (.inl ⟨rfl, rfl⟩)
  refine f_one Try.func25 rfl Try.results25 Try.ntmps25 rfl ?_
  refine c_seq ?_
  refine c_region ?_
  refine l_assign rfl rfl ?_
  refine l_nil ?_
  refine c_seq ?_
  refine c_region ?_
  refine l_assign rfl rfl ?_
  refine l_nil ?_
  refine c_seq ?_
  refine c_seq ?_
  refine c_region ?_
  refine l_move rfl rfl ?_
  refine l_call rfl Try.func22 rfl (by decide) rfl (levels_calls hgs hLv _ hn hr h) ?_
  clear h
  rintro e w ⟨vl, rfl, h⟩
  refine ⟨_, rfl, ?_⟩
  obtain ⟨lv, hlv⟩ : ∃ lv, lv = (List.range gs.length).map Lv := ⟨_, rfl⟩
  have hll : lv.length = gs.length := by rw [hlv]; simp
  rw [← hlv] at h hLb ⊢
  obtain ⟨Al, cl, rfl, -, -⟩ := h.os_form' hll
  first | refine l_len rfl Try.underlying26 rfl ?_ | refine l_len_string rfl Try.underlying26 rfl ?_
  refine l_move rfl rfl ?_
  refine l_nil ?_
  refine c_block ?_
  refine c_loop' (fun m env w => ∃ (i : Nat) (ov : Value), i + m = gs.length ∧ env = [(3, ov), (7, .slice Al gs.length cl), (8, .int .i64 (gs.length : Int)), (9, .int .i64 (i : Int))] ∧ St w0 (pt osNN ov (wavesF lv i) :: pt osN (.slice Al gs.length cl) lv :: pt rsII gv g :: L) w) gs.length [(3, (.slice none 0 0)), (7, .slice Al gs.length cl), (8, .int .i64 (gs.length : Int)), (9, .int .i64 ((0 : Nat) : Int))] ⟨rfl, rfl, rfl, rfl, trivial⟩ ⟨0, _, by omega, rfl, hnil h⟩ ?_
  clear h
  rintro m env w ⟨i, ov, him, rfl, h⟩
  refine c_seq ?_
  refine c_region ?_
  first | refine l_lss rfl rfl rfl ?_ | refine l_slss rfl rfl rfl ?_
  refine l_nil ?_
  refine c_seq ?_
  refine c_if _ rfl (fun hc => ?_) (fun hc => ?_)
  rotate_left
  · refine c_exit ?_
    have hi : i = gs.length := by omega
    subst hi
    refine c_seq ?_
    refine c_region ?_
    refine l_move rfl rfl ?_
    refine l_assign rfl rfl ?_
    refine l_nil ?_
    exact c_ret ⟨.inr rfl, _, rfl, _, rfl, (h.re [1]).drop⟩
  refine c_skip ?_
  have hi : i < gs.length := by omega
  obtain ⟨al, rfl⟩ := (h.re [1]).osN_ad rfl kN_pers (i := i) (by omega)
  obtain ⟨n, hn1⟩ : ∃ n, n = lv.getD i 0 := ⟨_, rfl⟩
  have hgn : lv[i]'(by omega) = n := by rw [hn1, getD_get 0 (by omega)]
  have q := ((h.re [1]).osN_at (i := i) (by omega)).1
  rw [hgn] at q
  have hnM : n ≤ gs.length := by have := hLb i; omega
  have hwl := wavesF_len hLb i
  obtain ⟨out0, hout0⟩ : ∃ o, o = wavesF lv i := ⟨_, rfl⟩
  have hrow : ∀ r ∈ out0, r.length ≤ i := fun r hr => by rw [hout0] at hr; exact wavesF_row hr
  rw [← hout0] at h hwl
  refine c_seq ?_
  refine c_block ?_
  refine c_seq ?_
  refine c_region ?_
  refine l_move rfl rfl ?_
  first | refine l_indexAddr1 rfl Try.underlying26 (by first | exact sz_26) rfl rfl (by omega) ?_ | refine l_indexAddrN rfl Try.underlying26 (by first | exact sz_26) rfl rfl (by omega) ?_ | refine l_indexAddr rfl Try.underlying26 (by first | exact sz_26) rfl rfl (by omega) (by omega) ?_
  refine l_load rfl plain3 rfl (by assumption) ?_
  refine l_assign rfl rfl ?_
  refine l_assign rfl rfl ?_
  refine l_nil ?_
  clear q
  refine c_seq ?_
  refine c_block ?_
  refine c_loop' (fun m2 env w => ∃ (ov : Value) (out : List (List Nat)), m2 = n + 1 - out.length ∧ padF out n = padF out0 n ∧ out.length ≤ gs.length + 1 ∧ env = [(3, ov), (4, .int .i64 (i : Int)), (5, .int .i64 (n : Int)), (7, .slice (some al) gs.length cl), (8, .int .i64 (gs.length : Int)), (9, .int .i64 (i : Int))] ∧ St w0 (pt osNN ov out :: pt osN (.slice (some al) gs.length cl) lv :: pt rsII gv g :: L) w) (n + 1 - out0.length) [(3, ov), (4, .int .i64 (i : Int)), (5, .int .i64 (n : Int)), (7, .slice (some al) gs.length cl), (8, .int .i64 (gs.length : Int)), (9, .int .i64 (i : Int))] ⟨rfl, rfl, rfl, rfl, rfl, rfl, trivial⟩ ⟨ov, out0, rfl, rfl, hwl, rfl, h⟩ ?_
  clear h
  rintro m2 env w ⟨ov, out, hm2, hpad, hol, rfl, h⟩
  obtain ⟨Ao, co, rfl, hc1, hc2⟩ := h.os_form
  refine c_seq ?_
  refine c_seq ?_
  refine c_region ?_
  refine l_move rfl rfl ?_
  first | refine l_len rfl Try.underlying23 rfl ?_ | refine l_len_string rfl Try.underlying23 rfl ?_
  refine l_move rfl rfl ?_
  refine l_leq rfl rfl rfl ?_
  refine l_nil ?_
  refine c_if _ rfl (fun hc3 => ?_) (fun hc3 => ?_)
  · refine c_skip ?_
    refine c_block ?_
    refine c_region ?_
    refine l_move rfl rfl ?_
    refine l_buildSlice1 (Kx := osN) (x := []) rfl Try.underlying23 sz26 zero26 rfl rfl (hnil1 h) ?_
    clear h; intro bs w h
    refine l_append rfl Try.underlying23 info26 rfl (by decide) rfl rfl (h.re [1, 0]) (by simp only [List.length_cons, List.length_nil]; omega) (by simp only [List.length_cons, List.length_nil]; unfold maxLen; omega) ?_
    clear h; intro ov2 w h
    refine l_assign rfl rfl ?_
    refine l_nil ?_
    exact ⟨n + 1 - (out ++ [[]]).length, [(3, ov2), (4, .int .i64 (i : Int)), (5, .int .i64 (n : Int)), (7, .slice (some al) gs.length cl), (8, .int .i64 (gs.length : Int)), (9, .int .i64 (i : Int))], by simp; omega, ⟨rfl, rfl, rfl, rfl, rfl, rfl, trivial⟩, ov2, _, rfl, by rw [padF_pad (by omega)]; exact hpad, by simp; omega, rfl, h⟩
  refine c_exit ?_
  have hno : n < out.length := by omega
  rw [padF_done hno] at hpad
  subst hpad
  have hrl : (padF out0 n)[n].length ≤ i := by
    rcases padF_mem (List.getElem_mem hno) with h1 | h1
    · exact hrow _ h1
    · rw [h1]; simp
  have egr : (padF out0 n).getD n [] = (padF out0 n)[n] := getD_get [] hno
  obtain ⟨ag, u0, hA, -, -⟩ := h.os_take rfl rfl n hno
  subst hA
  obtain ⟨b, cells, u, R, rfl, hcu, hs, back⟩ := St.lend (Kx := osN) rfl h n hno
  clear h
  have headOk : ∀ {R0 : Res} {L1 : List Res} {w : World}, St w0 (R0 :: blk b (.cells cells 26 (0, 0)) :: L1) w → w.cell? ((⟨b, 0, none⟩ : Addr).add n) = some u := fun {R0 L1 w} h => by
    rw [addr_add, Nat.zero_add]
    exact ((h.re [1]).blk_cell).trans hcu
  have q := headOk hs
  refine c_region ?_
  refine l_move rfl rfl ?_
  refine l_move rfl rfl ?_
  refine l_move rfl rfl ?_
  refine l_move rfl rfl ?_
  first | refine l_indexAddr1 rfl Try.underlying23 (by first | exact sz_23) rfl rfl (by omega) ?_ | refine l_indexAddrN rfl Try.underlying23 (by first | exact sz_23) rfl rfl (by omega) ?_ | refine l_indexAddr rfl Try.underlying23 (by first | exact sz_23) rfl rfl (by omega) (by omega) ?_
  refine l_load rfl plain26 rfl q ?_
  refine l_move rfl rfl ?_
  refine l_buildSlice1 (x := i) rfl Try.underlying26 sz3 zero3 rfl rfl (hs.addNat i (by omega)) ?_
  clear hs q; intro bs w h
  refine l_append rfl Try.underlying26 info3 rfl (by decide) rfl rfl (h.re [1, 0]) (by simp only [List.length_cons, List.length_nil]; omega) (by simp only [List.length_cons, List.length_nil]; unfold maxLen; omega) ?_
  clear h; intro u2 w h
  first | refine l_indexAddr1 rfl Try.underlying23 (by first | exact sz_23) rfl rfl (by omega) ?_ | refine l_indexAddrN rfl Try.underlying23 (by first | exact sz_23) rfl rfl (by omega) ?_ | refine l_indexAddr rfl Try.underlying23 (by first | exact sz_23) rfl rfl (by omega) (by omega) ?_
  have hone := pt_one h
  refine l_storeF plain26 (congrArg (fun z => some (Value.pointer (some z))) (show (⟨b, 0, none⟩ : Addr).add n = ⟨b, n, none⟩ by rw [addr_add, Nat.zero_add])) rfl hone hcu (h.re [1]) ?_
  clear h; intro w h
  refine l_nil ?_
  have h' := back u2 _ (h.re [1, 0])
  refine c_region ?_
  first | refine l_addr rfl rfl rfl (by omega) (by omega) ?_ | refine l_sadd rfl rfl rfl (by omega) ?_
  refine l_move rfl rfl ?_
  refine l_nil ?_
  refine ⟨m - 1, [(3, .slice (some ⟨b, 0, none⟩) (padF out0 n).length co), (7, .slice (some al) gs.length cl), (8, .int .i64 (gs.length : Int)), (9, .int .i64 ((i + 1 : Nat) : Int))], by omega, ⟨rfl, rfl, rfl, rfl, trivial⟩, i + 1, _, by omega, rfl, ?_⟩
  rw [wavesF, ← hn1, ← hout0, wvStep, egr]
  exact h'
end Go.Proofs.Ythamopcfpmkbfaa
