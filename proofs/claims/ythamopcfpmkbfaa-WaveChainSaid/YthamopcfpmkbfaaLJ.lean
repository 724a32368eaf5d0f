/- The law WaveChain, walked. No condition. -/
import Derived.Test.YthamopcfpmkbfaaLJ1
import Derived.Test.YthamopcfpmkbfaaFD
set_option linter.unusedVariables false
set_option linter.unusedSimpArgs false
namespace Go.Proofs.Ythamopcfpmkbfaa
open Go.Proofs.Fw
variable {w0 w : World} {L : List Res}
def wantF (k j : Nat) : List Nat := (List.range j).map (wlv k)
theorem want_step (k j : Nat) : wantF k (j + 1) = wantF k j ++ [wlv k j] := by simp [wantF, List.range_succ]
set_option maxRecDepth 4000 in
theorem wavechain_calls {n a : Nat} (hn : n ≤ 255) (ha : a ≤ 255) (h : St w0 L w) :
    Calls Try.prog 12 #[.int .u8 (n : Int), .int .u8 (a : Int)] w fun e w' => e = .returned (.bool true) ∧ St w0 L w' := by
  have nilN : ∀ {L w}, St w0 L w → St w0 (pt osN (.slice none 0 0) [] :: L) w := fun h => h.add (.inl ⟨rfl, rfl⟩)
  refine f_one Try.func12 rfl Try.results12 Try.ntmps12 rfl ?_
  refine c_seq ?_
  refine c_region ?_
  refine l_assign rfl rfl ?_
  refine l_nil ?_
  obtain ⟨k, hk⟩ : ∃ k, k = 1 + n % 60 := ⟨_, rfl⟩
  obtain ⟨m, hm⟩ : ∃ m, m = a % 20 := ⟨_, rfl⟩
  have hk0 : 0 < k := by omega
  have hk60 : k ≤ 60 := by omega
  have hm20 : m < 20 := by omega
  obtain ⟨N, hN⟩ : ∃ N, N = k + m := ⟨_, rfl⟩
  refine c_seq ?_
  refine c_region ?_
  refine l_move rfl rfl ?_
  refine l_conv8 rfl Try.underlying5 Try.underlying3 hn rfl ?_
  refine l_remN (j := 60) rfl rfl rfl (by omega) ?_
  first | refine l_addr rfl rfl rfl (by omega) (by omega) ?_ | refine l_sadd rfl rfl rfl (by omega) ?_
  refine l_set 14 (.int .i64 (k : Int)) rfl (by rw [hk]; rfl) ?_
  refine l_move rfl rfl ?_
  refine l_conv8 rfl Try.underlying5 Try.underlying3 ha rfl ?_
  refine l_remN (j := 20) rfl rfl rfl (by omega) ?_
  refine l_set 17 (.int .i64 (m : Int)) rfl (by rw [hm]) ?_
  refine l_assign rfl rfl ?_
  refine l_assign rfl rfl ?_
  refine l_nil ?_
  refine c_seq ?_
  refine c_region ?_
  refine l_move rfl rfl ?_
  refine l_move rfl rfl ?_
  first | refine l_addr rfl rfl rfl (by omega) (by omega) ?_ | refine l_sadd rfl rfl rfl (by omega) ?_
  refine l_set 20 (.int .i64 (N : Int)) rfl (by rw [hN]; rfl) ?_
  refine l_makeS (Kx := os 3 kI) (zx := []) rfl Try.underlying23 info26 rfl (.inl ⟨rfl, rfl⟩) rfl rfl (by omega) (by unfold maxLen; omega) h ?_
  clear h; intro gb w h
  refine l_assign rfl rfl ?_
  refine l_nil ?_
  refine c_seq ?_
  refine c_region ?_
  refine l_assign rfl rfl ?_
  refine l_nil ?_
  refine c_seq ?_
  refine c_seq ?_
  refine c_region ?_
  refine l_assign rfl rfl ?_
  refine l_nil ?_
  refine c_block ?_
  refine c_loop' (fun d env w => ∃ (j : Nat) (wv : Value), j + d = N ∧ env = [(5, .int .i64 (k : Int)), (6, .int .i64 (m : Int)), (7, .slice (some ⟨gb, 0, none⟩) N N), (8, wv), (9, .int .i64 (j : Int))] ∧ St w0 (pt osN wv (wantF k j) :: pt (os 26 (os 3 kI)) (.slice (some ⟨gb, 0, none⟩) N N) (wchF N k j) :: L) w) N [(5, .int .i64 (k : Int)), (6, .int .i64 (m : Int)), (7, .slice (some ⟨gb, 0, none⟩) N N), (8, (.slice none 0 0)), (9, .int .i64 ((0 : Nat) : Int))] ⟨rfl, rfl, rfl, rfl, rfl, trivial⟩ ⟨0, _, by omega, rfl, by rw [wchF_zero]; exact nilN h⟩ ?_
  clear h
  rintro d env w ⟨j, wv, hjd, rfl, h⟩
  have hwl : (wantF k j).length = j := by simp [wantF]
  refine c_seq ?_
  refine c_seq ?_
  refine c_region ?_
  refine l_move rfl rfl ?_
  refine l_move rfl rfl ?_
  refine l_move rfl rfl ?_
  first | refine l_addr rfl rfl rfl (by omega) (by omega) ?_ | refine l_sadd rfl rfl rfl (by omega) ?_
  refine l_set 25 (.int .i64 (N : Int)) rfl (by rw [hN]; rfl) ?_
  first | refine l_lss rfl rfl rfl ?_ | refine l_slss rfl rfl rfl ?_
  refine l_nil ?_
  refine c_if _ rfl (fun hc => ?_) (fun hc => ?_)
  · refine c_skip ?_
    have hj : j < N := by omega
    refine c_seqX (fun wv : Value => [(5, .int .i64 (k : Int)), (6, .int .i64 (m : Int)), (7, .slice (some ⟨gb, 0, none⟩) N N), (8, wv), (9, .int .i64 (j : Int))]) (fun wv w => St w0 (pt osN wv (wantF k (j + 1)) :: pt (os 26 (os 3 kI)) (.slice (some ⟨gb, 0, none⟩) N N) (wchF N k (j + 1)) :: L) w) ?_ ?_
    rotate_left
    · clear h wv
      intro wv w h
      refine c_region ?_
      refine l_move rfl rfl ?_
      first | refine l_addr rfl rfl rfl (by omega) (by omega) ?_ | refine l_sadd rfl rfl rfl (by omega) ?_
      refine l_assign rfl rfl ?_
      refine l_nil ?_
      exact ⟨d - 1, [(5, .int .i64 (k : Int)), (6, .int .i64 (m : Int)), (7, .slice (some ⟨gb, 0, none⟩) N N), (8, wv), (9, .int .i64 ((j + 1 : Nat) : Int))], by omega, ⟨rfl, rfl, rfl, rfl, rfl, trivial⟩, j + 1, wv, by omega, rfl, h⟩
    refine c_block ?_
    refine c_seq ?_
    refine c_region ?_
    refine l_move rfl rfl ?_
    refine l_gtr rfl rfl rfl ?_
    by_cases hj0 : (j : Int) > 0
    rotate_left
    · refine l_set 30 (.bool false) rfl (vF hj0) ?_
      refine l_move rfl rfl ?_
      first | (refine l_yes rfl rfl ?_; first | refine l_move rfl rfl ?_) | refine l_no rfl rfl rfl rfl ?_ | refine l_no' rfl rfl rfl ?_
      first | (refine l_yes rfl rfl ?_; first | refine l_move rfl rfl ?_) | refine l_no rfl rfl rfl rfl ?_ | refine l_no' rfl rfl rfl ?_
      first | (refine l_yes rfl rfl ?_; first | refine l_lss rfl rfl rfl ?_ | refine l_slss rfl rfl rfl ?_) | refine l_no rfl rfl rfl rfl ?_ | refine l_no' rfl rfl rfl ?_
      refine l_pick rfl rfl rfl ?_
      refine l_nil ?_
      refine c_condF rfl ?_
      rw [wch_step0 hj (by omega)] at h
      have e0 : wlv k j = 0 := by unfold wlv; split <;> omega
      refine c_region ?_
      refine l_move rfl rfl ?_
      refine l_buildSlice1 (x := 0) rfl Try.underlying26 sz3 zero3 rfl rfl (h.addNat 0 (by omega)) ?_
      clear h; intro bs w h
      refine l_append rfl Try.underlying26 info3 rfl (by decide) rfl rfl (h.re [1, 0]) (by simp only [List.length_cons, List.length_nil]; omega) (by simp only [List.length_cons, List.length_nil]; unfold maxLen; omega) ?_
      clear h; intro v2 w h
      refine l_assign rfl rfl ?_
      refine l_nil ?_
      refine ⟨v2, ⟨rfl, rfl, rfl, rfl, rfl, trivial⟩, ?_⟩
      rw [want_step, e0]
      exact h
    by_cases hjk : (j : Int) < (k : Int)
    rotate_left
    · refine l_set 30 (.bool true) rfl (vT hj0) ?_
      refine l_move rfl rfl ?_
      first | (refine l_yes rfl rfl ?_; first | refine l_move rfl rfl ?_) | refine l_no rfl rfl rfl rfl ?_ | refine l_no' rfl rfl rfl ?_
      first | (refine l_yes rfl rfl ?_; first | refine l_move rfl rfl ?_) | refine l_no rfl rfl rfl rfl ?_ | refine l_no' rfl rfl rfl ?_
      first | (refine l_yes rfl rfl ?_; first | refine l_lss rfl rfl rfl ?_ | refine l_slss rfl rfl rfl ?_) | refine l_no rfl rfl rfl rfl ?_ | refine l_no' rfl rfl rfl ?_
      refine l_set 34 (.bool false) rfl (vF hjk) ?_
      refine l_pick rfl rfl rfl ?_
      refine l_nil ?_
      refine c_condF rfl ?_
      rw [wch_step0 hj (by omega)] at h
      have e0 : wlv k j = 0 := by unfold wlv; split <;> omega
      refine c_region ?_
      refine l_move rfl rfl ?_
      refine l_buildSlice1 (x := 0) rfl Try.underlying26 sz3 zero3 rfl rfl (h.addNat 0 (by omega)) ?_
      clear h; intro bs w h
      refine l_append rfl Try.underlying26 info3 rfl (by decide) rfl rfl (h.re [1, 0]) (by simp only [List.length_cons, List.length_nil]; omega) (by simp only [List.length_cons, List.length_nil]; unfold maxLen; omega) ?_
      clear h; intro v2 w h
      refine l_assign rfl rfl ?_
      refine l_nil ?_
      refine ⟨v2, ⟨rfl, rfl, rfl, rfl, rfl, trivial⟩, ?_⟩
      rw [want_step, e0]
      exact h
    refine l_set 30 (.bool true) rfl (vT hj0) ?_
    refine l_move rfl rfl ?_
    first | (refine l_yes rfl rfl ?_; first | refine l_move rfl rfl ?_) | refine l_no rfl rfl rfl rfl ?_ | refine l_no' rfl rfl rfl ?_
    first | (refine l_yes rfl rfl ?_; first | refine l_move rfl rfl ?_) | refine l_no rfl rfl rfl rfl ?_ | refine l_no' rfl rfl rfl ?_
    first | (refine l_yes rfl rfl ?_; first | refine l_lss rfl rfl rfl ?_ | refine l_slss rfl rfl rfl ?_) | refine l_no rfl rfl rfl rfl ?_ | refine l_no' rfl rfl rfl ?_
    refine l_set 34 (.bool true) rfl (vT hjk) ?_
    refine l_pick rfl rfl rfl ?_
    refine l_nil ?_
    refine c_condT rfl ?_
    have e0 : wlv k j = j := by unfold wlv; rw [if_pos (by omega)]
    have er : wrowF k j = [(j : Int) - 1, (j : Int)] := by unfold wrowF; rw [if_pos (by omega)]
    refine c_seq ?_
    refine c_region ?_
    refine l_move rfl rfl ?_
    refine l_move rfl rfl ?_
    refine l_move rfl rfl ?_
    refine l_subr rfl rfl rfl (by omega) (by omega) ?_
    refine l_move rfl rfl ?_
    refine l_buildSliceN (ps := [(.int .i64 ((j : Int) - 1), (j : Int) - 1), (.int .i64 (j : Int), (j : Int))]) (Kx := kI) rfl Try.underlying26 sz3 zero3 rfl (by simp) rfl rfl rfl ((h.addI64 (j : Int) (by omega) (by omega)).addI64 ((j : Int) - 1) (by omega) (by omega)) ?_
    clear h; intro v1 w h
    simp only [List.map_cons, List.map_nil] at h
    rw [← er] at h
    first | refine l_indexAddr1 rfl Try.underlying23 (by first | exact sz_23) rfl rfl (by omega) ?_ | refine l_indexAddrN rfl Try.underlying23 (by first | exact sz_23) rfl rfl (by omega) ?_ | refine l_indexAddr rfl Try.underlying23 (by first | exact sz_23) rfl rfl (by omega) (by omega) ?_
    refine l_storeE plain26 rfl rfl rfl rfl (by rw [wchF_len (by omega)]; exact hj) (h.re [2, 0]) ?_
    clear h; intro w h
    refine l_nil ?_
    rw [wch_step hj] at h
    refine c_region ?_
    refine l_move rfl rfl ?_
    refine l_move rfl rfl ?_
    refine l_buildSlice1 (x := j) rfl Try.underlying26 sz3 zero3 rfl rfl (h.addNat j (by omega)) ?_
    clear h; intro bs w h
    refine l_append rfl Try.underlying26 info3 rfl (by decide) rfl rfl (h.re [2, 0]) (by simp only [List.length_cons, List.length_nil]; omega) (by simp only [List.length_cons, List.length_nil]; unfold maxLen; omega) ?_
    clear h; intro v2 w h
    refine l_assign rfl rfl ?_
    refine l_nil ?_
    refine ⟨v2, ⟨rfl, rfl, rfl, rfl, rfl, trivial⟩, ?_⟩
    rw [want_step, e0]
    exact h
  refine c_exit ?_
  have hj : j = N := by omega
  subst hj
  rw [wch_all] at h
  have hkN : k ≤ j := by omega
  clear hc hjd
  have hGl := wchG_len j k
  have hGr : ∀ r ∈ wchG j k, r.length ≤ 100000 := fun r hr => by
    obtain ⟨i, _, rfl⟩ := List.mem_map.1 hr
    unfold wrowF; split <;> simp
  have hsl := singles_len j
  have hW := waves_wch (m := m) hk0
  rw [← hN] at hW
  obtain ⟨hW1, hW2⟩ := hW
  obtain ⟨ws, hws⟩ : ∃ ws, ws = wavesF ((List.range j).map (wlv k)) j := ⟨_, rfl⟩
  rw [← hws] at hW1 hW2
  replace h : St w0 (pt rsII (.slice (some ⟨gb, 0, none⟩) j j) (wchG j k) :: pt osN wv (wantF k j) :: L) w := osII_rs (h.re [1])
  refine c_seq ?_
  refine c_region ?_
  refine l_move rfl rfl ?_
  refine l_call rfl Try.func25 rfl (by decide) rfl (waves_calls (grp_wch hkN) (lv_wch hkN) _ (by omega) hGr h) ?_
  clear h
  rintro e w ⟨wsv, rfl, h⟩
  refine ⟨_, rfl, ?_⟩
  rw [hsl, ← hws] at h
  replace h : St w0 (pt (rs (rs kN)) wsv ws :: pt rsII (.slice (some ⟨gb, 0, none⟩) j j) (wchG j k) :: pt osN wv (wantF k j) :: L) w := h.frz (os_frz (os_frz kN_pers.frz rfl) rfl)
  obtain ⟨Aw, cw, rfl, -, -⟩ := h.rs_form' hW1
  refine l_assign rfl rfl ?_
  refine l_nil ?_
  refine c_seq ?_
  refine c_region ?_
  refine l_move rfl rfl ?_
  refine l_call rfl Try.func22 rfl (by decide) rfl (levels_calls (grp_wch hkN) (lv_wch hkN) _ (by omega) hGr (h.re [1])) ?_
  clear h
  rintro e w ⟨lvv, rfl, h⟩
  refine ⟨_, rfl, ?_⟩
  rw [hsl] at h
  replace h := osN_rs h
  replace h : St w0 (pt rsI wv (ints (wantF k j)) :: pt rsI lvv (ints (wantF k j)) :: pt rsII (.slice (some ⟨gb, 0, none⟩) j j) (wchG j k) :: pt (rs (rs kN)) (.slice Aw k cw) ws :: L) w := osN_rs (h.re [3])
  refine l_move rfl rfl ?_
  refine l_call rfl Try.func17 rfl (by decide) rfl (ints_calls (h.re [1, 0])) ?_
  clear h
  rintro e w ⟨rfl, h⟩
  refine ⟨_, rfl, ?_⟩
  refine l_set 55 (.bool true) rfl (by simp) ?_
  replace h := h.drop.drop
  refine l_move rfl rfl ?_
  first | (refine l_yes rfl rfl ?_; first | refine l_move rfl rfl ?_) | refine l_no rfl rfl rfl rfl ?_ | refine l_no' rfl rfl rfl ?_
  first | (refine l_yes rfl rfl ?_; first | refine l_len rfl Try.underlying23 rfl ?_ | refine l_len_string rfl Try.underlying23 rfl ?_) | refine l_no rfl rfl rfl rfl ?_ | refine l_no' rfl rfl rfl ?_
  first | (refine l_yes rfl rfl ?_; first | refine l_move rfl rfl ?_) | refine l_no rfl rfl rfl rfl ?_ | refine l_no' rfl rfl rfl ?_
  first | (refine l_yes rfl rfl ?_; first | refine l_eql rfl rfl rfl ?_ | refine l_seql rfl rfl rfl ?_) | refine l_no rfl rfl rfl rfl ?_ | refine l_no' rfl rfl rfl ?_
  refine l_set 60 (.bool true) rfl (by simp) ?_
  have h0w : 0 < ws.length := by omega
  obtain ⟨aw, Ar, cr, rfl, q, -, -, -, -⟩ := (h.re [1]).rsNN_row h0w
  have hrl : ws[0].length = 1 + m := by rw [← getD_get [] h0w]; exact hW2
  rw [hrl] at q
  refine l_pick rfl rfl rfl ?_
  refine l_move rfl rfl ?_
  first | (refine l_yes rfl rfl ?_; first | refine l_move rfl rfl ?_) | refine l_no rfl rfl rfl rfl ?_ | refine l_no' rfl rfl rfl ?_
  refine l_yes rfl rfl ?_
  refine l_indexAddr1 (i := 0) rfl Try.underlying23 sz26 rfl rfl (by omega) ?_
  first | (refine l_yes rfl rfl ?_; first | refine l_load rfl plain26 rfl (by assumption) ?_) | refine l_no rfl rfl rfl rfl ?_ | refine l_no' rfl rfl rfl ?_
  first | (refine l_yes rfl rfl ?_; first | refine l_len rfl Try.underlying26 rfl ?_ | refine l_len_string rfl Try.underlying26 rfl ?_) | refine l_no rfl rfl rfl rfl ?_ | refine l_no' rfl rfl rfl ?_
  first | (refine l_yes rfl rfl ?_; first | refine l_move rfl rfl ?_) | refine l_no rfl rfl rfl rfl ?_ | refine l_no' rfl rfl rfl ?_
  first | (refine l_yes rfl rfl ?_; first | refine l_addr rfl rfl rfl (by omega) (by omega) ?_ | refine l_sadd rfl rfl rfl (by omega) ?_) | refine l_no rfl rfl rfl rfl ?_ | refine l_no' rfl rfl rfl ?_
  first | (refine l_yes rfl rfl ?_; first | refine l_eql rfl rfl rfl ?_ | refine l_seql rfl rfl rfl ?_) | refine l_no rfl rfl rfl rfl ?_ | refine l_no' rfl rfl rfl ?_
  clear q
  refine l_set 69 (.bool true) rfl (by simp) ?_
  refine l_pick rfl rfl rfl ?_
  refine l_move rfl rfl ?_
  have hgn : Grp [] (singles 0) := grp_singles (g := []) (.inl fun x y h => by obtain ⟨h1, -⟩ := h; simp at h1)
  have hLn : LvG [] (singles 0) (fun _ => 0) := lvG_singles (g := []) fun i => ⟨fun j _ h => by obtain ⟨h1, -⟩ := h; simp at h1, .inl rfl⟩
  refine l_yes rfl rfl ?_
  refine l_call rfl Try.func25 rfl (by decide) rfl (waves_calls hgn hLn _ (by simp) (by simp) (h.add (K := rsII) (cs := [.slice none 0 0]) (x := []) ⟨none, 0, rfl, Nat.le_refl _, Nat.zero_le _, .inl rfl⟩)) ?_
  clear h
  rintro e w ⟨v9, rfl, h⟩
  refine ⟨_, rfl, ?_⟩
  obtain ⟨A9, c9, rfl, -, -⟩ := h.os_form' (l := 0) rfl
  first | (refine l_yes rfl rfl ?_; first | refine l_len rfl Try.underlying23 rfl ?_ | refine l_len_string rfl Try.underlying23 rfl ?_) | refine l_no rfl rfl rfl rfl ?_ | refine l_no' rfl rfl rfl ?_
  first | (refine l_yes rfl rfl ?_; first | refine l_eql rfl rfl rfl ?_ | refine l_seql rfl rfl rfl ?_) | refine l_no rfl rfl rfl rfl ?_ | refine l_no' rfl rfl rfl ?_
  refine l_set 74 (.bool true) rfl (by simp) ?_
  refine l_pick rfl rfl rfl ?_
  refine l_move rfl rfl ?_
  refine l_yes rfl rfl ?_
  refine l_call (args := []) rfl Try.func23 rfl (by decide) rfl (awake16_calls h) ?_
  clear h
  rintro e w ⟨rfl, h⟩
  refine ⟨_, rfl, ?_⟩
  refine l_pick rfl rfl rfl ?_
  refine l_assign rfl rfl ?_
  refine l_nil ?_
  exact c_ret ⟨.inr rfl, _, rfl, rfl, h.drop.drop.drop.drop⟩
end Go.Proofs.Ythamopcfpmkbfaa
