/- scc.Reach. No condition but that the graph is small. -/
import Derived.Test.YthamopcfpmkbfaaGA
import Derived.Test.YthamopcfpmkbfaaPT
set_option linter.unusedVariables false
set_option linter.unusedSimpArgs false
namespace Go.Proofs.Ythamopcfpmkbfaa
open Go.Proofs.Fw
variable {w0 w : World} {L : List Res}
/-- One comes from a node to another. -/
def ReachG (g : List (List Int)) (a b : Int) : Prop := 0 ≤ a ∧ a < (g.length : Int) ∧ 0 ≤ b ∧ b < (g.length : Int) ∧ Rch (nats (edgesF g)) a.toNat b.toNat
theorem nats_rows (g : List (List Int)) (x y : Nat) (h : y ∈ (nats (edgesF g)).getD x []) : y < g.length := ((nats_edge g x y).1 h).2.1
theorem nats_len (g : List (List Int)) : (nats (edgesF g)).length = g.length := by simp [nats, edgesF]
set_option maxRecDepth 4000 in
theorem reach_calls (g : List (List Int)) (gv : Value) (a b : Int) (hn : g.length ≤ 100000) (hr : ∀ r ∈ g, r.length ≤ 100000) (h : St w0 (pt rsII gv g :: L) w) :
    Calls Try.prog 20 #[gv, .int .i64 a, .int .i64 b] w fun e w' => (∃ v : Bool, (v = true ↔ ReachG g a b) ∧ e = .returned (.bool v)) ∧ St w0 (pt rsII gv g :: L) w' := by
  obtain ⟨A, c, rfl, -, -⟩ := h.rs_form
  refine f_one Try.func20 rfl Try.results20 Try.ntmps20 rfl ?_
  refine c_seq ?_
  refine c_region ?_
  refine l_assign rfl rfl ?_
  refine l_nil ?_
  refine c_seqS [(0, .slice A g.length c), (1, .int .i64 a), (2, .int .i64 b)] (fun w => (0 ≤ a ∧ a < (g.length : Int) ∧ 0 ≤ b ∧ b < (g.length : Int)) ∧ St w0 (pt rsII (.slice A g.length c) g :: L) w) ?_ ?_
  · refine c_seq ?_
    refine c_region ?_
    refine l_move rfl rfl ?_
    refine l_move rfl rfl ?_
    refine l_min rfl rfl rfl ?_
    first | refine l_lss rfl rfl rfl ?_ | refine l_slss rfl rfl rfl ?_
    by_cases hneg : (if b < a then b else a) < 0
    · refine l_set 16 (.bool true) rfl (vT hneg) ?_
      refine l_move rfl rfl ?_
      first | (refine l_yes rfl rfl ?_; first | refine l_move rfl rfl ?_) | refine l_no rfl rfl rfl rfl ?_ | refine l_no' rfl rfl rfl ?_
      first | (refine l_yes rfl rfl ?_; first | refine l_move rfl rfl ?_) | refine l_no rfl rfl rfl rfl ?_ | refine l_no' rfl rfl rfl ?_
      first | (refine l_yes rfl rfl ?_; first | refine l_max rfl rfl rfl ?_) | refine l_no rfl rfl rfl rfl ?_ | refine l_no' rfl rfl rfl ?_
      first | (refine l_yes rfl rfl ?_; first | refine l_move rfl rfl ?_) | refine l_no rfl rfl rfl rfl ?_ | refine l_no' rfl rfl rfl ?_
      first | (refine l_yes rfl rfl ?_; first | refine l_len rfl Try.underlying23 rfl ?_ | refine l_len_string rfl Try.underlying23 rfl ?_) | refine l_no rfl rfl rfl rfl ?_ | refine l_no' rfl rfl rfl ?_
      first | (refine l_yes rfl rfl ?_; first | refine l_geq rfl rfl rfl ?_) | refine l_no rfl rfl rfl rfl ?_ | refine l_no' rfl rfl rfl ?_
      refine l_pick rfl rfl rfl ?_
      refine l_nil ?_
      refine c_condT rfl ?_
      refine c_seq ?_
      refine c_region ?_
      refine l_assign rfl rfl ?_
      refine l_nil ?_
      refine c_ret ⟨.inr rfl, _, rfl, ⟨false, ?_, rfl⟩, h⟩
      simp only [ReachG]
      constructor
      · intro k; cases k
      · intro k; split at hneg <;> omega
    · refine l_set 16 (.bool false) rfl (vF hneg) ?_
      refine l_move rfl rfl ?_
      first | (refine l_yes rfl rfl ?_; first | refine l_move rfl rfl ?_) | refine l_no rfl rfl rfl rfl ?_ | refine l_no' rfl rfl rfl ?_
      first | (refine l_yes rfl rfl ?_; first | refine l_move rfl rfl ?_) | refine l_no rfl rfl rfl rfl ?_ | refine l_no' rfl rfl rfl ?_
      first | (refine l_yes rfl rfl ?_; first | refine l_max rfl rfl rfl ?_) | refine l_no rfl rfl rfl rfl ?_ | refine l_no' rfl rfl rfl ?_
      first | (refine l_yes rfl rfl ?_; first | refine l_move rfl rfl ?_) | refine l_no rfl rfl rfl rfl ?_ | refine l_no' rfl rfl rfl ?_
      first | (refine l_yes rfl rfl ?_; first | refine l_len rfl Try.underlying23 rfl ?_ | refine l_len_string rfl Try.underlying23 rfl ?_) | refine l_no rfl rfl rfl rfl ?_ | refine l_no' rfl rfl rfl ?_
      first | (refine l_yes rfl rfl ?_; first | refine l_geq rfl rfl rfl ?_) | refine l_no rfl rfl rfl rfl ?_ | refine l_no' rfl rfl rfl ?_
      refine l_pick rfl rfl rfl ?_
      refine l_nil ?_
      refine c_if _ rfl (fun hc => ?_) (fun hc => ?_)
      · refine c_seq ?_
        refine c_region ?_
        refine l_assign rfl rfl ?_
        refine l_nil ?_
        refine c_ret ⟨.inr rfl, _, rfl, ⟨false, ?_, rfl⟩, h⟩
        simp only [ReachG]
        constructor
        · intro k; cases k
        · intro k; split at hc <;> omega
      · refine c_skip ?_
        refine ⟨⟨rfl, rfl, rfl, trivial⟩, ?_, h⟩
        split at hneg <;> split at hc <;> omega
  clear h
  rintro w ⟨⟨ha0, han, hb0, hbn⟩, h⟩
  obtain ⟨an, rfl⟩ : ∃ an : Nat, a = (an : Int) := ⟨a.toNat, by omega⟩
  obtain ⟨bn, rfl⟩ : ∃ bn : Nat, b = (bn : Int) := ⟨b.toNat, by omega⟩
  have hal : an < g.length := by omega
  have hbl : bn < g.length := by omega
  obtain ⟨k, t, hwork, htl, ht⟩ := work_from (fun x y => nats_rows g x y) (nats (edgesF g)) (fun x y _ => Iff.rfl) hal
  refine c_seq ?_
  refine c_region ?_
  refine l_move rfl rfl ?_
  refine l_call rfl Try.func27 rfl (by decide) rfl (edges_calls g (.slice A g.length c) hn hr h) ?_
  clear h
  rintro e w ⟨ov, rfl, h⟩
  refine ⟨_, rfl, ?_⟩
  replace h : St w0 (pt rsNN ov (nats (edgesF g)) :: pt rsII (.slice A g.length c) g :: L) w := (h.turn (os_turns (os_turns kI_kN)) (edgesF_small g hn)).frz (os_frz (os_frz kN_pers.frz rfl) rfl)
  obtain ⟨Ao, co, rfl, -, -⟩ := h.rs_form' (nats_len g)
  obtain ⟨ao, rfl⟩ := h.rsN_ad rfl (i := an) (by rw [nats_len]; exact hal)
  refine l_assign rfl rfl ?_
  refine l_nil ?_
  refine c_seq ?_
  refine c_region ?_
  refine l_move rfl rfl ?_
  first | refine l_len rfl Try.underlying23 rfl ?_ | refine l_len_string rfl Try.underlying23 rfl ?_
  refine l_makeSlice (Kx := kBool) (zx := false) rfl Try.underlying41 info4 rfl rfl rfl rfl (by omega) (by unfold maxLen; omega) h ?_
  clear h; intro vh w h
  refine l_assign rfl rfl ?_
  refine l_nil ?_
  refine c_seq ?_
  refine c_region ?_
  obtain ⟨Ah, ch, rfl, -, -⟩ := h.os_form' (l := g.length) (by simp)
  obtain ⟨ah, rfl⟩ := h.osN_ad rfl kBool_pers (i := an) (by simpa using hal)
  refine l_move rfl rfl ?_
  refine l_move rfl rfl ?_
  first | refine l_indexAddr1 rfl Try.underlying41 (by first | exact sz_41) rfl rfl (by omega) ?_ | refine l_indexAddrN rfl Try.underlying41 (by first | exact sz_41) rfl rfl (by omega) ?_ | refine l_indexAddr rfl Try.underlying41 (by first | exact sz_41) rfl rfl (by omega) (by omega) ?_
  refine l_storeE plain4 rfl rfl rfl rfl (by simpa using hal) (h.addBool true |>.re [1]) ?_
  clear h; intro w h
  refine l_nil ?_
  refine c_seq ?_
  refine c_seq ?_
  refine c_region ?_
  refine l_move rfl rfl ?_
  refine l_buildSlice1 (x := an) rfl Try.underlying26 sz3 zero3 rfl rfl (h.addNat an (by omega)) ?_
  clear h; intro vl w h
  refine l_assign rfl rfl ?_
  refine l_nil ?_
  refine c_block ?_
  refine c_loop' (fun k env w => ∃ had l vh vl, Work g.length (fun x => (nats (edgesF g)).getD x []) k (had, l) t ∧ env = [(2, .int .i64 (bn : Int)), (7, .slice (some ao) g.length co), (8, vh), (9, vl)] ∧ St w0 (pt osB vh had :: pt osN vl l :: pt rsNN (.slice (some ao) g.length co) (nats (edgesF g)) :: pt rsII (.slice A g.length c) g :: L) w) k [(2, .int .i64 (bn : Int)), (7, .slice (some ao) g.length co), (8, (.slice (some ah) g.length ch)), (9, vl)] ⟨rfl, rfl, rfl, rfl, trivial⟩ ⟨_, _, _, _, hwork, rfl, h.re [1, 0]⟩ ?_
  clear h hwork
  rintro k env w ⟨had, l, vh, vl, hwork, rfl, h⟩
  obtain ⟨Al, cl, rfl, hcl, -⟩ := (h.re [1]).os_form
  refine c_seq ?_
  refine c_seq ?_
  refine c_region ?_
  refine l_move rfl rfl ?_
  first | refine l_len rfl Try.underlying26 rfl ?_ | refine l_len_string rfl Try.underlying26 rfl ?_
  refine l_gtr rfl rfl rfl ?_
  refine l_nil ?_
  cases hwork with
  | done hl =>
    refine c_set 37 (.bool false) rfl rfl ?_
    refine c_condF rfl ?_
    refine c_exit ?_
    refine c_seq ?_
    refine c_region ?_
    obtain ⟨Ah, ch, rfl, -, -⟩ := h.os_form' (l := g.length) hl
    obtain ⟨ah, rfl⟩ := h.osN_ad rfl kBool_pers (i := bn) (by omega)
    have q := h.osB_at (i := bn) (by omega)
    refine l_move rfl rfl ?_
    refine l_move rfl rfl ?_
    first | refine l_indexAddr1 rfl Try.underlying41 (by first | exact sz_41) rfl rfl (by omega) ?_ | refine l_indexAddrN rfl Try.underlying41 (by first | exact sz_41) rfl rfl (by omega) ?_ | refine l_indexAddr rfl Try.underlying41 (by first | exact sz_41) rfl rfl (by omega) (by omega) ?_
    refine l_load rfl plain4 rfl (by assumption) ?_
    refine l_assign rfl rfl ?_
    refine l_nil ?_
    refine c_ret ⟨.inr rfl, _, rfl, ⟨_, ?_, rfl⟩, h.drop.drop.drop⟩
    have hD : t.getD bn false = t[bn] := by simp [List.getD_eq_getElem?_getD, show bn < t.length by omega]
    rw [← hD, ht bn]
    simp only [ReachG, Int.toNat_natCast]
    constructor
    · rintro ⟨-, h1⟩; exact ⟨ha0, han, hb0, hbn, h1⟩
    · rintro ⟨-, -, -, -, h1⟩; exact ⟨hbl, h1⟩
  | @step k had l x t hl hx hb hrx hwork =>
  have hll : (l ++ [x]).length = l.length + 1 := by simp
  rw [hll] at h hcl ⊢
  refine c_set 37 (.bool true) rfl (vT (by omega)) ?_
  refine c_condT rfl ?_
  refine c_skip ?_
  refine c_block ?_
  refine c_seq ?_
  refine c_region ?_
  obtain ⟨al, rfl⟩ := (h.re [1]).osN_ad rfl kN_pers (i := l.length) (by simp)
  have q := ((h.re [1]).osN_at (i := l.length) (by simp)).1
  have hget : (l ++ [x])[l.length]'(by simp) = x := by simp
  rw [hget] at q
  refine l_move rfl rfl ?_
  refine l_move rfl rfl ?_
  first | refine l_len rfl Try.underlying26 rfl ?_ | refine l_len_string rfl Try.underlying26 rfl ?_
  refine l_subr rfl rfl rfl (by omega) (by omega) ?_
  refine l_set 41 (.int .i64 (l.length : Int)) rfl (by rw [show ((l.length + 1 : Nat) : Int) - 1 = (l.length : Int) by omega]) ?_
  first | refine l_indexAddr1 rfl Try.underlying26 (by first | exact sz_26) rfl rfl (by omega) ?_ | refine l_indexAddrN rfl Try.underlying26 (by first | exact sz_26) rfl rfl (by omega) ?_ | refine l_indexAddr rfl Try.underlying26 (by first | exact sz_26) rfl rfl (by omega) (by omega) ?_
  refine l_load rfl plain3 rfl (by assumption) ?_
  refine l_assign rfl rfl ?_
  refine l_nil ?_
  refine c_seq ?_
  refine c_region ?_
  refine l_move rfl rfl ?_
  refine l_move rfl rfl ?_
  first | refine l_len rfl Try.underlying26 rfl ?_ | refine l_len_string rfl Try.underlying26 rfl ?_
  refine l_subr rfl rfl rfl (by omega) (by omega) ?_
  refine l_set 47 (.int .i64 (l.length : Int)) rfl (by rw [show ((l.length + 1 : Nat) : Int) - 1 = (l.length : Int) by omega]) ?_
  refine l_slice_h rfl Try.underlying26 sz3 rfl rfl (by omega) (by omega) ?_
  simp only [Int.toNat_natCast]
  refine l_assign rfl rfl ?_
  refine l_nil ?_
  clear q
  have hcut := (h.re [1]).os_cut l.length (by simp)
  have htk : (l ++ [x]).take l.length = l := by simp
  rw [htk] at hcut
  replace h : St w0 (pt osB vh had :: pt osN (.slice (some al) l.length cl) l :: pt rsNN (.slice (some ao) g.length co) (nats (edgesF g)) :: pt rsII (.slice A g.length c) g :: L) w := hcut.re [1, 0]
  clear hcut htk
  -- the row
  refine c_seq ?_
  refine c_region ?_
  have hxo : x < (nats (edgesF g)).length := by rw [nats_len]; exact hx
  obtain ⟨ao', u, hA, q, h1⟩ := (h.re [2]).rs_cell rfl rfl x hxo
  cases hA
  obtain ⟨row, hrow⟩ : ∃ row, row = (nats (edgesF g))[x] := ⟨_, rfl⟩
  have hrowD : (nats (edgesF g)).getD x [] = row := by simp [List.getD_eq_getElem?_getD, hxo, hrow]
  rw [← hrow] at h1
  simp only [hrowD] at hrx hwork
  obtain ⟨Ar, cr, rfl, -, -⟩ := h1.rs_form
  refine l_move rfl rfl ?_
  refine l_move rfl rfl ?_
  first | refine l_indexAddr1 rfl Try.underlying23 (by first | exact sz_23) rfl rfl (by omega) ?_ | refine l_indexAddrN rfl Try.underlying23 (by first | exact sz_23) rfl rfl (by omega) ?_ | refine l_indexAddr rfl Try.underlying23 (by first | exact sz_23) rfl rfl (by omega) (by omega) ?_
  refine l_load rfl plain26 rfl (by assumption) ?_
  first | refine l_len rfl Try.underlying26 rfl ?_ | refine l_len_string rfl Try.underlying26 rfl ?_
  refine l_move rfl rfl ?_
  refine l_nil ?_
  clear q
  replace h : St w0 (pt (rs kN) (.slice Ar row.length cr) row :: pt osB vh had :: pt osN (.slice (some al) l.length cl) l :: pt rsNN (.slice (some ao) g.length co) (nats (edgesF g)) :: pt rsII (.slice A g.length c) g :: L) w := h1.re [0, 2, 3, 1]
  clear h1
  refine c_block ?_
  have hrlen : row.length ≤ g.length := by
    have := (inv0 g hn).rows row (by rw [hrow]; exact List.getElem_mem hxo)
    exact this.1
  refine c_loop' (fun m env w => ∃ j vh vl, j + m = row.length ∧ env = [(2, .int .i64 (bn : Int)), (7, .slice (some ao) g.length co), (8, vh), (9, vl), (52, .slice Ar row.length cr), (53, .int .i64 (row.length : Int)), (54, .int .i64 (j : Int))] ∧ (pushF (row.take j) (had, l)).2.length ≤ l.length + j ∧ St w0 (pt (rs kN) (.slice Ar row.length cr) row :: pt osB vh (pushF (row.take j) (had, l)).1 :: pt osN vl (pushF (row.take j) (had, l)).2 :: pt rsNN (.slice (some ao) g.length co) (nats (edgesF g)) :: pt rsII (.slice A g.length c) g :: L) w) row.length [(2, .int .i64 (bn : Int)), (7, .slice (some ao) g.length co), (8, vh), (9, (.slice (some al) l.length cl)), (52, .slice Ar row.length cr), (53, .int .i64 (row.length : Int)), (54, .int .i64 ((0 : Nat) : Int))] ⟨rfl, rfl, rfl, rfl, rfl, rfl, rfl, trivial⟩ ⟨0, _, _, by omega, rfl, by simp [pushF], by simpa [pushF] using h⟩ ?_
  clear h
  rintro m env w ⟨j, vh, vl, hjm, rfl, hpl, h⟩
  refine c_seq ?_
  refine c_region ?_
  first | refine l_lss rfl rfl rfl ?_ | refine l_slss rfl rfl rfl ?_
  refine l_nil ?_
  refine c_seq ?_
  refine c_if _ rfl (fun hc => ?_) (fun hc => ?_)
  · refine c_skip ?_
    have hj : j < row.length := by omega
    obtain ⟨ar, rfl⟩ := h.rsN_ad rfl hj
    obtain ⟨q, hyb⟩ := h.rsN_at hj
    obtain ⟨y, hy⟩ : ∃ y, y = row[j] := ⟨_, rfl⟩
    rw [← hy] at q hyb
    have hyn : y < g.length := hrx y (by rw [hy]; exact List.getElem_mem hj)
    have htk : row.take (j + 1) = row.take j ++ [y] := by rw [hy]; exact List.take_succ_eq_append_getElem hj
    obtain ⟨p, hp⟩ : ∃ p, p = pushF (row.take j) (had, l) := ⟨_, rfl⟩
    have hsn := pushF_snoc y (row.take j) (had, l)
    rw [← htk, ← hp] at hsn
    rw [← hp] at h hpl
    have hp1 : p.1.length = g.length := by rw [hp, pushF_len]; exact hl
    obtain ⟨Ah, ch, rfl, -, -⟩ := (h.re [1]).os_form' (l := g.length) hp1
    obtain ⟨ah, rfl⟩ := (h.re [1]).osN_ad rfl kBool_pers (i := y) (by omega)
    have q2 := (h.re [1]).osB_at (i := y) (by omega)
    have hD : p.1.getD y false = p.1[y]'(by omega) := by simp [List.getD_eq_getElem?_getD, show y < p.1.length by omega]
    refine c_seq ?_
    refine c_block ?_
    refine c_seq ?_
    refine c_region ?_
    first | refine l_indexAddr1 rfl Try.underlying26 (by first | exact sz_26) rfl rfl (by omega) ?_ | refine l_indexAddrN rfl Try.underlying26 (by first | exact sz_26) rfl rfl (by omega) ?_ | refine l_indexAddr rfl Try.underlying26 (by first | exact sz_26) rfl rfl (by omega) (by omega) ?_
    refine l_load rfl plain3 rfl (by assumption) ?_
    refine l_assign rfl rfl ?_
    refine l_nil ?_
    refine c_seq ?_
    refine c_region ?_
    refine l_move rfl rfl ?_
    refine l_move rfl rfl ?_
    first | refine l_indexAddr1 rfl Try.underlying41 (by first | exact sz_41) rfl rfl (by omega) ?_ | refine l_indexAddrN rfl Try.underlying41 (by first | exact sz_41) rfl rfl (by omega) ?_ | refine l_indexAddr rfl Try.underlying41 (by first | exact sz_41) rfl rfl (by omega) (by omega) ?_
    refine l_load rfl plain4 rfl (by assumption) ?_
    refine l_not rfl rfl ?_
    refine l_nil ?_
    clear q q2
    cases hb2 : p.1[y]'(by omega) with
    | true =>
      refine c_condF rfl ?_
      refine c_skip ?_
      refine c_region ?_
      first | refine l_addr rfl rfl rfl (by omega) (by omega) ?_ | refine l_sadd rfl rfl rfl (by omega) ?_
      refine l_move rfl rfl ?_
      refine l_nil ?_
      rw [hD, hb2, if_pos rfl] at hsn
      refine ⟨m - 1, [(2, .int .i64 (bn : Int)), (7, .slice (some ao) g.length co), (8, (.slice (some ah) g.length ch)), (9, vl), (52, .slice (some ar) row.length cr), (53, .int .i64 (row.length : Int)), (54, .int .i64 ((j + 1 : Nat) : Int))], by omega, ⟨rfl, rfl, rfl, rfl, rfl, rfl, rfl, trivial⟩, j + 1, _, _, by omega, rfl, ?_, ?_⟩
      · rw [hsn]; omega
      · rw [hsn]; exact h
    | false =>
      rw [hD, hb2, if_neg (by simp)] at hsn
      refine c_condT rfl ?_
      refine c_seq ?_
      refine c_region ?_
      refine l_move rfl rfl ?_
      refine l_move rfl rfl ?_
      first | refine l_indexAddr1 rfl Try.underlying41 (by first | exact sz_41) rfl rfl (by omega) ?_ | refine l_indexAddrN rfl Try.underlying41 (by first | exact sz_41) rfl rfl (by omega) ?_ | refine l_indexAddr rfl Try.underlying41 (by first | exact sz_41) rfl rfl (by omega) (by omega) ?_
      refine l_storeE plain4 rfl rfl rfl rfl (by omega) ((h.re [1]).addBool true |>.re [1]) ?_
      clear h; intro w h
      refine l_nil ?_
      refine c_region ?_
      refine l_move rfl rfl ?_
      refine l_move rfl rfl ?_
      refine l_buildSlice1 (x := y) rfl Try.underlying26 sz3 zero3 rfl rfl (h.addNat y (by omega)) ?_
      clear h; intro bs w h
      refine l_append rfl Try.underlying26 info3 rfl (by decide) rfl rfl (h.re [3, 0]) (by simp only [List.length_cons, List.length_nil]; omega) (by simp only [List.length_cons, List.length_nil]; unfold maxLen; omega) ?_
      clear h; intro vl2 w h
      refine l_assign rfl rfl ?_
      refine l_nil ?_
      refine c_region ?_
      first | refine l_addr rfl rfl rfl (by omega) (by omega) ?_ | refine l_sadd rfl rfl rfl (by omega) ?_
      refine l_move rfl rfl ?_
      refine l_nil ?_
      refine ⟨m - 1, [(2, .int .i64 (bn : Int)), (7, .slice (some ao) g.length co), (8, (.slice (some ah) g.length ch)), (9, vl2), (52, .slice (some ar) row.length cr), (53, .int .i64 (row.length : Int)), (54, .int .i64 ((j + 1 : Nat) : Int))], by omega, ⟨rfl, rfl, rfl, rfl, rfl, rfl, rfl, trivial⟩, j + 1, _, _, by omega, rfl, ?_, ?_⟩
      · rw [hsn]; simp; omega
      · rw [hsn]; exact h.re [2, 1, 0]
  · refine c_exit ?_
    have hj : j = row.length := by omega
    subst hj
    rw [List.take_length] at h
    exact ⟨k, [(2, .int .i64 (bn : Int)), (7, .slice (some ao) g.length co), (8, vh), (9, vl)], by omega, ⟨rfl, rfl, rfl, rfl, trivial⟩, _, _, _, _, hwork, rfl, h.drop⟩
end Go.Proofs.Ythamopcfpmkbfaa
