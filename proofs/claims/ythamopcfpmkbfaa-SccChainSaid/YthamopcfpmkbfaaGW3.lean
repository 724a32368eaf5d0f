/- r15.reached: all that one reaches. No condition but that the graph is small. -/
import Derived.Test.YthamopcfpmkbfaaGW2
set_option linter.unusedVariables false
set_option linter.unusedSimpArgs false
namespace Go.Proofs.Ythamopcfpmkbfaa
open Go.Proofs.Fw
variable {w0 w : World} {L : List Res}
/-- Those of a row that are nodes. -/
def okRow (n : Nat) (r : List Int) : List Nat := (r.filter fun b => decide (0 ≤ b ∧ b < (n : Int))).map Int.toNat
theorem okRow_mem (n : Nat) (r : List Int) (y : Nat) : y ∈ okRow n r ↔ y < n ∧ (y : Int) ∈ r := by
  unfold okRow
  rw [List.mem_map]
  constructor
  · rintro ⟨b, hb, rfl⟩
    rw [List.mem_filter] at hb
    have h2 := hb.2
    simp only [decide_eq_true_eq] at h2
    refine ⟨by omega, ?_⟩
    rw [Int.toNat_of_nonneg h2.1]
    exact hb.1
  · rintro ⟨h1, h2⟩
    refine ⟨(y : Int), List.mem_filter.2 ⟨h2, ?_⟩, by simp⟩
    simp only [decide_eq_true_eq]
    omega
theorem okRow_snoc (n : Nat) (r : List Int) (b : Int) : okRow n (r ++ [b]) = if 0 ≤ b ∧ b < (n : Int) then okRow n r ++ [b.toNat] else okRow n r := by
  unfold okRow
  rw [List.filter_append, List.map_append]
  by_cases h : 0 ≤ b ∧ b < (n : Int)
  · rw [if_pos h]; simp [h]
  · rw [if_neg h]; simp [h]
theorem okRow_edge (g : List (List Int)) (x y : Nat) (hx : x < g.length) : y ∈ okRow g.length (g.getD x []) ↔ Edg (nats (edgesF g)) x y := by
  rw [okRow_mem, nats_edge]
  unfold EdgG
  constructor
  · rintro ⟨h1, h2⟩; exact ⟨hx, h1, h2⟩
  · rintro ⟨-, h1, h2⟩; exact ⟨h1, h2⟩
/-- The bits of those that one reaches. -/
def Bits (g : List (List Int)) (a : Int) (t : List Bool) : Prop := t.length = g.length ∧ ∀ y, y < g.length → (t.getD y false = true ↔ 0 ≤ a ∧ a < (g.length : Int) ∧ Rch (nats (edgesF g)) a.toNat y)
theorem reached_exists (g : List (List Int)) (a : Int) : ∃ t, Bits g a t := by
  by_cases h : 0 ≤ a ∧ a < (g.length : Int)
  · obtain ⟨k, t, -, h1, h2⟩ := work_from (n := g.length) (fun x y => nats_rows g x y) (nats (edgesF g)) (fun x y _ => Iff.rfl) (a := a.toNat) (by omega)
    refine ⟨t, h1, fun y hy => ?_⟩
    rw [h2 y]
    constructor
    · rintro ⟨-, h3⟩; exact ⟨h.1, h.2, h3⟩
    · rintro ⟨-, -, h3⟩; exact ⟨hy, h3⟩
  · refine ⟨List.replicate g.length false, by simp, fun y hy => ?_⟩
    simp [List.getD_eq_getElem?_getD, hy]
    intro h1 h2
    exact absurd ⟨h1, h2⟩ h
theorem bits_unique {g : List (List Int)} {a : Int} {t u : List Bool} (h : Bits g a t) (k : Bits g a u) : t = u := by
  apply List.ext_getElem
  · rw [h.1, k.1]
  · intro i h1 h2
    have e1 : t.getD i false = t[i] := by simp [List.getD_eq_getElem?_getD, h1]
    have e2 : u.getD i false = u[i] := by simp [List.getD_eq_getElem?_getD, h2]
    rw [← e1, ← e2, Bool.eq_iff_iff, h.2 i (by rw [← h.1]; exact h1), k.2 i (by rw [← h.1]; exact h1)]
set_option maxRecDepth 4000 in
theorem reached_calls (g : List (List Int)) (gv : Value) (a : Int) (t : List Bool) (hbits : Bits g a t) (hn : g.length ≤ 100000) (hr : ∀ r ∈ g, r.length ≤ 100000) (h : St w0 (pt rsII gv g :: L) w) :
    Calls Try.prog 32 #[gv, .int .i64 a] w (Gives w0 osB t (pt rsII gv g :: L)) := by
  obtain ⟨A, c, rfl, -, -⟩ := h.rs_form
  refine f_one Try.func32 rfl Try.results32 Try.ntmps32 rfl ?_
  refine c_seq ?_
  refine c_region ?_
  refine l_assign rfl rfl ?_
  refine l_nil ?_
  refine c_seq ?_
  refine c_region ?_
  refine l_move rfl rfl ?_
  first | refine l_len rfl Try.underlying23 rfl ?_ | refine l_len_string rfl Try.underlying23 rfl ?_
  refine l_makeSlice (Kx := kBool) (zx := false) rfl Try.underlying41 info4 rfl rfl rfl rfl (by omega) (by unfold maxLen; omega) h ?_
  clear h; intro vh w h
  refine l_assign rfl rfl ?_
  refine l_nil ?_
  refine c_seqS [(0, .slice A g.length c), (1, .int .i64 a), (5, vh)] (fun w => (0 ≤ a ∧ a < (g.length : Int)) ∧ St w0 (pt osB vh (List.replicate g.length false) :: pt rsII (.slice A g.length c) g :: L) w) ?_ ?_
  · refine c_seq ?_
    refine c_region ?_
    refine l_move rfl rfl ?_
    first | refine l_lss rfl rfl rfl ?_ | refine l_slss rfl rfl rfl ?_
    have hout : ¬ (0 ≤ a ∧ a < (g.length : Int)) → List.replicate g.length false = t := fun hno => by
      refine bits_unique (g := g) (a := a) ⟨by simp, fun y hy => ?_⟩ hbits
      simp [List.getD_eq_getElem?_getD, hy]
      intro h1 h2
      exact absurd ⟨h1, h2⟩ hno
    by_cases hneg : a < 0
    · refine l_set 14 (.bool true) rfl (vT hneg) ?_
      refine l_move rfl rfl ?_
      first | (refine l_yes rfl rfl ?_; first | refine l_move rfl rfl ?_) | refine l_no rfl rfl rfl rfl ?_ | refine l_no' rfl rfl rfl ?_
      first | (refine l_yes rfl rfl ?_; first | refine l_move rfl rfl ?_) | refine l_no rfl rfl rfl rfl ?_ | refine l_no' rfl rfl rfl ?_
      first | (refine l_yes rfl rfl ?_; first | refine l_len rfl Try.underlying23 rfl ?_ | refine l_len_string rfl Try.underlying23 rfl ?_) | refine l_no rfl rfl rfl rfl ?_ | refine l_no' rfl rfl rfl ?_
      first | (refine l_yes rfl rfl ?_; first | refine l_geq rfl rfl rfl ?_) | refine l_no rfl rfl rfl rfl ?_ | refine l_no' rfl rfl rfl ?_
      refine l_pick rfl rfl rfl ?_
      refine l_nil ?_
      refine c_condT rfl ?_
      refine c_seq ?_
      refine c_region ?_
      refine l_move rfl rfl ?_
      refine l_assign rfl rfl ?_
      refine l_nil ?_
      refine c_ret ⟨.inr rfl, _, rfl, _, rfl, ?_⟩
      rw [← hout (by omega)]
      exact h
    · refine l_set 14 (.bool false) rfl (vF hneg) ?_
      refine l_move rfl rfl ?_
      first | (refine l_yes rfl rfl ?_; first | refine l_move rfl rfl ?_) | refine l_no rfl rfl rfl rfl ?_ | refine l_no' rfl rfl rfl ?_
      first | (refine l_yes rfl rfl ?_; first | refine l_move rfl rfl ?_) | refine l_no rfl rfl rfl rfl ?_ | refine l_no' rfl rfl rfl ?_
      first | (refine l_yes rfl rfl ?_; first | refine l_len rfl Try.underlying23 rfl ?_ | refine l_len_string rfl Try.underlying23 rfl ?_) | refine l_no rfl rfl rfl rfl ?_ | refine l_no' rfl rfl rfl ?_
      first | (refine l_yes rfl rfl ?_; first | refine l_geq rfl rfl rfl ?_) | refine l_no rfl rfl rfl rfl ?_ | refine l_no' rfl rfl rfl ?_
      refine l_pick rfl rfl rfl ?_
      refine l_nil ?_
      refine c_if _ rfl (fun hc => ?_) (fun hc => ?_)
      · refine c_seq ?_
        refine c_region ?_
        refine l_move rfl rfl ?_
        refine l_assign rfl rfl ?_
        refine l_nil ?_
        refine c_ret ⟨.inr rfl, _, rfl, _, rfl, ?_⟩
        rw [← hout (by omega)]
        exact h
      · refine c_skip ?_
        exact ⟨⟨rfl, rfl, rfl, trivial⟩, by omega, h⟩
  clear h
  rintro w ⟨⟨ha0, han⟩, h⟩
  obtain ⟨an, rfl⟩ : ∃ an : Nat, a = (an : Int) := ⟨a.toNat, by omega⟩
  have hal : an < g.length := by omega
  obtain ⟨k, t', hwork, htl, ht⟩ := work_from (n := g.length) (rows := fun x => okRow g.length (g.getD x [])) (fun x y hy => ((okRow_mem _ _ _).1 hy).1) (nats (edgesF g)) (fun x y hx => okRow_edge g x y hx) hal
  have : t' = t := bits_unique (g := g) (a := (an : Int)) ⟨htl, fun y hy => by
    rw [ht y, Int.toNat_natCast]
    constructor
    · rintro ⟨-, h3⟩; exact ⟨ha0, han, h3⟩
    · rintro ⟨-, -, h3⟩; exact ⟨hy, h3⟩⟩ hbits
  subst this
  clear hbits ht
  refine c_seq ?_
  refine c_region ?_
  obtain ⟨Ah, ch, rfl, -, -⟩ := h.os_form' (l := g.length) (by simp)
  obtain ⟨ah, rfl⟩ := h.osN_ad rfl kBool_pers (i := an) (by simpa using hal)
  obtain ⟨ag, rfl⟩ := (h.re [1]).rsN_ad rfl (i := an) hal
  refine l_move rfl rfl ?_
  refine l_move rfl rfl ?_
  first | refine l_indexAddr1 rfl Try.underlying41 (by first | exact sz_41) rfl rfl (by omega) ?_ | refine l_indexAddrN rfl Try.underlying41 (by first | exact sz_41) rfl rfl (by omega) ?_ | refine l_indexAddr rfl Try.underlying41 (by first | exact sz_41) rfl rfl (by omega) (by omega) ?_
  refine l_storeE plain4 rfl rfl rfl rfl (by simpa using hal) (h.addBool true |>.re [1]) ?_
  clear h; intro w h
  refine l_nil ?_
  refine c_seq ?_
  refine c_region ?_
  refine l_move rfl rfl ?_
  refine l_buildSlice1 (x := an) rfl Try.underlying26 sz3 zero3 rfl rfl (h.addNat an (by omega)) ?_
  clear h; intro vl w h
  refine l_assign rfl rfl ?_
  refine l_nil ?_
  refine c_seq ?_
  refine c_block ?_
  refine c_loop' (fun k env w => ∃ had l vh vl, Work g.length (fun x => okRow g.length (g.getD x [])) k (had, l) t' ∧ env = [(0, .slice (some ag) g.length c), (5, vh), (6, vl)] ∧ St w0 (pt osB vh had :: pt osN vl l :: pt rsII (.slice (some ag) g.length c) g :: L) w) k [(0, .slice (some ag) g.length c), (5, (.slice (some ah) g.length ch)), (6, vl)] ⟨rfl, rfl, rfl, trivial⟩ ⟨_, _, _, _, hwork, rfl, h.re [1, 0]⟩ ?_
  clear h hwork
  rintro k env w ⟨had, l, vh, vl, hwork, rfl, h⟩
  obtain ⟨Al, cl, rfl, hcl, -⟩ := (h.re [1]).os_form
  refine c_seq ?_
  refine c_seq ?_
  refine c_region ?_
  refine l_move rfl rfl ?_
  first | refine l_len rfl Try.underlying26 rfl ?_ | refine l_len_string rfl Try.underlying26 rfl ?_
  refine l_gtr rfl rfl rfl ?_
  refine l_nil ?_
  cases hwork with
  | done hl =>
    refine c_set 29 (.bool false) rfl rfl ?_
    refine c_condF rfl ?_
    refine c_exit ?_
    refine c_seq ?_
    refine c_region ?_
    refine l_move rfl rfl ?_
    refine l_assign rfl rfl ?_
    refine l_nil ?_
    refine c_ret ⟨.inr rfl, _, rfl, _, rfl, (h.re [1]).drop⟩
  | @step k had l x t hl hx hb hrx hwork =>
  have hll : (l ++ [x]).length = l.length + 1 := by simp
  rw [hll] at h hcl ⊢
  refine c_set 29 (.bool true) rfl (vT (by omega)) ?_
  refine c_condT rfl ?_
  refine c_skip ?_
  refine c_block ?_
  refine c_seq ?_
  refine c_region ?_
  obtain ⟨al, rfl⟩ := (h.re [1]).osN_ad rfl kN_pers (i := l.length) (by simp)
  have q := ((h.re [1]).osN_at (i := l.length) (by simp)).1
  have hget : (l ++ [x])[l.length]'(by simp) = x := by simp
  rw [hget] at q
  refine l_move rfl rfl ?_
  refine l_move rfl rfl ?_
  first | refine l_len rfl Try.underlying26 rfl ?_ | refine l_len_string rfl Try.underlying26 rfl ?_
  refine l_subr rfl rfl rfl (by omega) (by omega) ?_
  refine l_set 33 (.int .i64 (l.length : Int)) rfl (by rw [show ((l.length + 1 : Nat) : Int) - 1 = (l.length : Int) by omega]) ?_
  first | refine l_indexAddr1 rfl Try.underlying26 (by first | exact sz_26) rfl rfl (by omega) ?_ | refine l_indexAddrN rfl Try.underlying26 (by first | exact sz_26) rfl rfl (by omega) ?_ | refine l_indexAddr rfl Try.underlying26 (by first | exact sz_26) rfl rfl (by omega) (by omega) ?_
  refine l_load rfl plain3 rfl (by assumption) ?_
  refine l_assign rfl rfl ?_
  refine l_nil ?_
  refine c_seq ?_
  refine c_region ?_
  refine l_move rfl rfl ?_
  refine l_move rfl rfl ?_
  first | refine l_len rfl Try.underlying26 rfl ?_ | refine l_len_string rfl Try.underlying26 rfl ?_
  refine l_subr rfl rfl rfl (by omega) (by omega) ?_
  refine l_set 39 (.int .i64 (l.length : Int)) rfl (by rw [show ((l.length + 1 : Nat) : Int) - 1 = (l.length : Int) by omega]) ?_
  refine l_slice_h rfl Try.underlying26 sz3 rfl rfl (by omega) (by omega) ?_
  simp only [Int.toNat_natCast]
  refine l_assign rfl rfl ?_
  refine l_nil ?_
  clear q
  have hcut := (h.re [1]).os_cut l.length (by simp)
  have htk : (l ++ [x]).take l.length = l := by simp
  rw [htk] at hcut
  replace h : St w0 (pt osB vh had :: pt osN (.slice (some al) l.length cl) l :: pt rsII (.slice (some ag) g.length c) g :: L) w := hcut.re [1, 0]
  clear hcut htk
  refine c_seq ?_
  refine c_region ?_
  refine l_assign rfl rfl ?_
  refine l_nil ?_
  obtain ⟨row, hrow⟩ : ∃ row, row = g[x] := ⟨_, rfl⟩
  have hrowD : g.getD x [] = row := by simp [List.getD_eq_getElem?_getD, hx, hrow]
  have hrlen : row.length ≤ 100000 := hr row (by rw [hrow]; exact List.getElem_mem hx)
  simp only [hrowD] at hrx hwork
  refine c_block ?_
  refine c_loop' (fun m env w => ∃ j vh vl, j + m = row.length ∧ env = [(0, .slice (some ag) g.length c), (5, vh), (6, vl), (7, .int .i64 (x : Int)), (8, .int .i64 (j : Int))] ∧ (pushF (okRow g.length (row.take j)) (had, l)).2.length ≤ l.length + j ∧ St w0 (pt osB vh (pushF (okRow g.length (row.take j)) (had, l)).1 :: pt osN vl (pushF (okRow g.length (row.take j)) (had, l)).2 :: pt rsII (.slice (some ag) g.length c) g :: L) w) row.length [(0, .slice (some ag) g.length c), (5, vh), (6, (.slice (some al) l.length cl)), (7, .int .i64 (x : Int)), (8, .int .i64 ((0 : Nat) : Int))] ⟨rfl, rfl, rfl, rfl, rfl, trivial⟩ ⟨0, _, _, by omega, rfl, by simp [pushF, okRow], by simpa [pushF, okRow] using h⟩ ?_
  clear h
  rintro m env w ⟨j, vh, vl, hjm, rfl, hpl, h⟩
  obtain ⟨ag', u, hA, q, h1⟩ := (h.re [2]).rs_cell rfl rfl x hx
  cases hA
  rw [← hrow] at h1
  obtain ⟨Ar, cr, rfl, -, -⟩ := h1.rs_form
  refine c_seq ?_
  refine c_seq ?_
  refine c_region ?_
  refine l_move rfl rfl ?_
  refine l_move rfl rfl ?_
  refine l_move rfl rfl ?_
  first | refine l_indexAddr1 rfl Try.underlying23 (by first | exact sz_23) rfl rfl (by omega) ?_ | refine l_indexAddrN rfl Try.underlying23 (by first | exact sz_23) rfl rfl (by omega) ?_ | refine l_indexAddr rfl Try.underlying23 (by first | exact sz_23) rfl rfl (by omega) (by omega) ?_
  refine l_load rfl plain26 rfl (by assumption) ?_
  first | refine l_len rfl Try.underlying26 rfl ?_ | refine l_len_string rfl Try.underlying26 rfl ?_
  first | refine l_lss rfl rfl rfl ?_ | refine l_slss rfl rfl rfl ?_
  refine l_nil ?_
  refine c_if _ rfl (fun hc => ?_) (fun hc => ?_)
  · refine c_skip ?_
    have hj : j < row.length := by omega
    obtain ⟨ar, rfl⟩ := h1.rsN_ad rfl hj
    obtain ⟨q1, hb1, hb2⟩ := h1.rsI_at hj
    obtain ⟨y, hy⟩ : ∃ y, y = row[j] := ⟨_, rfl⟩
    rw [← hy] at q1 hb1 hb2
    have htk : row.take (j + 1) = row.take j ++ [y] := by rw [hy]; exact List.take_succ_eq_append_getElem hj
    refine c_seq ?_
    refine c_block ?_
    refine c_seq ?_
    refine c_region ?_
    refine l_move rfl rfl ?_
    refine l_move rfl rfl ?_
    first | refine l_indexAddr1 rfl Try.underlying23 (by first | exact sz_23) rfl rfl (by omega) ?_ | refine l_indexAddrN rfl Try.underlying23 (by first | exact sz_23) rfl rfl (by omega) ?_ | refine l_indexAddr rfl Try.underlying23 (by first | exact sz_23) rfl rfl (by omega) (by omega) ?_
    refine l_load rfl plain26 rfl (by assumption) ?_
    refine l_move rfl rfl ?_
    first | refine l_indexAddr1 rfl Try.underlying26 (by first | exact sz_26) rfl rfl (by omega) ?_ | refine l_indexAddrN rfl Try.underlying26 (by first | exact sz_26) rfl rfl (by omega) ?_ | refine l_indexAddr rfl Try.underlying26 (by first | exact sz_26) rfl rfl (by omega) (by omega) ?_
    refine l_load rfl plain3 rfl (by assumption) ?_
    refine l_assign rfl rfl ?_
    refine l_nil ?_
    clear q q1 h1
    have hok := okRow_snoc g.length (row.take j) y
    rw [← htk] at hok
    refine c_seq ?_
    refine c_region ?_
    refine l_move rfl rfl ?_
    refine l_geq rfl rfl rfl ?_
    by_cases hr0 : 0 ≤ y ∧ y < (g.length : Int)
    · rw [if_pos hr0] at hok
      obtain ⟨yn, rfl⟩ : ∃ yn : Nat, y = (yn : Int) := ⟨y.toNat, by omega⟩
      have hyn : yn < g.length := by omega
      rw [Int.toNat_natCast] at hok
      refine l_set 58 (.bool true) rfl (vT hr0.1) ?_
      refine l_move rfl rfl ?_
      first | (refine l_yes rfl rfl ?_; first | refine l_move rfl rfl ?_) | refine l_no rfl rfl rfl rfl ?_ | refine l_no' rfl rfl rfl ?_
      first | (refine l_yes rfl rfl ?_; first | refine l_move rfl rfl ?_) | refine l_no rfl rfl rfl rfl ?_ | refine l_no' rfl rfl rfl ?_
      first | (refine l_yes rfl rfl ?_; first | refine l_len rfl Try.underlying23 rfl ?_ | refine l_len_string rfl Try.underlying23 rfl ?_) | refine l_no rfl rfl rfl rfl ?_ | refine l_no' rfl rfl rfl ?_
      first | (refine l_yes rfl rfl ?_; first | refine l_lss rfl rfl rfl ?_ | refine l_slss rfl rfl rfl ?_) | refine l_no rfl rfl rfl rfl ?_ | refine l_no' rfl rfl rfl ?_
      refine l_set 63 (.bool true) rfl (vT hr0.2) ?_
      obtain ⟨p, hp⟩ : ∃ p, p = pushF (okRow g.length (row.take j)) (had, l) := ⟨_, rfl⟩
      have hsn := pushF_snoc yn (okRow g.length (row.take j)) (had, l)
      rw [← hok, ← hp] at hsn
      rw [← hp] at h hpl
      have hp1 : p.1.length = g.length := by rw [hp, pushF_len]; exact hl
      obtain ⟨Ah, ch, rfl, -, -⟩ := h.os_form' (l := g.length) hp1
      obtain ⟨ah, rfl⟩ := h.osN_ad rfl kBool_pers (i := yn) (by omega)
      have q2 := h.osB_at (i := yn) (by omega)
      have hD : p.1.getD yn false = p.1[yn]'(by omega) := by simp [List.getD_eq_getElem?_getD, show yn < p.1.length by omega]
      refine l_pick rfl rfl rfl ?_
      refine l_move rfl rfl ?_
      first | (refine l_yes rfl rfl ?_; first | refine l_move rfl rfl ?_) | refine l_no rfl rfl rfl rfl ?_ | refine l_no' rfl rfl rfl ?_
      first | (refine l_yes rfl rfl ?_; first | refine l_move rfl rfl ?_) | refine l_no rfl rfl rfl rfl ?_ | refine l_no' rfl rfl rfl ?_
      first | (refine l_yes rfl rfl ?_; first | refine l_indexAddr1 rfl Try.underlying41 (by first | exact sz_41) rfl rfl (by omega) ?_ | refine l_indexAddrN rfl Try.underlying41 (by first | exact sz_41) rfl rfl (by omega) ?_ | refine l_indexAddr rfl Try.underlying41 (by first | exact sz_41) rfl rfl (by omega) (by omega) ?_) | refine l_no rfl rfl rfl rfl ?_ | refine l_no' rfl rfl rfl ?_
      first | (refine l_yes rfl rfl ?_; first | refine l_load rfl plain4 rfl (by assumption) ?_) | refine l_no rfl rfl rfl rfl ?_ | refine l_no' rfl rfl rfl ?_
      first | (refine l_yes rfl rfl ?_; first | refine l_not rfl rfl ?_) | refine l_no rfl rfl rfl rfl ?_ | refine l_no' rfl rfl rfl ?_
      refine l_pick rfl rfl rfl ?_
      refine l_nil ?_
      clear q2
      cases hb2 : p.1[yn]'(by omega) with
      | true =>
        refine c_condF rfl ?_
        refine c_skip ?_
        refine c_region ?_
        refine l_move rfl rfl ?_
        first | refine l_addr rfl rfl rfl (by omega) (by omega) ?_ | refine l_sadd rfl rfl rfl (by omega) ?_
        refine l_assign rfl rfl ?_
        refine l_nil ?_
        rw [hD, hb2, if_pos rfl] at hsn
        refine ⟨m - 1, [(0, .slice (some ag) g.length c), (5, (.slice (some ah) g.length ch)), (6, vl), (7, .int .i64 (x : Int)), (8, .int .i64 ((j + 1 : Nat) : Int))], by omega, ⟨rfl, rfl, rfl, rfl, rfl, trivial⟩, j + 1, _, _, by omega, rfl, ?_, ?_⟩
        · rw [hsn]; omega
        · rw [hsn]; exact h
      | false =>
        rw [hD, hb2, if_neg (by simp)] at hsn
        refine c_condT rfl ?_
        refine c_seq ?_
        refine c_region ?_
        refine l_move rfl rfl ?_
        refine l_move rfl rfl ?_
        first | refine l_indexAddr1 rfl Try.underlying41 (by first | exact sz_41) rfl rfl (by omega) ?_ | refine l_indexAddrN rfl Try.underlying41 (by first | exact sz_41) rfl rfl (by omega) ?_ | refine l_indexAddr rfl Try.underlying41 (by first | exact sz_41) rfl rfl (by omega) (by omega) ?_
        refine l_storeE plain4 rfl rfl rfl rfl (by omega) (h.addBool true |>.re [1]) ?_
        clear h; intro w h
        refine l_nil ?_
        refine c_region ?_
        refine l_move rfl rfl ?_
        refine l_move rfl rfl ?_
        refine l_buildSlice1 (x := yn) rfl Try.underlying26 sz3 zero3 rfl rfl (h.addNat yn (by omega)) ?_
        clear h; intro bs w h
        refine l_append rfl Try.underlying26 info3 rfl (by decide) rfl rfl (h.re [2, 0]) (by simp only [List.length_cons, List.length_nil]; omega) (by simp only [List.length_cons, List.length_nil]; unfold maxLen; omega) ?_
        clear h; intro vl2 w h
        refine l_assign rfl rfl ?_
        refine l_nil ?_
        refine c_region ?_
        refine l_move rfl rfl ?_
        first | refine l_addr rfl rfl rfl (by omega) (by omega) ?_ | refine l_sadd rfl rfl rfl (by omega) ?_
        refine l_assign rfl rfl ?_
        refine l_nil ?_
        refine ⟨m - 1, [(0, .slice (some ag) g.length c), (5, (.slice (some ah) g.length ch)), (6, vl2), (7, .int .i64 (x : Int)), (8, .int .i64 ((j + 1 : Nat) : Int))], by omega, ⟨rfl, rfl, rfl, rfl, rfl, trivial⟩, j + 1, _, _, by omega, rfl, ?_, ?_⟩
        · rw [hsn]; simp; omega
        · rw [hsn]; exact h.re [1, 0]
    · rw [if_neg hr0] at hok
      have hend : ∀ w, St w0 (pt osB vh (pushF (okRow g.length (row.take j)) (had, l)).1 :: pt osN vl (pushF (okRow g.length (row.take j)) (had, l)).2 :: pt rsII (.slice (some ag) g.length c) g :: L) w → St w0 (pt osB vh (pushF (okRow g.length (row.take (j + 1))) (had, l)).1 :: pt osN vl (pushF (okRow g.length (row.take (j + 1))) (had, l)).2 :: pt rsII (.slice (some ag) g.length c) g :: L) w := fun w h => by rw [hok]; exact h
      by_cases hy0 : 0 ≤ y
      · refine l_set 58 (.bool true) rfl (vT hy0) ?_
        refine l_move rfl rfl ?_
        first | (refine l_yes rfl rfl ?_; first | refine l_move rfl rfl ?_) | refine l_no rfl rfl rfl rfl ?_ | refine l_no' rfl rfl rfl ?_
        first | (refine l_yes rfl rfl ?_; first | refine l_move rfl rfl ?_) | refine l_no rfl rfl rfl rfl ?_ | refine l_no' rfl rfl rfl ?_
        first | (refine l_yes rfl rfl ?_; first | refine l_len rfl Try.underlying23 rfl ?_ | refine l_len_string rfl Try.underlying23 rfl ?_) | refine l_no rfl rfl rfl rfl ?_ | refine l_no' rfl rfl rfl ?_
        first | (refine l_yes rfl rfl ?_; first | refine l_lss rfl rfl rfl ?_ | refine l_slss rfl rfl rfl ?_) | refine l_no rfl rfl rfl rfl ?_ | refine l_no' rfl rfl rfl ?_
        refine l_set 63 (.bool false) rfl (vF (by omega)) ?_
        refine l_pick rfl rfl rfl ?_
        refine l_move rfl rfl ?_
        first | (refine l_yes rfl rfl ?_; first | refine l_move rfl rfl ?_) | refine l_no rfl rfl rfl rfl ?_ | refine l_no' rfl rfl rfl ?_
        first | (refine l_yes rfl rfl ?_; first | refine l_move rfl rfl ?_) | refine l_no rfl rfl rfl rfl ?_ | refine l_no' rfl rfl rfl ?_
        first | (refine l_yes rfl rfl ?_; first | refine l_indexAddr1 rfl Try.underlying41 (by first | exact sz_41) rfl rfl (by omega) ?_ | refine l_indexAddrN rfl Try.underlying41 (by first | exact sz_41) rfl rfl (by omega) ?_ | refine l_indexAddr rfl Try.underlying41 (by first | exact sz_41) rfl rfl (by omega) (by omega) ?_) | refine l_no rfl rfl rfl rfl ?_ | refine l_no' rfl rfl rfl ?_
        first | (refine l_yes rfl rfl ?_; first | refine l_load rfl plain4 rfl (by assumption) ?_) | refine l_no rfl rfl rfl rfl ?_ | refine l_no' rfl rfl rfl ?_
        first | (refine l_yes rfl rfl ?_; first | refine l_not rfl rfl ?_) | refine l_no rfl rfl rfl rfl ?_ | refine l_no' rfl rfl rfl ?_
        refine l_pick rfl rfl rfl ?_
        refine l_nil ?_
        refine c_condF rfl ?_
        refine c_skip ?_
        refine c_region ?_
        refine l_move rfl rfl ?_
        first | refine l_addr rfl rfl rfl (by omega) (by omega) ?_ | refine l_sadd rfl rfl rfl (by omega) ?_
        refine l_assign rfl rfl ?_
        refine l_nil ?_
        exact ⟨m - 1, [(0, .slice (some ag) g.length c), (5, vh), (6, vl), (7, .int .i64 (x : Int)), (8, .int .i64 ((j + 1 : Nat) : Int))], by omega, ⟨rfl, rfl, rfl, rfl, rfl, trivial⟩, j + 1, _, _, by omega, rfl, by rw [hok]; omega, hend w h⟩
      · refine l_set 58 (.bool false) rfl (vF hy0) ?_
        refine l_move rfl rfl ?_
        first | (refine l_yes rfl rfl ?_; first | refine l_move rfl rfl ?_) | refine l_no rfl rfl rfl rfl ?_ | refine l_no' rfl rfl rfl ?_
        first | (refine l_yes rfl rfl ?_; first | refine l_move rfl rfl ?_) | refine l_no rfl rfl rfl rfl ?_ | refine l_no' rfl rfl rfl ?_
        first | (refine l_yes rfl rfl ?_; first | refine l_len rfl Try.underlying23 rfl ?_ | refine l_len_string rfl Try.underlying23 rfl ?_) | refine l_no rfl rfl rfl rfl ?_ | refine l_no' rfl rfl rfl ?_
        first | (refine l_yes rfl rfl ?_; first | refine l_lss rfl rfl rfl ?_ | refine l_slss rfl rfl rfl ?_) | refine l_no rfl rfl rfl rfl ?_ | refine l_no' rfl rfl rfl ?_
        refine l_pick rfl rfl rfl ?_
        refine l_move rfl rfl ?_
        first | (refine l_yes rfl rfl ?_; first | refine l_move rfl rfl ?_) | refine l_no rfl rfl rfl rfl ?_ | refine l_no' rfl rfl rfl ?_
        first | (refine l_yes rfl rfl ?_; first | refine l_move rfl rfl ?_) | refine l_no rfl rfl rfl rfl ?_ | refine l_no' rfl rfl rfl ?_
        first | (refine l_yes rfl rfl ?_; first | refine l_indexAddr1 rfl Try.underlying41 (by first | exact sz_41) rfl rfl (by omega) ?_ | refine l_indexAddrN rfl Try.underlying41 (by first | exact sz_41) rfl rfl (by omega) ?_ | refine l_indexAddr rfl Try.underlying41 (by first | exact sz_41) rfl rfl (by omega) (by omega) ?_) | refine l_no rfl rfl rfl rfl ?_ | refine l_no' rfl rfl rfl ?_
        first | (refine l_yes rfl rfl ?_; first | refine l_load rfl plain4 rfl (by assumption) ?_) | refine l_no rfl rfl rfl rfl ?_ | refine l_no' rfl rfl rfl ?_
        first | (refine l_yes rfl rfl ?_; first | refine l_not rfl rfl ?_) | refine l_no rfl rfl rfl rfl ?_ | refine l_no' rfl rfl rfl ?_
        refine l_pick rfl rfl rfl ?_
        refine l_nil ?_
        refine c_condF rfl ?_
        refine c_skip ?_
        refine c_region ?_
        refine l_move rfl rfl ?_
        first | refine l_addr rfl rfl rfl (by omega) (by omega) ?_ | refine l_sadd rfl rfl rfl (by omega) ?_
        refine l_assign rfl rfl ?_
        refine l_nil ?_
        exact ⟨m - 1, [(0, .slice (some ag) g.length c), (5, vh), (6, vl), (7, .int .i64 (x : Int)), (8, .int .i64 ((j + 1 : Nat) : Int))], by omega, ⟨rfl, rfl, rfl, rfl, rfl, trivial⟩, j + 1, _, _, by omega, rfl, by rw [hok]; omega, hend w h⟩
  · refine c_exit ?_
    have hj : j = row.length := by omega
    subst hj
    rw [List.take_length] at h
    exact ⟨k, [(0, .slice (some ag) g.length c), (5, vh), (6, vl)], by omega, ⟨rfl, rfl, rfl, trivial⟩, _, _, _, _, hwork, rfl, h⟩
end Go.Proofs.Ythamopcfpmkbfaa
