/- The finder of groups: all that is come to from a node. No condition but that the graph is small. -/
import Derived.Test.YthamopcfpmkbfaaGL
set_option linter.unusedVariables false
set_option linter.unusedSimpArgs false
namespace Go.Proofs.Ythamopcfpmkbfaa
open Go.Proofs.Fw
theorem minI (a b : Nat) : (if (b : Int) < (a : Int) then (b : Int) else (a : Int)) = ((min a b : Nat) : Int) := by split <;> omega
theorem safe_lowUp {n : Nat} {s : Fnd} (h : Safe n s) (u m : Nat) : Safe n (lowUp s u m) := ⟨h.out, h.rows, h.num, by simp [lowUp, h.low], h.is, h.opn, h.nodes, h.count, h.groups, h.small⟩
theorem round_head {n : Nat} {S S' : List (Nat × Nat)} {s s' : Fnd} (h : Round n (S, s) (S', s')) : ∃ x i st, S = (x, i) :: st ∧ Safe n s ∧ x < n ∧ st.length < n := by
  cases h with
  | new hs hx hl => exact ⟨_, _, _, rfl, hs, hx, hl⟩
  | back hs hx hl => exact ⟨_, _, _, rfl, hs, hx, hl⟩
  | cross hs hx hl => exact ⟨_, _, _, rfl, hs, hx, hl⟩
  | last hs hx => exact ⟨_, _, _, rfl, hs, hx, by simp; omega⟩
  | up hs hx hu hl => exact ⟨_, _, _, rfl, hs, hx, by simpa using hl⟩
variable {w0 w : World} {L : List Res} {b n : Nat} {f : FV} {s t : Fnd}
abbrev osP : Kd (List (Nat × Nat)) := os 54 kPair
theorem info54' : (Try.prog.info? 54).map (fun i => (i.zero, i.size, i.bytes)) = some (some (.agg #[.int .i64 0, .int .i64 0]), kPair.sz, 16) := info54
set_option maxRecDepth 4000 in
theorem from_calls {m : Nat} (hs : Safe n s) (x : Nat) (hx : x < n) (hc : s.count < n) (ho : s.opn.length < n) (hr : Runs n m [(x, 0)] (enterF s x) t) (h : St w0 (fndL b f s L) w) :
    Calls Try.prog 28 #[.pointer (some ⟨b, 0, none⟩), .int .i64 (x : Int)] w fun e w' => e = .returned (.tuple #[]) ∧ ∃ f', St w0 (fndL b f' t L) w' := by
  have hn := hs.small
  refine f_zero Try.func28 rfl Try.results28 Try.ntmps28 rfl ?_
  refine c_seq ?_
  refine c_region ?_
  refine l_move rfl rfl ?_
  refine l_move rfl rfl ?_
  refine l_call rfl Try.func34 rfl (by decide) rfl (enter_calls hs x hx hc ho h) ?_
  clear h
  rintro e w ⟨rfl, f, h⟩
  refine ⟨_, rfl, ?_⟩
  refine l_buildPair (x := x) (i := 0) rfl Try.underlying56 sz54 zero54 rfl (by unfold big; omega) (by unfold big; omega) h ?_
  clear h; intro v w h
  refine l_assign rfl rfl ?_
  refine l_nil ?_
  refine c_block ?_
  refine c_loop' (fun m env w => ∃ S s f v, Runs n m S s t ∧ env = [(0, .pointer (some ⟨b, 0, none⟩)), (4, v)] ∧ St w0 (pt osP v S.reverse :: fndL b f s L) w) m [(0, .pointer (some ⟨b, 0, none⟩)), (4, v)] ⟨rfl, rfl, trivial⟩ ⟨_, _, _, _, hr, rfl, h⟩ ?_
  clear h hr hs hc ho
  rintro m env w ⟨S, s, f, v, hr, rfl, h⟩
  obtain ⟨As, cs, rfl, hcs, -⟩ := h.os_form
  refine c_seq ?_
  refine c_seq ?_
  refine c_region ?_
  refine l_move rfl rfl ?_
  first | refine l_len rfl Try.underlying56 rfl ?_ | refine l_len_string rfl Try.underlying56 rfl ?_
  refine l_gtr rfl rfl rfl ?_
  refine l_nil ?_
  cases hr with
  | done =>
    refine c_set 15 (.bool false) rfl rfl ?_
    refine c_condF rfl ?_
    refine c_exit ?_
    exact ⟨.inl rfl, by trivial, f, h.drop⟩
  | @step m S s S' s' t hround hr =>
  obtain ⟨x, i, st, rfl, hs, hx, hl⟩ := round_head hround
  obtain ⟨s1, s2, s3, s4, s5, s6, s7, s8, s9, s10⟩ := hs
  obtain ⟨out, num, low, opn, is, count, groups⟩ := s
  simp only [] at s1 s2 s3 s4 s5 s6 s7 s8 s9
  obtain ⟨fo, fnu, flo, fop, fis, fgr⟩ := f
  have hSl : ((x, i) :: st).reverse.length = st.length + 1 := by simp
  rw [hSl] at h hcs ⊢
  obtain ⟨ad, rfl, -, -, -, hib⟩ := h.stk_at (k := st.length) (by rw [hSl]; omega)
  have hget : ((x, i) :: st).reverse[st.length]'(by rw [hSl]; omega) = (x, i) := by simp
  rw [hget] at hib
  simp only [] at hib
  obtain ⟨A0, c0, rfl, -, -⟩ := ((h.re [7]).rs_form' s1)
  obtain ⟨A1, c1, rfl, -, -⟩ := ((h.re [2]).os_form' s3)
  obtain ⟨A2, c2, rfl, -, -⟩ := ((h.re [3]).os_form' s4)
  obtain ⟨A4, c4, rfl, -, -⟩ := ((h.re [5]).os_form' s5)
  obtain ⟨a0, rfl⟩ := (h.re [7]).rsN_ad rfl (i := x) (by simp only []; omega)
  obtain ⟨a1, rfl⟩ := (h.re [2]).osN_ad rfl kN_pers (i := x) (by simp only []; omega)
  obtain ⟨a2, rfl⟩ := (h.re [3]).osN_ad rfl kN_pers (i := x) (by simp only []; omega)
  obtain ⟨a4, rfl⟩ := (h.re [5]).osN_ad rfl kBool_pers (i := x) (by simp only []; omega)
  replace h : St w0 (pt osP (.slice (some ad) (st.length + 1) cs) (((x, i) :: st).reverse) :: blk b (.cells #[.slice (some a0) n c0, .slice (some a1) n c1, .slice (some a2) n c2, fop, .slice (some a4) n c4, .int .i64 (count : Int), fgr] 43 (0, 0)) :: pt osN (.slice (some a1) n c1) num :: pt osN (.slice (some a2) n c2) low :: pt osN fop opn :: pt osB (.slice (some a4) n c4) is :: pt osNN fgr groups :: pt rsNN (.slice (some a0) n c0) out :: L) w := h
  have hxo : x < out.length := by omega
  have hxl : x < low.length := by omega
  have hxn : x < num.length := by omega
  obtain ⟨row, hrow⟩ : ∃ row, row = out[x] := ⟨_, rfl⟩
  have hrowD : out.getD x [] = row := by simp [hxo, hrow]
  have hrin : row ∈ out := by rw [hrow]; exact List.getElem_mem hxo
  have hrlen : row.length ≤ n := (s2 row hrin).1
  have tops : ∀ w, St w0 (pt osP (.slice (some ad) (st.length + 1) cs) (((x, i) :: st).reverse) :: blk b (.cells #[.slice (some a0) n c0, .slice (some a1) n c1, .slice (some a2) n c2, fop, .slice (some a4) n c4, .int .i64 (count : Int), fgr] 43 (0, 0)) :: pt osN (.slice (some a1) n c1) num :: pt osN (.slice (some a2) n c2) low :: pt osN fop opn :: pt osB (.slice (some a4) n c4) is :: pt osNN fgr groups :: pt rsNN (.slice (some a0) n c0) out :: L) w → w.cell? ((ad.add (st.length * 2)).add 0) = some (.int .i64 (x : Int)) ∧ w.cell? ((ad.add (st.length * 2)).add 1) = some (.int .i64 (i : Int)) ∧ w.cell? ⟨b, 0, none⟩ = some (.slice (some a0) n c0) ∧
      ∃ Ar cr, w.cell? (a0.add x) = some (.slice Ar row.length cr) ∧ ∃ L', St w0 (pt (rs kN) (.slice Ar row.length cr) row :: L') w := by
    intro w h
    obtain ⟨ad', had, p0, p1, -, -⟩ := h.stk_at (k := st.length) (by rw [hSl]; omega)
    cases had
    rw [hget] at p0 p1
    obtain ⟨a0', u, hA0, q0, h2⟩ := (h.re [7]).rs_cell rfl rfl x hxo
    cases hA0
    rw [← hrow] at h2
    obtain ⟨Ar, cr, rfl, -, -⟩ := h2.rs_form
    exact ⟨p0, p1, (fnd_cells (h.re [1])).1, Ar, cr, q0, _, h2⟩
  refine c_set 15 (.bool true) rfl (vT (by omega)) ?_
  refine c_condT rfl ?_
  refine c_skip ?_
  refine c_block ?_
  refine c_seq ?_
  refine c_region ?_
  refine l_move rfl rfl ?_
  refine l_move rfl rfl ?_
  first | refine l_len rfl Try.underlying56 rfl ?_ | refine l_len_string rfl Try.underlying56 rfl ?_
  refine l_subr rfl rfl rfl (by omega) (by omega) ?_
  refine l_set 19 (.int .i64 (st.length : Int)) rfl (by rw [show ((st.length + 1 : Nat) : Int) - 1 = (st.length : Int) by omega]) ?_
  first | refine l_indexAddr1 rfl Try.underlying56 (by first | exact sz_56) rfl rfl (by omega) ?_ | refine l_indexAddrN rfl Try.underlying56 (by first | exact sz_56) rfl rfl (by omega) ?_ | refine l_indexAddr rfl Try.underlying56 (by first | exact sz_56) rfl rfl (by omega) (by omega) ?_
  refine l_assign rfl rfl ?_
  refine l_nil ?_
  refine c_seq ?_
  refine c_seq ?_
  refine c_draw (by kernel_rfl) (fun w1 W => W = w1) (fun i => ([4, 5, 6, 7, 8, 9, 10, 11, 12, 13, 14] : List Nat).contains i) [.p 0 [], .p 1 [], .p 2 [], .q 3 [15], .p 4 [], .p 5 [], .p 6 [], .q 7 [12, 13, 14, 15], .p 8 [], .p 9 [], .p 10 [], .q 11 [12, 13, 14, 15], .p 12 [], .q 13 [14, 15], .p 14 [], .p 15 []] (by kernel_rfl) rfl (by kernel_rfl) h ?_
  clear h; intro w h hw
  obtain ⟨p0, p1, f0, Ar, cr, q0, L1, h1⟩ := tops w h
  clear hw
  refine d_val rfl rfl (e_move rfl) ?_
  refine d_val rfl rfl (e_nilCheck rfl) ?_
  first | refine d_val rfl rfl (e_fieldAddr0 1 Try.underlying54 rfl szF54_1 rfl rfl) ?_ | refine d_val rfl rfl (e_fieldAddrA 1 Try.underlying54 rfl szF54_1 rfl rfl) ?_
  refine d_load1 rfl rfl plain3 rfl (by assumption) ?_
  refine d_val rfl rfl (e_move rfl) ?_
  refine d_val rfl rfl (e_nilCheck rfl) ?_
  first | refine d_val rfl rfl (e_fieldAddr0 0 Try.underlying43 rfl szF43_0 rfl rfl) ?_ | refine d_val rfl rfl (e_fieldAddrA 0 Try.underlying43 rfl szF43_0 rfl rfl) ?_
  refine d_load1 rfl rfl plain23 rfl (by assumption) ?_
  refine d_val rfl rfl (e_move rfl) ?_
  refine d_val rfl rfl (e_nilCheck rfl) ?_
  first | refine d_val rfl rfl (e_fieldAddr0 0 Try.underlying54 rfl szF54_0 rfl rfl) ?_ | refine d_val rfl rfl (e_fieldAddrA 0 Try.underlying54 rfl szF54_0 rfl rfl) ?_
  refine d_load1 rfl rfl plain3 rfl (by assumption) ?_
  first | refine d_val rfl rfl (e_indexAddr1 Try.underlying23 (by first | exact sz_23) rfl rfl (by omega)) ?_ | refine d_val rfl rfl (e_indexAddrN Try.underlying23 (by first | exact sz_23) rfl rfl (by omega)) ?_ | refine d_val rfl rfl (e_indexAddr Try.underlying23 (by first | exact sz_23) rfl rfl (by omega) (by omega)) ?_
  refine d_load1 rfl rfl plain26 rfl (by assumption) ?_
  first | refine d_val rfl rfl (e_len Try.underlying26 rfl) ?_ | refine d_val rfl rfl (e_len_string Try.underlying26 rfl) ?_
  first | refine d_val rfl rfl (e_lss rfl rfl) ?_ | refine d_val rfl rfl (e_slss rfl rfl) ?_
  refine d_nil ?_
  refine c_if _ rfl (fun hc => ?_) (fun hc => ?_)
  · have hi : i < row.length := by omega
    obtain ⟨y, hy⟩ : ∃ y, y = row[i] := ⟨_, rfl⟩
    have hyD : row.getD i 0 = y := by simp [hi, hy]
    have hyn : y < n := (s2 row hrin).2 y (by rw [hy]; exact List.getElem_mem hi)
    refine c_seq ?_
    refine c_draw (by kernel_rfl) (fun w1 W => W = w1) (fun i => ([4, 5, 6, 7, 10, 11, 12, 13] : List Nat).contains i) [.p 0 [], .p 1 [], .p 2 [], .q 3 [8, 9, 14, 15, 16], .p 4 [], .p 5 [], .p 6 [], .q 7 [8, 9, 14, 15, 16], .p 8 [], .q 9 [14, 15, 16], .p 10 [], .p 11 [], .p 12 [], .q 13 [14, 15, 16], .p 14 [], .q 15 [16], .p 16 []] (by kernel_rfl) rfl (by kernel_rfl) h ?_
    clear h h1 p0 p1 f0 q0; intro w h hw
    obtain ⟨p0, p1, f0, Ar, cr, q0, L1, h1⟩ := tops w h
    obtain ⟨ar, rfl⟩ := h1.rsN_ad rfl hi
    have r0 := (h1.rsN_at hi).1
    rw [← hy] at r0
    clear hw
    refine d_val rfl rfl (e_move rfl) ?_
    refine d_val rfl rfl (e_nilCheck rfl) ?_
    first | refine d_val rfl rfl (e_fieldAddr0 0 Try.underlying43 rfl szF43_0 rfl rfl) ?_ | refine d_val rfl rfl (e_fieldAddrA 0 Try.underlying43 rfl szF43_0 rfl rfl) ?_
    refine d_load1 rfl rfl plain23 rfl (by assumption) ?_
    refine d_val rfl rfl (e_move rfl) ?_
    refine d_val rfl rfl (e_nilCheck rfl) ?_
    first | refine d_val rfl rfl (e_fieldAddr0 0 Try.underlying54 rfl szF54_0 rfl rfl) ?_ | refine d_val rfl rfl (e_fieldAddrA 0 Try.underlying54 rfl szF54_0 rfl rfl) ?_
    refine d_load1 rfl rfl plain3 rfl (by assumption) ?_
    first | refine d_val rfl rfl (e_indexAddr1 Try.underlying23 (by first | exact sz_23) rfl rfl (by omega)) ?_ | refine d_val rfl rfl (e_indexAddrN Try.underlying23 (by first | exact sz_23) rfl rfl (by omega)) ?_ | refine d_val rfl rfl (e_indexAddr Try.underlying23 (by first | exact sz_23) rfl rfl (by omega) (by omega)) ?_
    refine d_load1 rfl rfl plain26 rfl (by assumption) ?_
    refine d_val rfl rfl (e_move rfl) ?_
    refine d_val rfl rfl (e_nilCheck rfl) ?_
    first | refine d_val rfl rfl (e_fieldAddr0 1 Try.underlying54 rfl szF54_1 rfl rfl) ?_ | refine d_val rfl rfl (e_fieldAddrA 1 Try.underlying54 rfl szF54_1 rfl rfl) ?_
    refine d_load1 rfl rfl plain3 rfl (by assumption) ?_
    first | refine d_val rfl rfl (e_indexAddr1 Try.underlying26 (by first | exact sz_26) rfl rfl (by omega)) ?_ | refine d_val rfl rfl (e_indexAddrN Try.underlying26 (by first | exact sz_26) rfl rfl (by omega)) ?_ | refine d_val rfl rfl (e_indexAddr Try.underlying26 (by first | exact sz_26) rfl rfl (by omega) (by omega)) ?_
    refine d_load1 rfl rfl plain3 rfl (by assumption) ?_
    refine d_val rfl rfl (e_assign rfl) ?_
    refine d_nil ?_
    clear r0 h1 q0 f0 tops
    refine c_seq ?_
    refine c_region ?_
    refine l_move rfl rfl ?_
    refine l_nilCheck rfl rfl ?_
    first | refine l_fieldAddr0 1 rfl Try.underlying54 rfl szF54_1 rfl rfl ?_ | refine l_fieldAddrA 1 rfl Try.underlying54 rfl szF54_1 rfl rfl ?_
    refine l_load rfl plain3 rfl (by assumption) ?_
    first | refine l_addr rfl rfl rfl (by omega) (by omega) ?_ | refine l_sadd rfl rfl rfl (by omega) ?_
    refine l_set 57 (.int .i64 ((i + 1 : Nat) : Int)) rfl (by rw [show ((i + 1 : Nat) : Int) = (i : Int) + 1 by omega]) ?_
    refine l_nilCheck rfl rfl ?_
    first | refine l_fieldAddr0 1 rfl Try.underlying54 rfl szF54_1 rfl rfl ?_ | refine l_fieldAddrA 1 rfl Try.underlying54 rfl szF54_1 rfl rfl ?_
    obtain ⟨y1, e1, e2, h1⟩ := h.stk_set2 (k := st.length) (by rw [hSl]; omega) (i + 1) (by omega)
    refine l_store plain3 rfl rfl rfl e1 e2 ?_
    have hset : ((x, i) :: st).reverse.set st.length (((x, i) :: st).reverse[st.length]'(by rw [hSl]; omega) |>.1, i + 1) = ((x, i + 1) :: st).reverse := by
      rw [hget]
      simp [List.set_append]
    rw [hset] at h1
    revert h1
    generalize w.setCell _ _ = w2
    clear e1 e2 p0 p1 h
    intro h
    refine l_nil ?_
    refine c_seq ?_
    refine c_block ?_
    refine c_seq ?_
    refine c_region ?_
    have hyn' : y < num.length := by omega
    have hnD : num.getD y 0 = num[y] := by simp [hyn']
    have f1 := (fnd_cells (h.re [1])).2.1
    have q1 := ((h.re [2]).osN_at hyn').1
    refine l_move rfl rfl ?_
    refine l_nilCheck rfl rfl ?_
    first | refine l_fieldAddr0 1 rfl Try.underlying43 rfl szF43_1 rfl rfl ?_ | refine l_fieldAddrA 1 rfl Try.underlying43 rfl szF43_1 rfl rfl ?_
    refine l_load rfl plain26 rfl (by assumption) ?_
    refine l_move rfl rfl ?_
    first | refine l_indexAddr1 rfl Try.underlying26 (by first | exact sz_26) rfl rfl (by omega) ?_ | refine l_indexAddrN rfl Try.underlying26 (by first | exact sz_26) rfl rfl (by omega) ?_ | refine l_indexAddr rfl Try.underlying26 (by first | exact sz_26) rfl rfl (by omega) (by omega) ?_
    refine l_load rfl plain3 rfl (by assumption) ?_
    first | refine l_eql rfl rfl rfl ?_ | refine l_seql rfl rfl rfl ?_
    refine l_assign rfl rfl ?_
    refine l_nil ?_
    clear f1 q1
    refine c_if _ rfl (fun h0 => ?_) (fun h0 => ?_)
    · have hz : num[y] = 0 := by omega
      have hnew : S' = (y, 0) :: (x, i + 1) :: st ∧ s' = enterF ⟨out, num, low, opn, is, count, groups⟩ y ∧ count < n ∧ opn.length < n := by
        cases hround with
        | new _ _ _ _ _ hc ho => exact ⟨by simp only [hrowD, hyD], by simp only [hrowD, hyD], hc, ho⟩
        | back _ _ _ _ h0 => simp only [hrowD, hyD, hnD] at h0; exact absurd hz h0
        | cross _ _ _ _ h0 => simp only [hrowD, hyD, hnD] at h0; exact absurd hz h0
        | last _ _ hi' => simp only [hrowD] at hi'; exact absurd hi hi'
        | up _ _ _ _ hi' => simp only [hrowD] at hi'; exact absurd hi hi'
      obtain ⟨rfl, rfl, hcn, hon⟩ := hnew
      refine c_region ?_
      refine l_move rfl rfl ?_
      refine l_move rfl rfl ?_
      refine l_move rfl rfl ?_
      refine l_call rfl Try.func34 rfl (by decide) rfl (enter_calls (s := ⟨out, num, low, opn, is, count, groups⟩) (f := ⟨.slice (some a0) n c0, .slice (some a1) n c1, .slice (some a2) n c2, fop, .slice (some a4) n c4, fgr⟩) ⟨s1, s2, s3, s4, s5, s6, s7, s8, s9, s10⟩ y hyn hcn hon (h.re [1, 2, 3, 4, 5, 6, 7, 0])) ?_
      clear h
      rintro e w ⟨rfl, f, h⟩
      refine ⟨_, rfl, ?_⟩
      refine l_buildPair (x := y) (i := 0) rfl Try.underlying56 sz54 zero54 rfl (by unfold big; omega) (by unfold big; omega) h ?_
      clear h; intro v w h
      refine l_append rfl Try.underlying56 info54' rfl (by decide) rfl rfl (h.re [8, 0]) (by simp; omega) (by simp; unfold maxLen; omega) ?_
      clear h; intro v w h
      refine l_assign rfl rfl ?_
      refine l_nil ?_
      refine c_exit ?_
      refine ⟨m, [(0, .pointer (some ⟨b, 0, none⟩)), (4, v)], by omega, ⟨rfl, rfl, trivial⟩, _, _, f, v, hr, rfl, ?_⟩
      have e3 : ((x, i + 1) :: st).reverse ++ [(y, 0)] = ((y, 0) :: (x, i + 1) :: st).reverse := by simp
      rw [e3] at h
      exact h
    · have hz : num[y] ≠ 0 := by omega
      have hyi : y < is.length := by omega
      have hiD : is.getD y false = is[y] := by simp [hyi]
      have f4 := (fnd_cells (h.re [1])).2.2.2.2.1
      have q4 := (h.re [5]).osB_at hyi
      refine c_seq ?_
      refine c_region ?_
      refine l_move rfl rfl ?_
      refine l_nilCheck rfl rfl ?_
      first | refine l_fieldAddr0 4 rfl Try.underlying43 rfl szF43_4 rfl rfl ?_ | refine l_fieldAddrA 4 rfl Try.underlying43 rfl szF43_4 rfl rfl ?_
      refine l_load rfl plain41 rfl (by assumption) ?_
      refine l_move rfl rfl ?_
      first | refine l_indexAddr1 rfl Try.underlying41 (by first | exact sz_41) rfl rfl (by omega) ?_ | refine l_indexAddrN rfl Try.underlying41 (by first | exact sz_41) rfl rfl (by omega) ?_ | refine l_indexAddr rfl Try.underlying41 (by first | exact sz_41) rfl rfl (by omega) (by omega) ?_
      refine l_load rfl plain4 rfl (by assumption) ?_
      refine l_assign rfl rfl ?_
      refine l_nil ?_
      clear f4 q4
      refine c_cond is[y] rfl (fun hb => ?_) (fun hb => ?_)
      · have hback : S' = (x, i + 1) :: st ∧ s' = ⟨out, num, low.set x (min low[x] num[y]), opn, is, count, groups⟩ := by
          cases hround with
          | new _ _ _ _ h0 => simp only [hrowD, hyD, hnD] at h0; exact absurd h0 hz
          | back => exact ⟨rfl, by simp only [lowUp, hrowD, hyD, hnD, List.getD_eq_getElem?_getD, List.getElem?_eq_getElem hxl, Option.getD_some]⟩
          | cross _ _ _ _ _ h1 => simp only [hrowD, hyD, hiD, hb] at h1; cases h1
          | last _ _ hi' => simp only [hrowD] at hi'; exact absurd hi hi'
          | up _ _ _ _ hi' => simp only [hrowD] at hi'; exact absurd hi hi'
        obtain ⟨rfl, rfl⟩ := hback
        refine c_draw (by kernel_rfl) (fun w1 W => W = w1) (fun i => ([4, 5, 6, 7, 8, 9, 10, 11, 12, 13, 14, 15, 16, 17, 18, 19, 20, 21, 22, 23, 24, 25] : List Nat).contains i) [.p 0 [], .p 1 [], .p 2 [], .q 3 [26, 27], .p 4 [], .p 5 [], .p 6 [], .q 7 [26, 27], .p 8 [], .p 9 [], .p 10 [], .q 11 [16, 17, 25, 26, 27], .p 12 [], .p 13 [], .p 14 [], .q 15 [16, 17, 25, 26, 27], .p 16 [], .q 17 [25, 26, 27], .p 18 [], .p 19 [], .p 20 [], .q 21 [23, 24, 25, 26, 27], .p 22 [], .p 23 [], .q 24 [25, 26, 27], .p 25 [], .p 26 [], .x 27] (by kernel_rfl) rfl (by kernel_rfl) h ?_
        clear h; intro w h hw
        clear hw
        obtain ⟨ad', had, p0, -, -, -⟩ := h.stk_at (k := st.length) (by simp)
        cases had
        have hget2 : ((x, i + 1) :: st).reverse[st.length]'(by simp) = (x, i + 1) := by simp
        rw [hget2] at p0
        obtain ⟨f0, f1, f2, f3, f4, f5, f6⟩ := fnd_cells (h.re [1])
        have q1 := ((h.re [2]).osN_at hyn').1
        have q2 := (h.re [3]).osN_at hxl
        obtain ⟨q2, hlb⟩ := q2
        refine d_val rfl rfl (e_move rfl) ?_
        refine d_val rfl rfl (e_nilCheck rfl) ?_
        first | refine d_val rfl rfl (e_fieldAddr0 2 Try.underlying43 rfl szF43_2 rfl rfl) ?_ | refine d_val rfl rfl (e_fieldAddrA 2 Try.underlying43 rfl szF43_2 rfl rfl) ?_
        refine d_load1 rfl rfl plain26 rfl (by assumption) ?_
        refine d_val rfl rfl (e_move rfl) ?_
        refine d_val rfl rfl (e_nilCheck rfl) ?_
        first | refine d_val rfl rfl (e_fieldAddr0 0 Try.underlying54 rfl szF54_0 rfl rfl) ?_ | refine d_val rfl rfl (e_fieldAddrA 0 Try.underlying54 rfl szF54_0 rfl rfl) ?_
        refine d_load1 rfl rfl plain3 rfl (by assumption) ?_
        refine d_val rfl rfl (e_move rfl) ?_
        refine d_val rfl rfl (e_nilCheck rfl) ?_
        first | refine d_val rfl rfl (e_fieldAddr0 2 Try.underlying43 rfl szF43_2 rfl rfl) ?_ | refine d_val rfl rfl (e_fieldAddrA 2 Try.underlying43 rfl szF43_2 rfl rfl) ?_
        refine d_load1 rfl rfl plain26 rfl (by assumption) ?_
        refine d_val rfl rfl (e_move rfl) ?_
        refine d_val rfl rfl (e_nilCheck rfl) ?_
        first | refine d_val rfl rfl (e_fieldAddr0 0 Try.underlying54 rfl szF54_0 rfl rfl) ?_ | refine d_val rfl rfl (e_fieldAddrA 0 Try.underlying54 rfl szF54_0 rfl rfl) ?_
        refine d_load1 rfl rfl plain3 rfl (by assumption) ?_
        first | refine d_val rfl rfl (e_indexAddr1 Try.underlying26 (by first | exact sz_26) rfl rfl (by omega)) ?_ | refine d_val rfl rfl (e_indexAddrN Try.underlying26 (by first | exact sz_26) rfl rfl (by omega)) ?_ | refine d_val rfl rfl (e_indexAddr Try.underlying26 (by first | exact sz_26) rfl rfl (by omega) (by omega)) ?_
        refine d_load1 rfl rfl plain3 rfl (by assumption) ?_
        refine d_val rfl rfl (e_move rfl) ?_
        refine d_val rfl rfl (e_nilCheck rfl) ?_
        first | refine d_val rfl rfl (e_fieldAddr0 1 Try.underlying43 rfl szF43_1 rfl rfl) ?_ | refine d_val rfl rfl (e_fieldAddrA 1 Try.underlying43 rfl szF43_1 rfl rfl) ?_
        refine d_load1 rfl rfl plain26 rfl (by assumption) ?_
        refine d_val rfl rfl (e_move rfl) ?_
        first | refine d_val rfl rfl (e_indexAddr1 Try.underlying26 (by first | exact sz_26) rfl rfl (by omega)) ?_ | refine d_val rfl rfl (e_indexAddrN Try.underlying26 (by first | exact sz_26) rfl rfl (by omega)) ?_ | refine d_val rfl rfl (e_indexAddr Try.underlying26 (by first | exact sz_26) rfl rfl (by omega) (by omega)) ?_
        refine d_load1 rfl rfl plain3 rfl (by assumption) ?_
        refine d_val rfl rfl (e_min rfl rfl) ?_
        first | refine d_val rfl rfl (e_indexAddr1 Try.underlying26 (by first | exact sz_26) rfl rfl (by omega)) ?_ | refine d_val rfl rfl (e_indexAddrN Try.underlying26 (by first | exact sz_26) rfl rfl (by omega)) ?_ | refine d_val rfl rfl (e_indexAddr Try.underlying26 (by first | exact sz_26) rfl rfl (by omega) (by omega)) ?_
        refine d_step rfl ?_
        refine l_storeE plain3 rfl (congrArg (fun z => some (Value.int .i64 z)) (minI low[x] num[y])) rfl rfl hxl ((h.re [3]).addNat (min low[x] num[y]) (by omega) |>.re [1]) ?_
        clear h f0 f1 f2 f3 f4 f5 f6 q1 q2 p0; intro w h
        refine l_nil ⟨fun hf => (nomatch hf), ?_⟩
        refine d_nil ?_
        refine c_exit ?_
        refine ⟨m, [(0, .pointer (some ⟨b, 0, none⟩)), (4, (.slice (some ad) (st.length + 1) cs))], by omega, ⟨rfl, rfl, trivial⟩, _, _, ⟨.slice (some a0) n c0, .slice (some a1) n c1, .slice (some a2) n c2, fop, .slice (some a4) n c4, fgr⟩, _, hr, rfl, ?_⟩
        exact h.re [1, 2, 3, 0]
      · have hcross : S' = (x, i + 1) :: st ∧ s' = ⟨out, num, low, opn, is, count, groups⟩ := by
          cases hround with
          | new _ _ _ _ h0 => simp only [hrowD, hyD, hnD] at h0; exact absurd h0 hz
          | back _ _ _ _ _ h1 => simp only [hrowD, hyD, hiD, hb] at h1; cases h1
          | cross => exact ⟨rfl, rfl⟩
          | last _ _ hi' => simp only [hrowD] at hi'; exact absurd hi hi'
          | up _ _ _ _ hi' => simp only [hrowD] at hi'; exact absurd hi hi'
        obtain ⟨rfl, rfl⟩ := hcross
        refine c_skip ?_
        refine c_exit ?_
        refine ⟨m, [(0, .pointer (some ⟨b, 0, none⟩)), (4, (.slice (some ad) (st.length + 1) cs))], by omega, ⟨rfl, rfl, trivial⟩, _, _, ⟨.slice (some a0) n c0, .slice (some a1) n c1, .slice (some a2) n c2, fop, .slice (some a4) n c4, fgr⟩, _, hr, rfl, ?_⟩
        exact h
  · have hi : ¬ i < row.length := by omega
    clear f0 q0 h1
    refine c_skip ?_
    refine c_seq ?_
    refine c_region ?_
    refine l_move rfl rfl ?_
    refine l_nilCheck rfl rfl ?_
    first | refine l_fieldAddr0 0 rfl Try.underlying54 rfl szF54_0 rfl rfl ?_ | refine l_fieldAddrA 0 rfl Try.underlying54 rfl szF54_0 rfl rfl ?_
    refine l_load rfl plain3 rfl (by assumption) ?_
    refine l_assign rfl rfl ?_
    refine l_nil ?_
    clear p0 p1 tops
    refine c_seq ?_
    refine c_region ?_
    refine l_move rfl rfl ?_
    refine l_move rfl rfl ?_
    first | refine l_len rfl Try.underlying56 rfl ?_ | refine l_len_string rfl Try.underlying56 rfl ?_
    refine l_subr rfl rfl rfl (by omega) (by omega) ?_
    refine l_set 117 (.int .i64 (st.length : Int)) rfl (by rw [show ((st.length + 1 : Nat) : Int) - 1 = (st.length : Int) by omega]) ?_
    refine l_slice_h rfl Try.underlying56 sz54 rfl rfl (by omega) (by omega) ?_
    simp only [Int.toNat_natCast]
    refine l_assign rfl rfl ?_
    refine l_nil ?_
    have hcut := h.os_cut st.length (by rw [hSl]; omega)
    have htk : ((x, i) :: st).reverse.take st.length = st.reverse := by simp [List.take_append]
    rw [htk] at hcut
    clear h htk
    have h : St w0 (pt osP (.slice (some ad) st.length cs) st.reverse :: blk b (.cells #[.slice (some a0) n c0, .slice (some a1) n c1, .slice (some a2) n c2, fop, .slice (some a4) n c4, .int .i64 (count : Int), fgr] 43 (0, 0)) :: pt osN (.slice (some a1) n c1) num :: pt osN (.slice (some a2) n c2) low :: pt osN fop opn :: pt osB (.slice (some a4) n c4) is :: pt osNN fgr groups :: pt rsNN (.slice (some a0) n c0) out :: L) w := hcut
    clear hcut
    refine c_seqS [(0, .pointer (some ⟨b, 0, none⟩)), (4, .slice (some ad) st.length cs), (7, .int .i64 (x : Int))]
      (fun w => ∃ low', Safe n ⟨out, num, low', opn, is, count, groups⟩ ∧ MayLeave ⟨out, num, low', opn, is, count, groups⟩ x ∧ S' = st ∧ s' = leaveF ⟨out, num, low', opn, is, count, groups⟩ x ∧ St w0 (pt osP (.slice (some ad) st.length cs) st.reverse :: blk b (.cells #[.slice (some a0) n c0, .slice (some a1) n c1, .slice (some a2) n c2, fop, .slice (some a4) n c4, .int .i64 (count : Int), fgr] 43 (0, 0)) :: pt osN (.slice (some a1) n c1) num :: pt osN (.slice (some a2) n c2) low' :: pt osN fop opn :: pt osB (.slice (some a4) n c4) is :: pt osNN fgr groups :: pt rsNN (.slice (some a0) n c0) out :: L) w) ?_ ?_
    rotate_left
    · clear h
      rintro w ⟨low', hs', hm, rfl, rfl, h⟩
      refine c_region ?_
      refine l_move rfl rfl ?_
      refine l_move rfl rfl ?_
      refine l_call rfl Try.func35 rfl (by decide) rfl (leave_calls (f := ⟨.slice (some a0) n c0, .slice (some a1) n c1, .slice (some a2) n c2, fop, .slice (some a4) n c4, fgr⟩) hs' x hx hm (h.re [1, 2, 3, 4, 5, 6, 7, 0])) ?_
      clear h
      rintro e w ⟨rfl, f, h⟩
      refine ⟨_, rfl, ?_⟩
      refine l_nil ?_
      refine ⟨m, [(0, .pointer (some ⟨b, 0, none⟩)), (4, (.slice (some ad) S'.length cs))], by omega, ⟨rfl, rfl, trivial⟩, _, _, f, _, hr, rfl, ?_⟩
      exact h.re [7]
    refine c_seq ?_
    refine c_region ?_
    refine l_move rfl rfl ?_
    first | refine l_len rfl Try.underlying56 rfl ?_ | refine l_len_string rfl Try.underlying56 rfl ?_
    refine l_gtr rfl rfl rfl ?_
    refine l_nil ?_
    cases st with
    | nil =>
      refine c_set 121 (.bool false) rfl rfl ?_
      refine c_condF rfl ?_
      refine c_skip ?_
      refine ⟨⟨rfl, rfl, rfl, trivial⟩, low, ⟨s1, s2, s3, s4, s5, s6, s7, s8, s9, s10⟩, ?_⟩
      cases hround with
      | new _ _ _ hi' => simp only [hrowD] at hi'; exact absurd hi' hi
      | back _ _ _ hi' => simp only [hrowD] at hi'; exact absurd hi' hi
      | cross _ _ _ hi' => simp only [hrowD] at hi'; exact absurd hi' hi
      | last _ _ _ hm => exact ⟨hm, by trivial, by trivial, h⟩
    | cons p st' =>
      obtain ⟨u, j⟩ := p
      refine c_set 121 (.bool true) rfl (vT (by simp only [List.length_cons]; omega)) ?_
      refine c_condT rfl ?_
      have hxlD : low.getD x 0 = low[x] := by simp [hxl]
      have hup : u < n ∧ MayLeave (lowUp ⟨out, num, low, opn, is, count, groups⟩ u low[x]) x ∧ S' = (u, j) :: st' ∧ s' = leaveF (lowUp ⟨out, num, low, opn, is, count, groups⟩ u low[x]) x := by
        cases hround with
        | new _ _ _ hi' => simp only [hrowD] at hi'; exact absurd hi' hi
        | back _ _ _ hi' => simp only [hrowD] at hi'; exact absurd hi' hi
        | cross _ _ _ hi' => simp only [hrowD] at hi'; exact absurd hi' hi
        | up _ _ hu _ _ hm => simp only [hxlD] at hm ⊢; exact ⟨hu, hm, by trivial, by trivial⟩
      obtain ⟨hu, hm, e1, e2⟩ := hup
      have hul : u < low.length := by omega
      have huD : low.getD u 0 = low[u] := by simp [hul]
      obtain ⟨ad', had, p0, -, -, -⟩ := h.stk_at (k := st'.length) (by simp)
      cases had
      have hget2 : ((u, j) :: st').reverse[st'.length]'(by simp) = (u, j) := by simp
      rw [hget2] at p0
      refine c_seq ?_
      refine c_region ?_
      refine l_move rfl rfl ?_
      refine l_move rfl rfl ?_
      first | refine l_len rfl Try.underlying56 rfl ?_ | refine l_len_string rfl Try.underlying56 rfl ?_
      refine l_subr rfl rfl rfl (by omega) (by omega) ?_
      refine l_set 125 (.int .i64 (st'.length : Int)) rfl (by simp only [List.length_cons]; rw [show ((st'.length + 1 : Nat) : Int) - 1 = (st'.length : Int) by omega]) ?_
      refine l_indexAddrN rfl Try.underlying56 sz54 rfl rfl (by simp only [List.length_cons]; omega) ?_
      first | refine l_fieldAddr0 0 rfl Try.underlying54 rfl szF54_0 rfl rfl ?_ | refine l_fieldAddrA 0 rfl Try.underlying54 rfl szF54_0 rfl rfl ?_
      refine l_load rfl plain3 rfl (by assumption) ?_
      refine l_assign rfl rfl ?_
      refine l_nil ?_
      refine c_draw (by kernel_rfl) (fun w1 W => W = w1) (fun i => ([4, 5, 6, 7, 8, 9, 10, 11, 12, 13, 14, 15, 16, 17, 18, 19] : List Nat).contains i) [.p 0 [], .p 1 [], .p 2 [], .q 3 [20, 21], .p 4 [], .p 5 [], .p 6 [], .p 7 [], .q 8 [10, 11, 19, 20, 21], .p 9 [], .p 10 [], .q 11 [19, 20, 21], .p 12 [], .p 13 [], .p 14 [], .q 15 [17, 18, 19, 20, 21], .p 16 [], .p 17 [], .q 18 [19, 20, 21], .p 19 [], .p 20 [], .x 21] (by kernel_rfl) rfl (by kernel_rfl) h ?_
      clear h p0; intro w h hw
      clear hw
      obtain ⟨f0, f1, f2, f3, f4, f5, f6⟩ := fnd_cells (h.re [1])
      obtain ⟨q1, hb1⟩ := (h.re [3]).osN_at hul
      obtain ⟨q2, hb2⟩ := (h.re [3]).osN_at hxl
      refine d_val rfl rfl (e_move rfl) ?_
      refine d_val rfl rfl (e_nilCheck rfl) ?_
      first | refine d_val rfl rfl (e_fieldAddr0 2 Try.underlying43 rfl szF43_2 rfl rfl) ?_ | refine d_val rfl rfl (e_fieldAddrA 2 Try.underlying43 rfl szF43_2 rfl rfl) ?_
      refine d_load1 rfl rfl plain26 rfl (by assumption) ?_
      refine d_val rfl rfl (e_move rfl) ?_
      refine d_val rfl rfl (e_move rfl) ?_
      refine d_val rfl rfl (e_nilCheck rfl) ?_
      first | refine d_val rfl rfl (e_fieldAddr0 2 Try.underlying43 rfl szF43_2 rfl rfl) ?_ | refine d_val rfl rfl (e_fieldAddrA 2 Try.underlying43 rfl szF43_2 rfl rfl) ?_
      refine d_load1 rfl rfl plain26 rfl (by assumption) ?_
      refine d_val rfl rfl (e_move rfl) ?_
      first | refine d_val rfl rfl (e_indexAddr1 Try.underlying26 (by first | exact sz_26) rfl rfl (by omega)) ?_ | refine d_val rfl rfl (e_indexAddrN Try.underlying26 (by first | exact sz_26) rfl rfl (by omega)) ?_ | refine d_val rfl rfl (e_indexAddr Try.underlying26 (by first | exact sz_26) rfl rfl (by omega) (by omega)) ?_
      refine d_load1 rfl rfl plain3 rfl (by assumption) ?_
      refine d_val rfl rfl (e_move rfl) ?_
      refine d_val rfl rfl (e_nilCheck rfl) ?_
      first | refine d_val rfl rfl (e_fieldAddr0 2 Try.underlying43 rfl szF43_2 rfl rfl) ?_ | refine d_val rfl rfl (e_fieldAddrA 2 Try.underlying43 rfl szF43_2 rfl rfl) ?_
      refine d_load1 rfl rfl plain26 rfl (by assumption) ?_
      refine d_val rfl rfl (e_move rfl) ?_
      first | refine d_val rfl rfl (e_indexAddr1 Try.underlying26 (by first | exact sz_26) rfl rfl (by omega)) ?_ | refine d_val rfl rfl (e_indexAddrN Try.underlying26 (by first | exact sz_26) rfl rfl (by omega)) ?_ | refine d_val rfl rfl (e_indexAddr Try.underlying26 (by first | exact sz_26) rfl rfl (by omega) (by omega)) ?_
      refine d_load1 rfl rfl plain3 rfl (by assumption) ?_
      refine d_val rfl rfl (e_min rfl rfl) ?_
      first | refine d_val rfl rfl (e_indexAddr1 Try.underlying26 (by first | exact sz_26) rfl rfl (by omega)) ?_ | refine d_val rfl rfl (e_indexAddrN Try.underlying26 (by first | exact sz_26) rfl rfl (by omega)) ?_ | refine d_val rfl rfl (e_indexAddr Try.underlying26 (by first | exact sz_26) rfl rfl (by omega) (by omega)) ?_
      refine d_step rfl ?_
      refine l_storeE plain3 rfl (congrArg (fun z => some (Value.int .i64 z)) (minI low[u] low[x])) rfl rfl hul ((h.re [3]).addNat (min low[u] low[x]) (by omega) |>.re [1]) ?_
      clear h f0 f1 f2 f3 f4 f5 f6 q1 q2; intro w h
      refine l_nil ⟨fun hf => (nomatch hf), ?_⟩
      refine d_nil ?_
      have elow : lowUp ⟨out, num, low, opn, is, count, groups⟩ u low[x] = ⟨out, num, low.set u (min low[u] low[x]), opn, is, count, groups⟩ := by
        simp only [lowUp, huD]
      rw [elow] at hm e2
      refine ⟨⟨rfl, rfl, rfl, trivial⟩, low.set u (min low[u] low[x]), ⟨s1, s2, s3, by simp [s4], s5, s6, s7, s8, s9, s10⟩, hm, e1, e2, ?_⟩
      exact h.re [1, 2, 3, 0]
end Go.Proofs.Ythamopcfpmkbfaa
