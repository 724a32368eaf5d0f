/- wave.below: which groups each group leads to. No condition but that the graph is small. -/
import Derived.Test.YthamopcfpmkbfaaGW5
import Derived.Test.YthamopcfpmkbfaaPX
import Derived.Test.YthamopcfpmkbfaaFC
set_option linter.unusedVariables false
set_option linter.unusedSimpArgs false
namespace Go.Proofs.Ythamopcfpmkbfaa
open Go.Proofs.Fw
variable {w0 w : World} {L : List Res}
theorem Grp.len {g : List (List Int)} {gs : List (List Nat)} (h : Grp g gs) : gs.length ≤ g.length := by
  have h1 := h.1.heads
  have h2 := nodup_le g.length _ h1 (fun y hy => by
    obtain ⟨l, hl, rfl⟩ := List.mem_map.1 hy
    exact (h.1.all _).1 (List.mem_flatten.2 ⟨l, hl, head_mem (h.1.ne l hl)⟩))
  simpa using h2
theorem Grp.row {g : List (List Int)} {gs : List (List Nat)} (h : Grp g gs) {i : Nat} (hi : i < gs.length) {x : Nat} (hx : x ∈ gs[i]) : x < g.length := (h.1.all x).1 (List.mem_flatten.2 ⟨_, List.getElem_mem hi, hx⟩)
def hadN (out : List (List Nat)) : Int × Int → Option Value := hadOf (intss out)
theorem intss_getD (out : List (List Nat)) (i : Nat) : (intss out).getD i [] = ints (out.getD i []) := by
  by_cases h : i < out.length
  · simp [intss, List.getD_eq_getElem?_getD, h]
  · simp [intss, List.getD_eq_getElem?_getD, List.getElem?_eq_none (Nat.le_of_not_lt h), ints]
theorem ints_mem (l : List Nat) (x : Nat) : (x : Int) ∈ ints l ↔ x ∈ l := by
  unfold ints
  rw [List.mem_map]
  constructor
  · rintro ⟨a, h1, h2⟩
    have : a = x := by omega
    rw [← this]; exact h1
  · intro h; exact ⟨x, h, rfl⟩
theorem hadN_nil (n : Nat) : (fun _ => none) = hadN (List.replicate n []) := by
  rw [hadOf_nil n]; unfold hadN; congr 1; simp [intss, ints]
theorem hadN_get (out : List (List Nat)) (i b : Nat) : (hadN out ((i : Int), (b : Int))).getD (.bool false) = .bool (decide (b ∈ out.getD i [])) := by
  have e : (0 ≤ ((i : Int), (b : Int)).1 ∧ ((i : Int), (b : Int)).2 ∈ (intss out).getD ((i : Int), (b : Int)).1.toNat []) ↔ b ∈ out.getD i [] := by
    rw [← ints_mem, ← intss_getD]
    simp
  unfold hadN hadOf
  by_cases h : b ∈ out.getD i []
  · rw [if_pos (e.2 h), decide_eq_true h]; rfl
  · rw [if_neg (fun k => h (e.1 k)), decide_eq_false h]; rfl
theorem hadN_add {out : List (List Nat)} {i : Nat} (hi : i < out.length) (b : Nat) : (fun p => if p = ((i : Int), (b : Int)) then some (.bool true) else hadN out p) = hadN (out.set i (out.getD i [] ++ [b])) := by
  have h := hadOf_add (out := intss out) (i := i) (by simpa [intss] using hi) (ints (out.getD i [])) (b : Int)
  have e1 : (intss out).set i (ints (out.getD i [])) = intss out := by
    rw [← intss_getD]
    apply List.ext_getElem?
    intro j
    rw [List.getElem?_set]
    by_cases e : i = j
    · subst e
      have : i < (intss out).length := by simpa [intss] using hi
      rw [if_pos rfl, if_pos this]
      simp [List.getD_eq_getElem?_getD, this]
    · rw [if_neg e]
  have e2 : (intss out).set i (ints (out.getD i []) ++ [(b : Int)]) = intss (out.set i (out.getD i [] ++ [b])) := by
    unfold intss
    rw [List.map_set]
    simp [ints]
  rw [e1, e2] at h
  exact h
theorem i64_of {x : Nat} (h : x ≤ 100000) : IntKind.i64.min ≤ (x : Int) ∧ (x : Int) ≤ IntKind.i64.max := by
  rw [i64_min, i64_max]; constructor <;> omega
set_option maxRecDepth 4000 in
theorem below_calls {g : List (List Int)} {gs : List (List Nat)} (hgs : Grp g gs) (gv : Value) (hn : g.length ≤ 100000) (hr : ∀ r ∈ g, r.length ≤ 100000) (h : St w0 (pt rsII gv g :: L) w) :
    Calls Try.prog 33 #[gv] w fun e w' => ∃ out v, BInv (Upto g g.length 0) gs out ∧ e = .returned v ∧ St w0 (pt osNN v out :: pt rsII gv g :: L) w' := by
  obtain ⟨A, c, rfl, -, -⟩ := h.rs_form
  have hgl := hgs.len
  refine f_one Try.func33 rfl Try.results33 Try.ntmps33 rfl ?_
  refine c_seq ?_
  refine c_region ?_
  refine l_assign rfl rfl ?_
  refine l_nil ?_
  refine c_seq ?_
  refine c_region ?_
  refine l_move rfl rfl ?_
  refine l_call rfl Try.func15 rfl (by decide) rfl (of_grp hgs _ hn hr h) ?_
  clear h
  rintro e w ⟨lv, rfl, h⟩
  refine ⟨_, rfl, ?_⟩
  replace h : St w0 (pt (rs (rs kN)) lv gs :: pt rsII (.slice A g.length c) g :: L) w := h.frz (os_frz (os_frz kN_pers.frz rfl) rfl)
  obtain ⟨Al, cl, rfl, hl1, hl2⟩ := h.rs_form
  refine l_assign rfl rfl ?_
  refine l_nil ?_
  refine c_seq ?_
  refine c_region ?_
  refine l_move rfl rfl ?_
  first | refine l_len rfl Try.underlying23 rfl ?_ | refine l_len_string rfl Try.underlying23 rfl ?_
  refine l_makeS (Kx := kN) (zx := 0) rfl Try.underlying26 info3 rfl ⟨rfl, Nat.zero_le _⟩ rfl rfl (by omega) (by unfold maxLen; omega) h ?_
  clear h; intro ib w h
  refine l_assign rfl rfl ?_
  refine l_nil ?_
  refine c_seq ?_
  refine c_seq ?_
  refine c_region ?_
  refine l_move rfl rfl ?_
  first | refine l_len rfl Try.underlying23 rfl ?_ | refine l_len_string rfl Try.underlying23 rfl ?_
  refine l_move rfl rfl ?_
  refine l_nil ?_
  refine c_block ?_
  refine c_loop' (fun m env w => ∃ (i : Nat) (arr : List Nat), i + m = gs.length ∧ OfTo g.length gs (gs.take i).flatten arr ∧ env = [(0, .slice A g.length c), (3, .slice Al gs.length cl), (4, .slice (some ⟨ib, 0, none⟩) g.length g.length), (21, .slice Al gs.length cl), (22, .int .i64 (gs.length : Int)), (23, .int .i64 (i : Int))] ∧ St w0 (pt osN (.slice (some ⟨ib, 0, none⟩) g.length g.length) arr :: pt (rs (rs kN)) (.slice Al gs.length cl) gs :: pt rsII (.slice A g.length c) g :: L) w) gs.length [(0, .slice A g.length c), (3, .slice Al gs.length cl), (4, .slice (some ⟨ib, 0, none⟩) g.length g.length), (21, .slice Al gs.length cl), (22, .int .i64 (gs.length : Int)), (23, .int .i64 ((0 : Nat) : Int))] ⟨rfl, rfl, rfl, rfl, rfl, rfl, trivial⟩ ⟨0, _, by omega, by simpa using OfTo.begin g.length gs, rfl, h⟩ ?_
  clear h
  rintro m env w ⟨i, arr, him, ho, rfl, h⟩
  refine c_seq ?_
  refine c_region ?_
  first | refine l_lss rfl rfl rfl ?_ | refine l_slss rfl rfl rfl ?_
  refine l_nil ?_
  refine c_seq ?_
  refine c_if _ rfl (fun hc => ?_) (fun hc => ?_)
  · refine c_skip ?_
    have hi : i < gs.length := by omega
    refine c_seq ?_
    refine c_block ?_
    refine c_seq ?_
    refine c_region ?_
    obtain ⟨al, Ar, cr, rfl, q, hr1, hr2, hrow, -⟩ := (h.re [1]).rsNN_row hi
    refine l_move rfl rfl ?_
    first | refine l_indexAddr1 rfl Try.underlying23 (by first | exact sz_23) rfl rfl (by omega) ?_ | refine l_indexAddrN rfl Try.underlying23 (by first | exact sz_23) rfl rfl (by omega) ?_ | refine l_indexAddr rfl Try.underlying23 (by first | exact sz_23) rfl rfl (by omega) (by omega) ?_
    refine l_load rfl plain26 rfl (by assumption) ?_
    refine l_assign rfl rfl ?_
    refine l_assign rfl rfl ?_
    refine l_nil ?_
    refine c_seq ?_
    refine c_region ?_
    refine l_move rfl rfl ?_
    first | refine l_len rfl Try.underlying26 rfl ?_ | refine l_len_string rfl Try.underlying26 rfl ?_
    refine l_move rfl rfl ?_
    refine l_nil ?_
    refine c_block ?_
    obtain ⟨al', Ar', cr', hA, q', -, -, -, h2⟩ := (h.re [1]).rsNN_row hi
    cases hA
    rw [q] at q'
    simp only [Option.some.injEq, Value.slice.injEq] at q'
    obtain ⟨rfl, -, rfl⟩ := q'
    clear hrow q h
    refine c_loop' (fun m2 env w => ∃ (j : Nat) (arr : List Nat), j + m2 = gs[i].length ∧ OfTo g.length gs ((gs.take i).flatten ++ gs[i].take j) arr ∧ env = [(0, .slice A g.length c), (3, .slice (some al) gs.length cl), (4, .slice (some ⟨ib, 0, none⟩) g.length g.length), (5, .int .i64 (i : Int)), (21, .slice (some al) gs.length cl), (22, .int .i64 (gs.length : Int)), (23, .int .i64 (i : Int)), (28, .slice Ar gs[i].length cr), (29, .int .i64 (gs[i].length : Int)), (30, .int .i64 (j : Int))] ∧ St w0 (pt osN (.slice (some ⟨ib, 0, none⟩) g.length g.length) arr :: pt (rs kN) (.slice Ar gs[i].length cr) gs[i] :: pt (rs (rs kN)) (.slice (some al) gs.length cl) gs :: pt rsII (.slice A g.length c) g :: L) w) gs[i].length [(0, .slice A g.length c), (3, .slice (some al) gs.length cl), (4, .slice (some ⟨ib, 0, none⟩) g.length g.length), (5, .int .i64 (i : Int)), (21, .slice (some al) gs.length cl), (22, .int .i64 (gs.length : Int)), (23, .int .i64 (i : Int)), (28, .slice Ar gs[i].length cr), (29, .int .i64 (gs[i].length : Int)), (30, .int .i64 ((0 : Nat) : Int))] ⟨rfl, rfl, rfl, rfl, rfl, rfl, rfl, rfl, rfl, rfl, trivial⟩ ⟨0, _, by omega, by simpa using ho, rfl, h2.re [2, 0, 1]⟩ ?_
    clear h2 ho
    rintro m2 env w ⟨j, arr, hjm, ho, rfl, h⟩
    refine c_seq ?_
    refine c_region ?_
    first | refine l_lss rfl rfl rfl ?_ | refine l_slss rfl rfl rfl ?_
    refine l_nil ?_
    refine c_seq ?_
    refine c_if _ rfl (fun hc2 => ?_) (fun hc2 => ?_)
    · refine c_skip ?_
      have hj : j < gs[i].length := by omega
      have hxm : gs[i][j] ∈ gs[i] := List.getElem_mem hj
      have hxn := hgs.row hi hxm
      have hal : arr.length = g.length := ho.len
      obtain ⟨ar, rfl⟩ := (h.re [1]).rsN_ad rfl hj
      have hrb := bound63 hr1 hr2
      have q := ((h.re [1]).rsN_at hj).1
      refine c_seq ?_
      refine c_block ?_
      refine c_seq ?_
      refine c_region ?_
      first | refine l_indexAddr1 rfl Try.underlying26 (by first | exact sz_26) rfl rfl (by omega) ?_ | refine l_indexAddrN rfl Try.underlying26 (by first | exact sz_26) rfl rfl (by omega) ?_ | refine l_indexAddr rfl Try.underlying26 (by first | exact sz_26) rfl rfl (by omega) (by omega) ?_
      refine l_load rfl plain3 rfl (by assumption) ?_
      refine l_assign rfl rfl ?_
      refine l_nil ?_
      clear q
      refine c_region ?_
      refine l_move rfl rfl ?_
      refine l_move rfl rfl ?_
      refine l_move rfl rfl ?_
      first | refine l_indexAddr1 rfl Try.underlying26 (by first | exact sz_26) rfl rfl (by omega) ?_ | refine l_indexAddrN rfl Try.underlying26 (by first | exact sz_26) rfl rfl (by omega) ?_ | refine l_indexAddr rfl Try.underlying26 (by first | exact sz_26) rfl rfl (by omega) (by omega) ?_
      refine l_storeE plain3 rfl rfl rfl rfl (by omega) ((h.addNat i (by omega)).re [1, 0]) ?_
      clear h; intro w h
      refine l_nil ?_
      refine c_region ?_
      first | refine l_addr rfl rfl rfl (by omega) (by omega) ?_ | refine l_sadd rfl rfl rfl (by omega) ?_
      refine l_move rfl rfl ?_
      refine l_nil ?_
      refine ⟨m2 - 1, [(0, .slice A g.length c), (3, .slice (some al) gs.length cl), (4, .slice (some ⟨ib, 0, none⟩) g.length g.length), (5, .int .i64 (i : Int)), (21, .slice (some al) gs.length cl), (22, .int .i64 (gs.length : Int)), (23, .int .i64 (i : Int)), (28, .slice (some ar) gs[i].length cr), (29, .int .i64 (gs[i].length : Int)), (30, .int .i64 ((j + 1 : Nat) : Int))], by omega, ⟨rfl, rfl, rfl, rfl, rfl, rfl, rfl, rfl, rfl, rfl, trivial⟩, j + 1, _, by omega, ?_, rfl, h⟩
      rw [List.take_succ_eq_append_getElem hj, ← List.append_assoc]
      exact ho.snoc hgs.1.nd hi hxm hxn
    · refine c_exit ?_
      have hj : j = gs[i].length := by omega
      subst hj
      rw [List.take_length, ← take_flat hi] at ho
      refine c_region ?_
      first | refine l_addr rfl rfl rfl (by omega) (by omega) ?_ | refine l_sadd rfl rfl rfl (by omega) ?_
      refine l_move rfl rfl ?_
      refine l_nil ?_
      exact ⟨m - 1, [(0, .slice A g.length c), (3, .slice (some al) gs.length cl), (4, .slice (some ⟨ib, 0, none⟩) g.length g.length), (21, .slice (some al) gs.length cl), (22, .int .i64 (gs.length : Int)), (23, .int .i64 ((i + 1 : Nat) : Int))], by omega, ⟨rfl, rfl, rfl, rfl, rfl, rfl, trivial⟩, i + 1, _, by omega, ho, rfl, (h.re [1]).drop⟩
  refine c_exit ?_
  have hi : i = gs.length := by omega
  subst hi
  rw [List.take_length] at ho
  have ha := ho.whole (fun y hy => (hgs.1.all y).2 hy)
  subst ha
  clear ho hc him
  refine c_seq ?_
  refine c_region ?_
  refine l_makeMap (P := Try.prog) (k := 63) (enc := pairV) rfl h ?_
  clear h; intro mb w h
  refine l_assign rfl rfl ?_
  refine l_nil ?_
  refine c_seq ?_
  refine c_region ?_
  refine l_move rfl rfl ?_
  first | refine l_len rfl Try.underlying23 rfl ?_ | refine l_len_string rfl Try.underlying23 rfl ?_
  refine l_makeS (Kx := osN) (zx := []) rfl Try.underlying23 info26 rfl (.inl ⟨rfl, rfl⟩) rfl rfl (by omega) (by unfold maxLen; omega) h ?_
  clear h; intro ob w h
  refine l_assign rfl rfl ?_
  refine l_nil ?_
  refine c_seq ?_
  refine c_seq ?_
  refine c_region ?_
  refine l_move rfl rfl ?_
  first | refine l_len rfl Try.underlying23 rfl ?_ | refine l_len_string rfl Try.underlying23 rfl ?_
  refine l_move rfl rfl ?_
  refine l_nil ?_
  refine c_block ?_
  have h0 : St w0 (mp Try.prog 63 pairV mb (hadN (List.replicate gs.length [])) :: pt osNN (.slice (some ⟨ob, 0, none⟩) gs.length gs.length) (List.replicate gs.length []) :: pt osN (.slice (some ⟨ib, 0, none⟩) g.length g.length) (ofA g.length gs) :: pt rsII (.slice A g.length c) g :: L) w := by
    rw [← hadN_nil]
    exact ((h.re [3]).drop.re [1, 0])
  clear h
  refine c_loop' (fun m env w => ∃ (a : Nat) (out : List (List Nat)), a + m = g.length ∧ BInv (Upto g a 0) gs out ∧ env = [(0, .slice A g.length c), (4, .slice (some ⟨ib, 0, none⟩) g.length g.length), (9, .map (some mb)), (10, .slice (some ⟨ob, 0, none⟩) gs.length gs.length), (44, .slice A g.length c), (45, .int .i64 (g.length : Int)), (46, .int .i64 (a : Int))] ∧ St w0 (mp Try.prog 63 pairV mb (hadN out) :: pt osNN (.slice (some ⟨ob, 0, none⟩) gs.length gs.length) out :: pt osN (.slice (some ⟨ib, 0, none⟩) g.length g.length) (ofA g.length gs) :: pt rsII (.slice A g.length c) g :: L) w) g.length [(0, .slice A g.length c), (4, .slice (some ⟨ib, 0, none⟩) g.length g.length), (9, .map (some mb)), (10, .slice (some ⟨ob, 0, none⟩) gs.length gs.length), (44, .slice A g.length c), (45, .int .i64 (g.length : Int)), (46, .int .i64 ((0 : Nat) : Int))] ⟨rfl, rfl, rfl, rfl, rfl, rfl, rfl, trivial⟩ ⟨0, _, by omega, BInv.none g gs, rfl, h0⟩ ?_
  clear h0
  rintro m env w ⟨a, out, ham, hB, rfl, h⟩
  refine c_seq ?_
  refine c_region ?_
  first | refine l_lss rfl rfl rfl ?_ | refine l_slss rfl rfl rfl ?_
  refine l_nil ?_
  refine c_seq ?_
  refine c_if _ rfl (fun hc => ?_) (fun hc => ?_)
  rotate_left
  · refine c_exit ?_
    have ha : a = g.length := by omega
    subst ha
    refine c_seq ?_
    refine c_region ?_
    refine l_move rfl rfl ?_
    refine l_assign rfl rfl ?_
    refine l_nil ?_
    exact c_ret ⟨.inr rfl, _, rfl, out, _, hB, rfl, (h.drop.re [0, 2] |>.re [2] |>.drop)⟩
  refine c_skip ?_
  have ha : a < g.length := by omega
  refine c_seq ?_
  refine c_block ?_
  refine c_seq ?_
  refine c_region ?_
  obtain ⟨ag, Ar, cr, rfl, q, hr1, hr2, -, h2⟩ := (h.re [3]).rsII_row ha
  refine l_move rfl rfl ?_
  first | refine l_indexAddr1 rfl Try.underlying23 (by first | exact sz_23) rfl rfl (by omega) ?_ | refine l_indexAddrN rfl Try.underlying23 (by first | exact sz_23) rfl rfl (by omega) ?_ | refine l_indexAddr rfl Try.underlying23 (by first | exact sz_23) rfl rfl (by omega) (by omega) ?_
  refine l_load rfl plain26 rfl (by assumption) ?_
  refine l_assign rfl rfl ?_
  refine l_assign rfl rfl ?_
  refine l_nil ?_
  clear q h
  have hrl := hr _ (List.getElem_mem ha)
  obtain ⟨row, hrow⟩ : ∃ row, row = g[a] := ⟨_, rfl⟩
  have hgD : g.getD a [] = row := by simp [hrow, List.getD_eq_getElem?_getD, ha]
  rw [← hrow] at h2 hr1 hrl ⊢
  refine c_seq ?_
  refine c_region ?_
  refine l_move rfl rfl ?_
  first | refine l_len rfl Try.underlying26 rfl ?_ | refine l_len_string rfl Try.underlying26 rfl ?_
  refine l_move rfl rfl ?_
  refine l_nil ?_
  refine c_block ?_
  refine c_loop' (fun m2 env w => ∃ (t : Nat) (out : List (List Nat)), t + m2 = row.length ∧ BInv (Upto g a t) gs out ∧ env = [(0, .slice (some ag) g.length c), (4, .slice (some ⟨ib, 0, none⟩) g.length g.length), (9, .map (some mb)), (10, .slice (some ⟨ob, 0, none⟩) gs.length gs.length), (11, .int .i64 (a : Int)), (44, .slice (some ag) g.length c), (45, .int .i64 (g.length : Int)), (46, .int .i64 (a : Int)), (51, .slice Ar row.length cr), (52, .int .i64 (row.length : Int)), (53, .int .i64 (t : Int))] ∧ St w0 (mp Try.prog 63 pairV mb (hadN out) :: pt osNN (.slice (some ⟨ob, 0, none⟩) gs.length gs.length) out :: pt osN (.slice (some ⟨ib, 0, none⟩) g.length g.length) (ofA g.length gs) :: pt rsI (.slice Ar row.length cr) row :: pt rsII (.slice (some ag) g.length c) g :: L) w) row.length [(0, .slice (some ag) g.length c), (4, .slice (some ⟨ib, 0, none⟩) g.length g.length), (9, .map (some mb)), (10, .slice (some ⟨ob, 0, none⟩) gs.length gs.length), (11, .int .i64 (a : Int)), (44, .slice (some ag) g.length c), (45, .int .i64 (g.length : Int)), (46, .int .i64 (a : Int)), (51, .slice Ar row.length cr), (52, .int .i64 (row.length : Int)), (53, .int .i64 ((0 : Nat) : Int))] ⟨rfl, rfl, rfl, rfl, rfl, rfl, rfl, rfl, rfl, rfl, rfl, trivial⟩ ⟨0, out, by omega, hB, rfl, h2.re [2, 3, 4, 0, 1]⟩ ?_
  clear h2 hB out
  rintro m2 env w ⟨t, out, htm, hB, rfl, h⟩
  refine c_seq ?_
  refine c_region ?_
  first | refine l_lss rfl rfl rfl ?_ | refine l_slss rfl rfl rfl ?_
  refine l_nil ?_
  refine c_seq ?_
  refine c_if _ rfl (fun hc2 => ?_) (fun hc2 => ?_)
  rotate_left
  · refine c_exit ?_
    have ht : t = row.length := by omega
    subst ht
    refine c_region ?_
    first | refine l_addr rfl rfl rfl (by omega) (by omega) ?_ | refine l_sadd rfl rfl rfl (by omega) ?_
    refine l_move rfl rfl ?_
    refine l_nil ?_
    refine ⟨m - 1, [(0, .slice (some ag) g.length c), (4, .slice (some ⟨ib, 0, none⟩) g.length g.length), (9, .map (some mb)), (10, .slice (some ⟨ob, 0, none⟩) gs.length gs.length), (44, .slice (some ag) g.length c), (45, .int .i64 (g.length : Int)), (46, .int .i64 ((a + 1 : Nat) : Int))], by omega, ⟨rfl, rfl, rfl, rfl, rfl, rfl, rfl, trivial⟩, a + 1, out, by omega, hB.congr fun x y => ?_, rfl, (h.re [3]).drop⟩
    rw [← hgD]; exact upto_end g a x y
  refine c_skip ?_
  have ht : t < row.length := by omega
  obtain ⟨ar, rfl⟩ := (h.re [3]).rsN_ad rfl ht
  obtain ⟨b, hb⟩ : ∃ b, b = row[t] := ⟨_, rfl⟩
  have htD : t < (g.getD a []).length := by rw [hgD]; exact ht
  have hbD : (g.getD a [])[t] = b := by rw [hb]; congr 1
  obtain ⟨q, hb1, hb2⟩ := (h.re [3]).rsI_at ht
  rw [← hb] at q hb1 hb2
  refine c_seqS [(0, .slice (some ag) g.length c), (4, .slice (some ⟨ib, 0, none⟩) g.length g.length), (9, .map (some mb)), (10, .slice (some ⟨ob, 0, none⟩) gs.length gs.length), (11, .int .i64 (a : Int)), (44, .slice (some ag) g.length c), (45, .int .i64 (g.length : Int)), (46, .int .i64 (a : Int)), (51, .slice (some ar) row.length cr), (52, .int .i64 (row.length : Int)), (53, .int .i64 (t : Int))] (fun w => ∃ out, BInv (Upto g a (t + 1)) gs out ∧ St w0 (mp Try.prog 63 pairV mb (hadN out) :: pt osNN (.slice (some ⟨ob, 0, none⟩) gs.length gs.length) out :: pt osN (.slice (some ⟨ib, 0, none⟩) g.length g.length) (ofA g.length gs) :: pt rsI (.slice (some ar) row.length cr) row :: pt rsII (.slice (some ag) g.length c) g :: L) w) ?_ ?_
  rotate_left
  · clear h hB out q
    rintro w ⟨out, hB, h⟩
    refine c_region ?_
    first | refine l_addr rfl rfl rfl (by omega) (by omega) ?_ | refine l_sadd rfl rfl rfl (by omega) ?_
    refine l_move rfl rfl ?_
    refine l_nil ?_
    exact ⟨m2 - 1, [(0, .slice (some ag) g.length c), (4, .slice (some ⟨ib, 0, none⟩) g.length g.length), (9, .map (some mb)), (10, .slice (some ⟨ob, 0, none⟩) gs.length gs.length), (11, .int .i64 (a : Int)), (44, .slice (some ag) g.length c), (45, .int .i64 (g.length : Int)), (46, .int .i64 (a : Int)), (51, .slice (some ar) row.length cr), (52, .int .i64 (row.length : Int)), (53, .int .i64 ((t + 1 : Nat) : Int))], by omega, ⟨rfl, rfl, rfl, rfl, rfl, rfl, rfl, rfl, rfl, rfl, rfl, trivial⟩, t + 1, out, by omega, hB, rfl, h⟩
  refine c_block ?_
  refine c_seq ?_
  refine c_region ?_
  first | refine l_indexAddr1 rfl Try.underlying26 (by first | exact sz_26) rfl rfl (by omega) ?_ | refine l_indexAddrN rfl Try.underlying26 (by first | exact sz_26) rfl rfl (by omega) ?_ | refine l_indexAddr rfl Try.underlying26 (by first | exact sz_26) rfl rfl (by omega) (by omega) ?_
  refine l_load rfl plain3 rfl (by assumption) ?_
  refine l_assign rfl rfl ?_
  refine l_nil ?_
  clear q
  refine c_seq ?_
  refine c_seq ?_
  refine c_region ?_
  by_cases hb0 : b < 0
  · skip
    refine l_move rfl rfl ?_
    first | refine l_lss rfl rfl rfl ?_ | refine l_slss rfl rfl rfl ?_
    refine l_set 58 (.bool true) rfl (vT hb0) ?_
    refine l_move rfl rfl ?_
    first | (refine l_yes rfl rfl ?_; first | refine l_move rfl rfl ?_) | refine l_no rfl rfl rfl rfl ?_ | refine l_no' rfl rfl rfl ?_
    first | (refine l_yes rfl rfl ?_; first | refine l_move rfl rfl ?_) | refine l_no rfl rfl rfl rfl ?_ | refine l_no' rfl rfl rfl ?_
    first | (refine l_yes rfl rfl ?_; first | refine l_len rfl Try.underlying23 rfl ?_ | refine l_len_string rfl Try.underlying23 rfl ?_) | refine l_no rfl rfl rfl rfl ?_ | refine l_no' rfl rfl rfl ?_
    first | (refine l_yes rfl rfl ?_; first | refine l_geq rfl rfl rfl ?_) | refine l_no rfl rfl rfl rfl ?_ | refine l_no' rfl rfl rfl ?_
    refine l_pick rfl rfl rfl ?_
    refine l_nil ?_
    refine c_condT rfl ?_
    refine c_exit ?_
    exact ⟨⟨rfl, rfl, rfl, rfl, rfl, rfl, rfl, rfl, rfl, rfl, rfl, trivial⟩, out, hB.congr (upto_skip g htD (by rw [hbD]; omega)), h⟩
  refine l_move rfl rfl ?_
  first | refine l_lss rfl rfl rfl ?_ | refine l_slss rfl rfl rfl ?_
  refine l_set 58 (.bool false) rfl (vF hb0) ?_
  refine l_move rfl rfl ?_
  first | (refine l_yes rfl rfl ?_; first | refine l_move rfl rfl ?_) | refine l_no rfl rfl rfl rfl ?_ | refine l_no' rfl rfl rfl ?_
  first | (refine l_yes rfl rfl ?_; first | refine l_move rfl rfl ?_) | refine l_no rfl rfl rfl rfl ?_ | refine l_no' rfl rfl rfl ?_
  first | (refine l_yes rfl rfl ?_; first | refine l_len rfl Try.underlying23 rfl ?_ | refine l_len_string rfl Try.underlying23 rfl ?_) | refine l_no rfl rfl rfl rfl ?_ | refine l_no' rfl rfl rfl ?_
  first | (refine l_yes rfl rfl ?_; first | refine l_geq rfl rfl rfl ?_) | refine l_no rfl rfl rfl rfl ?_ | refine l_no' rfl rfl rfl ?_
  refine l_pick rfl rfl rfl ?_
  refine l_nil ?_
  refine c_if _ rfl (fun hbn => ?_) (fun hbn => ?_)
  · refine c_exit ?_
    exact ⟨⟨rfl, rfl, rfl, rfl, rfl, rfl, rfl, rfl, rfl, rfl, rfl, trivial⟩, out, hB.congr (upto_skip g htD (by rw [hbD]; omega)), h⟩
  refine c_skip ?_
  obtain ⟨y, rfl⟩ : ∃ y : Nat, b = (y : Int) := ⟨b.toNat, by omega⟩
  have hy : y < g.length := by omega
  have hup := upto_take g ha htD hbD hy
  have hol := ofA_len g.length gs
  have hax := ofF_lt hgs.1 ha
  have hay := ofF_lt hgs.1 hy
  have egx := ofA_get (gs := gs) ha
  have egy := ofA_get (gs := gs) hy
  obtain ⟨p, hp⟩ : ∃ p, p = ofF gs a := ⟨_, rfl⟩
  obtain ⟨z, hz⟩ : ∃ z, z = ofF gs y := ⟨_, rfl⟩
  rw [← hp] at hax egx
  rw [← hz] at hay egy
  obtain ⟨ai, hai⟩ : ∃ ai : Addr, ai = ⟨ib, 0, none⟩ := ⟨_, rfl⟩
  rw [← hai] at h ⊢
  refine c_seq ?_
  have cellsOk : ∀ {L1 : List Res} {w : World}, St w0 (pt osN (.slice (some ai) g.length g.length) (ofA g.length gs) :: L1) w → w.cell? (ai.add a) = some (.int .i64 (p : Int)) ∧ w.cell? (ai.add y) = some (.int .i64 (z : Int)) := fun {L1 w} h => by
    have k1 := (h.osN_at (i := a) (by omega)).1
    have k2 := (h.osN_at (i := y) (by omega)).1
    rw [egx] at k1
    rw [egy] at k2
    exact ⟨k1, k2⟩
  refine c_draw (by kernel_rfl) (fun w1 W => W.cell? (ai.add a) = some (.int .i64 (p : Int)) ∧ W.cell? (ai.add y) = some (.int .i64 (z : Int))) (fun i => ([4, 5, 6, 7, 9] : List Nat).contains i) [.p 0 [], .p 1 [], .p 2 [], .q 3 [8, 10], .p 4 [], .p 5 [], .p 6 [], .q 7 [8, 10], .p 8 [], .x 9, .x 10] (by kernel_rfl) rfl (by kernel_rfl) h ?_ /- flagged effects: [9] -/
  clear h; intro w h hw
  clear hw
  have q := cellsOk (h.re [2])
  refine d_val rfl rfl (e_move rfl) ?_
  refine d_val rfl rfl (e_move rfl) ?_
  first | refine d_val rfl rfl (e_indexAddr1 Try.underlying26 (by first | exact sz_26) rfl rfl (by omega)) ?_ | refine d_val rfl rfl (e_indexAddrN Try.underlying26 (by first | exact sz_26) rfl rfl (by omega)) ?_ | refine d_val rfl rfl (e_indexAddr Try.underlying26 (by first | exact sz_26) rfl rfl (by omega) (by omega)) ?_
  refine d_load rfl rfl q plain3 rfl (fun w h => h.1) ?_
  refine d_val rfl rfl (e_move rfl) ?_
  refine d_val rfl rfl (e_move rfl) ?_
  first | refine d_val rfl rfl (e_indexAddr1 Try.underlying26 (by first | exact sz_26) rfl rfl (by omega)) ?_ | refine d_val rfl rfl (e_indexAddrN Try.underlying26 (by first | exact sz_26) rfl rfl (by omega)) ?_ | refine d_val rfl rfl (e_indexAddr Try.underlying26 (by first | exact sz_26) rfl rfl (by omega) (by omega)) ?_
  refine d_load rfl rfl q plain3 rfl (fun w h => h.2) ?_
  refine d_val rfl rfl (e_build #[.int .i64 (p : Int), .int .i64 (z : Int)] rfl (by kernel_rfl)) ?_
  refine d_step rfl ?_
  refine l_alloc rfl zero63 h ?_
  clear h; intro xb w h
  have q := cellsOk (h.re [3])
  refine l_nil ⟨fun _ _ => q, ?_⟩
  refine d_step rfl ?_
  refine l_storeB (old := #[.int .i64 0, .int .i64 0]) (cells := #[.int .i64 (p : Int), .int .i64 (z : Int)]) (by kernel_rfl) rfl rfl rfl rfl h ?_
  clear h q; intro w h
  refine l_nil ⟨fun hf => (nomatch hf), ?_⟩
  refine d_nil ?_
  have xcell : ∀ {L1 : List Res} {w : World}, St w0 (blk xb (.cells #[.int .i64 (p : Int), .int .i64 (z : Int)] 63 (0, 0)) :: L1) w → w.cell? ⟨xb, 0, none⟩ = some (.int .i64 (p : Int)) ∧ w.cell? ⟨xb, 1, none⟩ = some (.int .i64 (z : Int)) := fun {L1 w} h => ⟨h.blk_cell, h.blk_cell⟩
  refine c_seq ?_
  refine c_region ?_
  obtain ⟨x0, x1⟩ := xcell h
  refine l_indexAddrP 0 rfl Try.underlying63 sz3 rfl rfl (by omega) ?_
  refine l_load rfl plain3 rfl (by assumption) ?_
  refine l_indexAddrP 1 rfl Try.underlying63 sz3 rfl rfl (by omega) ?_
  refine l_load rfl plain3 rfl (by assumption) ?_
  first | refine l_neq rfl rfl rfl ?_ | refine l_sneq rfl rfl rfl ?_
  obtain ⟨kl, hkl⟩ := key63 (x := (p : Int)) (y := (z : Int)) (i64_of (by omega)).1 (i64_of (by omega)).2 (i64_of (by omega)).1 (i64_of (by omega)).2
  clear x0 x1
  by_cases hpz : p = z
  · refine l_set 78 (.bool false) rfl (by simp [hpz]) ?_
    refine l_move rfl rfl ?_
    first | (refine l_yes rfl rfl ?_; first | refine l_move rfl rfl ?_) | refine l_no rfl rfl rfl rfl ?_ | refine l_no' rfl rfl rfl ?_
    repeat (first | refine l_no rfl rfl rfl rfl ?_ | refine l_no' rfl rfl rfl ?_)
    refine l_pick rfl rfl rfl ?_
    refine l_nil ?_
    refine c_condF rfl ?_
    refine c_skip ?_
    exact ⟨⟨rfl, rfl, rfl, rfl, rfl, rfl, rfl, rfl, rfl, rfl, rfl, trivial⟩, out, (hB.same (a := a) (b := y) (.inl (by rw [← hp, ← hz, hpz]))).congr fun x y => (hup x y).symm, h.drop⟩
  have hpz' : ofF gs a ≠ ofF gs y := by rw [← hp, ← hz]; exact hpz
  refine l_set 78 (.bool true) rfl (by simp; omega) ?_
  refine l_move rfl rfl ?_
  first | (refine l_yes rfl rfl ?_; first | refine l_move rfl rfl ?_) | refine l_no rfl rfl rfl rfl ?_ | refine l_no' rfl rfl rfl ?_
  refine l_yes rfl rfl ?_
  refine l_loadB rfl (by kernel_rfl) (by kernel_rfl) rfl h ?_
  refine l_yes rfl rfl ?_
  refine l_lookup (x := ((p : Int), (z : Int))) rfl law63 Try.underlying62 zero4 hkl rfl rfl (h.re [1]) ?_
  rw [hadN_get]
  refine l_yes rfl rfl ?_
  refine l_not rfl rfl ?_
  refine l_pick rfl rfl rfl ?_
  refine l_nil ?_
  by_cases hzr : z ∈ out.getD p []
  · refine c_set 84 (.bool false) rfl (vnF hzr) ?_
    refine c_condF rfl ?_
    refine c_skip ?_
    exact ⟨⟨rfl, rfl, rfl, rfl, rfl, rfl, rfl, rfl, rfl, rfl, rfl, trivial⟩, out, (hB.same (a := a) (b := y) (.inr (by rw [← hp, ← hz]; exact hzr))).congr fun x y => (hup x y).symm, h.drop⟩
  refine c_set 84 (.bool true) rfl (vnT hzr) ?_
  refine c_condT rfl ?_
  have hpo : p < out.length := by rw [hB.len]; exact hax
  refine c_seq ?_
  refine c_region ?_
  refine l_move rfl rfl ?_
  refine l_loadB rfl (by kernel_rfl) (by kernel_rfl) rfl h ?_
  refine l_mapUpdate (x := ((p : Int), (z : Int))) law63 pairV_inj Try.underlying62 hkl rfl rfl rfl (h.re [1]) ?_
  clear h; intro w h
  rw [hadN_add hpo] at h
  refine l_nil ?_
  have hol2 := hB.len
  have hnd := hB.nd _ (List.getElem_mem hpo)
  have hlt := hB.lt _ (List.getElem_mem hpo)
  have hrl2 := nodup_le gs.length _ hnd hlt
  have egr : out.getD p [] = out[p] := by simp [List.getD_eq_getElem?_getD, hpo]
  obtain ⟨b0, cells, u, R, hob, hcu, hs, back⟩ := St.lend (Kx := osN) rfl (h.re [2]) p hpo
  cases hob
  have h := hs.re [0, 1, 4]
  clear hs
  have headOk : ∀ {R0 : Res} {L1 : List Res} {w : World}, St w0 (R0 :: blk ob (.cells cells 26 (0, 0)) :: L1) w → w.cell? ((⟨ob, 0, none⟩ : Addr).add p) = some u := fun {R0 L1 w} h => by
    rw [addr_add, Nat.zero_add]
    exact ((h.re [1]).blk_cell).trans hcu
  have allOk : ∀ {R0 : Res} {L1 : List Res} {w : World}, St w0 (R0 :: blk ob (.cells cells 26 (0, 0)) :: blk xb (.cells #[.int .i64 (p : Int), .int .i64 (z : Int)] 63 (0, 0)) :: L1) w → w.cell? ⟨xb, 0, none⟩ = some (.int .i64 (p : Int)) ∧ w.cell? ⟨xb, 1, none⟩ = some (.int .i64 (z : Int)) ∧ w.cell? ((⟨ob, 0, none⟩ : Addr).add p) = some u := fun h =>
    ⟨(xcell (h.re [2])).1, (xcell (h.re [2])).2, headOk h⟩
  refine c_draw (by kernel_rfl) (fun w1 W => W.cell? ⟨xb, 0, none⟩ = some (.int .i64 (p : Int)) ∧ W.cell? ⟨xb, 1, none⟩ = some (.int .i64 (z : Int)) ∧ W.cell? ((⟨ob, 0, none⟩ : Addr).add p) = some u) (fun i => ([3, 4, 5, 6, 7, 8, 9, 10, 11] : List Nat).contains i) [.p 0 [], .p 1 [], .q 2 [12, 13], .p 3 [], .p 4 [], .q 5 [6, 7, 11, 12, 13], .p 6 [], .q 7 [11, 12, 13], .p 8 [], .q 9 [10, 11, 12, 13], .x 10, .x 11, .p 12 [], .x 13] (by kernel_rfl) rfl (by kernel_rfl) h ?_ /- flagged effects: [10, 11] -/
  clear h; intro w h hw
  clear hw
  have q := allOk h
  refine d_val rfl rfl (e_move rfl) ?_
  refine d_val rfl rfl (e_indexAddrP (i := 0) Try.underlying63 sz3 rfl rfl (by omega)) ?_
  refine d_load rfl rfl q plain3 rfl (fun w h => h.1) ?_
  refine d_val rfl rfl (e_move rfl) ?_
  refine d_val rfl rfl (e_indexAddrP (i := 0) Try.underlying63 sz3 rfl rfl (by omega)) ?_
  refine d_load rfl rfl q plain3 rfl (fun w h => h.1) ?_
  first | refine d_val rfl rfl (e_indexAddr1 Try.underlying23 (by first | exact sz_23) rfl rfl (by omega)) ?_ | refine d_val rfl rfl (e_indexAddrN Try.underlying23 (by first | exact sz_23) rfl rfl (by omega)) ?_ | refine d_val rfl rfl (e_indexAddr Try.underlying23 (by first | exact sz_23) rfl rfl (by omega) (by omega)) ?_
  refine d_load rfl rfl q plain26 rfl (fun w h => h.2.2) ?_
  refine d_val rfl rfl (e_indexAddrP (i := 1) Try.underlying63 sz3 rfl rfl (by omega)) ?_
  refine d_load rfl rfl q plain3 rfl (fun w h => h.2.1) ?_
  refine d_step rfl ?_
  refine l_buildSlice1 (x := z) rfl Try.underlying26 sz3 zero3 rfl rfl (h.addNat z (by omega)) ?_
  clear h q; intro bs w h
  refine l_nil ⟨fun _ _ => allOk h.drop, ?_⟩
  refine d_step rfl ?_
  refine l_append rfl Try.underlying26 info3 rfl (by decide) rfl rfl (h.re [1, 0]) (by simp only [List.length_cons, List.length_nil]; omega) (by simp only [List.length_cons, List.length_nil]; unfold maxLen; omega) ?_
  clear h; intro u2 w h
  refine l_nil ⟨fun _ _ => allOk h, ?_⟩
  first | refine d_val rfl rfl (e_indexAddr1 Try.underlying23 (by first | exact sz_23) rfl rfl (by omega)) ?_ | refine d_val rfl rfl (e_indexAddrN Try.underlying23 (by first | exact sz_23) rfl rfl (by omega)) ?_ | refine d_val rfl rfl (e_indexAddr Try.underlying23 (by first | exact sz_23) rfl rfl (by omega) (by omega)) ?_
  refine d_step rfl ?_
  have hone := pt_one h
  refine l_storeF plain26 (congrArg (fun z => some (Value.pointer (some z))) (show (⟨ob, 0, none⟩ : Addr).add p = ⟨ob, p, none⟩ by rw [addr_add, Nat.zero_add])) rfl hone hcu (h.re [1]) ?_
  clear h; intro w h
  refine l_nil ⟨fun hf => (nomatch hf), ?_⟩
  refine d_nil ?_
  have h' := back u2 _ (h.re [1, 0, 3])
  refine ⟨⟨rfl, rfl, rfl, rfl, rfl, rfl, rfl, rfl, rfl, rfl, rfl, trivial⟩, _, (hB.add (a := a) (b := y) (by rw [← hp]; exact hax) (by rw [← hz]; exact hay) hpz' (by rw [← hp, ← hz]; exact hzr)).congr fun x y => (hup x y).symm, ?_⟩
  rw [← egr] at h'
  rw [← hp, ← hz]
  exact (h'.re [1]).drop.re [1]
end Go.Proofs.Ythamopcfpmkbfaa
