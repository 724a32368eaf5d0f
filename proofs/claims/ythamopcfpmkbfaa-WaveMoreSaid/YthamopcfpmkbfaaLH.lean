/- The law WaveMore, walked. No condition. -/
import Derived.Test.YthamopcfpmkbfaaLH1
import Derived.Test.YthamopcfpmkbfaaFD
set_option linter.unusedVariables false
set_option linter.unusedSimpArgs false
namespace Go.Proofs.Ythamopcfpmkbfaa
open Go.Proofs.Fw
variable {w0 w : World} {L : List Res}
theorem rows_rs {v : Value} {xs : List (List Int)} (h : St w0 (pt (os 26 rsI) v xs :: L) w) : St w0 (pt rsII v xs :: L) w := h.frz (os_frz (Kd.Pers.frz (rs_pers kI)) rfl)
theorem row_rs {v : Value} {xs : List Int} (h : St w0 (pt (os 3 kI) v xs :: L) w) : St w0 (pt rsI v xs :: L) w := h.frz (os_frz (Kd.Pers.frz (kInt_pers .i64)) rfl)
/-- How far the row is put twice into a new one (slots 54, 59, 64). -/
def PA (D : List Nat) (env : Env) (LA : List Res) (row : List Int) : Prop :=
  (2 ∉ D ∧ 7 ∉ D ∧ 12 ∉ D ∧ LA = []) ∨ (2 ∈ D ∧ 7 ∉ D ∧ 12 ∉ D ∧ ∃ v, lk env 54 = some v ∧ LA = [pt (os 3 kI) v []]) ∨
    (2 ∈ D ∧ 7 ∈ D ∧ 12 ∉ D ∧ ∃ v, lk env 59 = some v ∧ LA = [pt (os 3 kI) v row]) ∨ (2 ∈ D ∧ 7 ∈ D ∧ 12 ∈ D ∧ ∃ v, lk env 64 = some v ∧ LA = [pt (os 3 kI) v (row ++ row)])
/-- Whether what comes behind is there (slot 67). -/
def PB (D : List Nat) (env : Env) (LB : List Res) (r : List Int) : Prop := (15 ∉ D ∧ LB = []) ∨ (15 ∈ D ∧ ∃ v, lk env 67 = some v ∧ LB = [pt (os 3 kI) v r])
theorem PA.more {D : List Nat} {env : Env} {LA : List Res} {row : List Int} {i d : Nat} {v : Value} (h : PA D env LA row) (hi : i ≠ 2 ∧ i ≠ 7 ∧ i ≠ 12) (hd : d ≠ 54 ∧ d ≠ 59 ∧ d ≠ 64) : PA (i :: D) ((d, v) :: env) LA row := by
  obtain ⟨i1, i2, i3⟩ := hi
  obtain ⟨d1, d2, d3⟩ := hd
  rcases h with ⟨a1, a2, a3, e⟩ | ⟨a1, a2, a3, u, hu, e⟩ | ⟨a1, a2, a3, u, hu, e⟩ | ⟨a1, a2, a3, u, hu, e⟩
  · exact .inl ⟨by simp [a1, Ne.symm i1], by simp [a2, Ne.symm i2], by simp [a3, Ne.symm i3], e⟩
  · exact .inr (.inl ⟨by simp [a1], by simp [a2, Ne.symm i2], by simp [a3, Ne.symm i3], u, lk_more hu d1, e⟩)
  · exact .inr (.inr (.inl ⟨by simp [a1], by simp [a2], by simp [a3, Ne.symm i3], u, lk_more hu d2, e⟩))
  · exact .inr (.inr (.inr ⟨by simp [a1], by simp [a2], by simp [a3], u, lk_more hu d3, e⟩))
theorem PB.more {D : List Nat} {env : Env} {LB : List Res} {r : List Int} {i d : Nat} {v : Value} (h : PB D env LB r) (hi : i ≠ 15) (hd : d ≠ 67) : PB (i :: D) ((d, v) :: env) LB r := by
  rcases h with ⟨a1, e⟩ | ⟨a1, u, hu, e⟩
  · exact .inl ⟨by simp [a1, Ne.symm hi], e⟩
  · exact .inr ⟨by simp [a1], u, lk_more hu hd, e⟩
theorem PA.done {D : List Nat} {env : Env} {LA : List Res} {row : List Int} (h : PA D env LA row) (hi : 12 ∈ D) : ∃ v, lk env 64 = some v ∧ LA = [pt (os 3 kI) v (row ++ row)] := by
  rcases h with ⟨a1, a2, a3, e⟩ | ⟨a1, a2, a3, u, hu, e⟩ | ⟨a1, a2, a3, u, hu, e⟩ | ⟨a1, a2, a3, u, hu, e⟩
  · exact absurd hi a3
  · exact absurd hi a3
  · exact absurd hi a3
  · exact ⟨u, hu, e⟩
theorem PB.done {D : List Nat} {env : Env} {LB : List Res} {r : List Int} (h : PB D env LB r) (hi : 15 ∈ D) : ∃ v, lk env 67 = some v ∧ LB = [pt (os 3 kI) v r] := by
  rcases h with ⟨a1, e⟩ | ⟨a1, u, hu, e⟩
  · exact absurd hi a1
  · exact ⟨u, hu, e⟩
set_option maxRecDepth 4000 in
theorem wavemore_calls {ns : List Nat} {nv : Value} {n a b : Nat} (hn : n ≤ 255) (ha : a ≤ 255) (hb : b ≤ 255) (h : St w0 (pt (rs k8) nv ns :: L) w) :
    Calls Try.prog 9 #[nv, .int .u8 (n : Int), .int .u8 (a : Int), .int .u8 (b : Int)] w fun e w' => e = .returned (.bool true) ∧ St w0 (pt (rs k8) nv ns :: L) w' := by
  refine f_one Try.func9 rfl Try.results9 Try.ntmps9 rfl ?_
  refine c_seq ?_
  refine c_region ?_
  refine l_assign rfl rfl ?_
  refine l_nil ?_
  refine c_seq ?_
  refine c_region ?_
  refine l_move rfl rfl ?_
  refine l_move rfl rfl ?_
  refine l_call rfl Try.func13 rfl (by decide) rfl (make_calls hn h) ?_
  clear h
  rintro e w ⟨g0, gv, hgl0, hg0, rfl, h⟩
  refine ⟨_, rfl, ?_⟩
  replace h := osNN_rs h
  obtain ⟨g, hge⟩ : ∃ g, g = intss g0 := ⟨_, rfl⟩
  have hg15 : g.length ≤ 15 := by rw [hge, intss_len]; omega
  have hg81 : ∀ r ∈ g, r.length ≤ 81 := by
    rw [hge]
    exact intss_rows fun r hr => (hg0 r hr).1
  have hgl : g.length ≤ 100000 := by omega
  have hgr : ∀ r ∈ g, r.length ≤ 100000 := fun r hr => by have := hg81 r hr; omega
  rw [← hge] at h
  clear hg0 hgl0 hge
  obtain ⟨gs, hgs⟩ := grp_exists g hgl
  have hgsl := hgs.len
  obtain ⟨A, cg, rfl, -, -⟩ := h.rs_form
  refine l_assign rfl rfl ?_
  refine l_nil ?_
  refine c_seq ?_
  refine c_seq ?_
  refine c_region ?_
  refine l_move rfl rfl ?_
  first | refine l_len rfl Try.underlying23 rfl ?_ | refine l_len_string rfl Try.underlying23 rfl ?_
  first | refine l_eql rfl rfl rfl ?_ | refine l_seql rfl rfl rfl ?_
  refine l_nil ?_
  refine c_if _ rfl (fun hg => ?_) (fun hg => ?_)
  · refine c_seq ?_
    refine c_region ?_
    refine l_call (args := []) rfl Try.func23 rfl (by decide) rfl (awake16_calls h) ?_
    clear h
    rintro e w ⟨rfl, h⟩
    refine ⟨_, rfl, ?_⟩
    refine l_assign rfl rfl ?_
    refine l_nil ?_
    exact c_ret ⟨.inr rfl, _, rfl, rfl, h.drop⟩
  refine c_skip ?_
  have hg0 : 0 < g.length := by omega
  obtain ⟨x, hxe⟩ : ∃ x, x = a % g.length := ⟨_, rfl⟩
  obtain ⟨y, hye⟩ : ∃ y, y = b % g.length := ⟨_, rfl⟩
  have hx : x < g.length := by rw [hxe]; exact Nat.mod_lt _ hg0
  have hy : y < g.length := by rw [hye]; exact Nat.mod_lt _ hg0
  refine c_seq ?_
  refine c_region ?_
  refine l_buildSliceN (ps := []) (Kx := rsI) rfl Try.underlying23 sz26 zero26 rfl (by simp) rfl rfl rfl h ?_
  clear h; intro v1 w h
  refine l_move rfl rfl ?_
  refine l_appendR (Kx := rsI) rfl Try.underlying23 info26 rfl (by decide) (rs_pers kI) rfl rfl h (by simp; omega) (by simp; unfold maxLen; omega) ?_
  clear h; intro v2 w h
  simp only [List.map_nil, List.nil_append] at h
  obtain ⟨Ah, ch, rfl, -, -⟩ := h.os_form
  obtain ⟨ah, rfl⟩ := h.osN_ad rfl (rs_pers kI) hx
  refine l_assign rfl rfl ?_
  refine l_nil ?_
  refine c_seq ?_
  refine c_draw (by kernel_rfl) (fun w1 W => W = w1) (fun i => ([] : List Nat).contains i) [.p 0 [], .p 1 [], .p 2 [], .p 3 [], .p 4 [], .p 5 [], .p 6 [], .p 7 [], .p 8 [], .p 9 [], .p 10 [], .p 11 []] (by kernel_rfl) rfl (by kernel_rfl) h ?_
  clear h; intro w h hw
  clear hw
  refine d_val rfl rfl (e_move rfl) ?_
  first | refine d_val rfl rfl (e_conv8 Try.underlying5 Try.underlying3 (by omega) rfl) ?_ | refine d_val rfl rfl (e_convInt Try.underlying5 Try.underlying3 rfl) ?_
  refine d_val rfl rfl (e_move rfl) ?_
  first | refine d_val rfl rfl (e_len Try.underlying23 rfl) ?_ | refine d_val rfl rfl (e_len_string Try.underlying23 rfl) ?_
  refine d_val rfl rfl (e_remN rfl rfl (by omega)) ?_
  refine d_val rfl rfl (e_move rfl) ?_
  first | refine d_val rfl rfl (e_conv8 Try.underlying5 Try.underlying3 (by omega) rfl) ?_ | refine d_val rfl rfl (e_convInt Try.underlying5 Try.underlying3 rfl) ?_
  refine d_val rfl rfl (e_move rfl) ?_
  first | refine d_val rfl rfl (e_len Try.underlying23 rfl) ?_ | refine d_val rfl rfl (e_len_string Try.underlying23 rfl) ?_
  refine d_val rfl rfl (e_remN rfl rfl (by omega)) ?_
  refine d_val rfl rfl (e_assign rfl) ?_
  refine d_val rfl rfl (e_assign rfl) ?_
  refine d_nil ?_
  refine c_seq ?_
  refine c_region ?_
  refine l_set 11 (.int .i64 (x : Int)) rfl (by rw [hxe]) ?_
  refine l_set 12 (.int .i64 (y : Int)) rfl (by rw [hye]) ?_
  obtain ⟨row, hre⟩ : ∃ row, row = g[x] := ⟨_, rfl⟩
  have hgD : g.getD x [] = row := by rw [hre, getD_get [] hx]
  have hrl : row.length ≤ 81 := by rw [hre]; exact hg81 _ (List.getElem_mem hx)
  obtain ⟨ag, Ar, cr, rfl, hr1, hr2, h2⟩ := (h.re [1]).row_at hx
  rw [← hre] at h2 hr1
  clear h
  have h := h2
  clear h2
  refine l_move rfl rfl ?_
  refine l_move rfl rfl ?_
  refine l_buildSliceN (ps := []) (Kx := kI) rfl Try.underlying26 sz3 zero3 rfl (by simp) rfl rfl rfl h ?_
  clear h; intro v3 w h
  have q := (h.re [1]).cellR_at
  refine l_move rfl rfl ?_
  refine l_move rfl rfl ?_
  first | refine l_indexAddr1 rfl Try.underlying23 (by first | exact sz_23) rfl rfl (by omega) ?_ | refine l_indexAddrN rfl Try.underlying23 (by first | exact sz_23) rfl rfl (by omega) ?_ | refine l_indexAddr rfl Try.underlying23 (by first | exact sz_23) rfl rfl (by omega) (by omega) ?_
  refine l_load rfl plain26 rfl (by assumption) ?_
  clear q
  refine l_appendR (Kx := kI) rfl Try.underlying26 info3 rfl (by decide) (kInt_pers .i64) rfl rfl (h.re [0, 2]) (by simp; omega) (by simp; unfold maxLen; omega) ?_
  clear h; intro v4 w h
  refine l_move rfl rfl ?_
  refine l_buildSliceN (ps := [(.int .i64 (y : Int), (y : Int))]) (Kx := kI) rfl Try.underlying26 sz3 zero3 rfl (by simp) rfl rfl rfl (h.addI64 (y : Int) (by omega) (by omega)) ?_
  clear h; intro v5 w h
  refine l_append rfl Try.underlying26 info3 rfl (by decide) rfl rfl (h.re [1, 0]) (by simp; omega) (by simp; unfold maxLen; omega) ?_
  clear h; intro v6 w h
  simp only [List.map_nil, List.nil_append, List.map_cons] at h
  first | refine l_indexAddr1 rfl Try.underlying23 (by first | exact sz_23) rfl rfl (by omega) ?_ | refine l_indexAddrN rfl Try.underlying23 (by first | exact sz_23) rfl rfl (by omega) ?_ | refine l_indexAddr rfl Try.underlying23 (by first | exact sz_23) rfl rfl (by omega) (by omega) ?_
  replace h := row_rs h
  refine l_storeE plain26 rfl rfl rfl rfl hx (h.re [4, 0]) ?_
  clear h; intro w h
  refine l_nil ?_
  obtain ⟨hh, hhe⟩ : ∃ hh, hh = g.set x (g.getD x [] ++ [(y : Int)]) := ⟨_, rfl⟩
  rw [← hgD, ← hhe] at h
  rw [hgD] at h
  replace h := rows_rs h
  obtain ⟨l1, l2, l3⟩ := longer g hx [(y : Int)]
  rw [← hhe] at l1 l2 l3
  have hhr : ∀ r ∈ hh, r.length ≤ 100000 := fun r hr => by
    rw [hhe, hgD] at hr
    rcases List.mem_or_eq_of_mem_set hr with h1 | h1
    · exact hgr r h1
    · subst h1; simp; omega
  obtain ⟨hs, hhs⟩ := grp_exists hh (by omega)
  have hgl2 : hh.length ≤ 100000 := by omega
  refine c_seq ?_
  refine c_region ?_
  refine l_buildSliceN (ps := []) (Kx := rsI) rfl Try.underlying23 sz26 zero26 rfl (by simp) rfl rfl rfl h ?_
  clear h; intro t1 w h
  refine l_move rfl rfl ?_
  refine l_appendR (Kx := rsI) rfl Try.underlying23 info26 rfl (by decide) (rs_pers kI) rfl rfl (h.re [0, 4]) (by simp; omega) (by simp; unfold maxLen; omega) ?_
  clear h; intro t2 w h
  simp only [List.map_nil, List.nil_append] at h
  obtain ⟨At, ct, rfl, -, -⟩ := h.os_form
  obtain ⟨at2, rfl⟩ := h.osN_ad rfl (rs_pers kI) hx
  refine l_assign rfl rfl ?_
  refine l_nil ?_
  refine c_seq ?_
  replace h : St w0 (pt rsI (.slice Ar row.length cr) row :: cellR (ag.add x) (.slice Ar row.length cr) :: pt (os 26 rsI) (.slice (some at2) g.length ct) g :: pt rsII (.slice (some ag) g.length cg) g :: pt rsII (.slice (some ah) g.length ch) hh :: pt (rs k8) nv ns :: L) w := h.re [3, 4, 0, 1, 2]
  refine c_draw (by kernel_rfl) (fun w1 W => W.cell? (ag.add x) = some (.slice Ar row.length cr)) (fun i => ([2, 7, 8, 9, 10, 11, 13, 14, 15] : List Nat).contains i)
    [.p 0 [], .p 1 [], .p 3 [], .p 4 [], .p 5 [], .q 6 [7, 12, 16, 17, 18], .p 8 [], .p 9 [], .p 10 [], .q 11 [12, 16, 17, 18], .p 13 [], .p 14 [], .g [2, 7, 12, 15] (fun i => bif Nat.beq i 7 then [2] else bif Nat.beq i 12 then [7] else []), .x 16, .p 17 [], .x 18] (by kernel_rfl) rfl (by kernel_rfl) h ?_
  clear h; intro w h hw
  clear hw
  have q := (h.re [1]).cellR_at
  refine d_val rfl rfl (e_move rfl) ?_
  refine d_val rfl rfl (e_move rfl) ?_
  refine d_val rfl rfl (e_move rfl) ?_
  refine d_val rfl rfl (e_move rfl) ?_
  first | refine d_val rfl rfl (e_indexAddr1 Try.underlying23 (by first | exact sz_23) rfl rfl (by omega)) ?_ | refine d_val rfl rfl (e_indexAddrN Try.underlying23 (by first | exact sz_23) rfl rfl (by omega)) ?_ | refine d_val rfl rfl (e_indexAddr Try.underlying23 (by first | exact sz_23) rfl rfl (by omega) (by omega)) ?_
  refine d_load rfl rfl q plain26 rfl (fun w h => h) ?_
  refine d_val rfl rfl (e_move rfl) ?_
  refine d_val rfl rfl (e_move rfl) ?_
  first | refine d_val rfl rfl (e_indexAddr1 Try.underlying23 (by first | exact sz_23) rfl rfl (by omega)) ?_ | refine d_val rfl rfl (e_indexAddrN Try.underlying23 (by first | exact sz_23) rfl rfl (by omega)) ?_ | refine d_val rfl rfl (e_indexAddr Try.underlying23 (by first | exact sz_23) rfl rfl (by omega) (by omega)) ?_
  refine d_load rfl rfl q plain26 rfl (fun w h => h) ?_
  refine d_val rfl rfl (e_move rfl) ?_
  first | refine d_val rfl rfl (e_len Try.underlying23 rfl) ?_ | refine d_val rfl rfl (e_len_string Try.underlying23 rfl) ?_
  clear q
  refine d_grp (fun D env w => Fw.Sub env [(9, .slice (some ag) g.length cg), (10, .slice (some ah) g.length ch), (13, .slice (some at2) g.length ct), (52, .slice (some at2) g.length ct), (53, .int .i64 (x : Int)), (58, .slice Ar row.length cr), (63, .slice Ar row.length cr), (66, .int .i64 (g.length : Int))] ∧ ∃ LA LB, PA D env LA row ∧ PB D env LB [-1, (g.length : Int)] ∧ St w0 (LA ++ (LB ++ pt rsI (.slice Ar row.length cr) row :: cellR (ag.add x) (.slice Ar row.length cr) :: pt (os 26 rsI) (.slice (some at2) g.length ct) g :: pt rsII (.slice (some ag) g.length cg) g :: pt rsII (.slice (some ah) g.length ch) hh :: pt (rs k8) nv ns :: L)) w) ⟨⟨rfl, rfl, rfl, rfl, rfl, rfl, rfl, rfl, trivial⟩, [], [], .inl ⟨by simp, by simp, by simp, rfl⟩, .inl ⟨by simp, rfl⟩, h⟩ ?_ ?_ (by decide)
  · clear h
    rintro D i env w ⟨hsub, LA, LB, hA, hB, h⟩ hi hiD hpre
    have cOk : ∀ {L1 L2 : List Res} {w : World}, St w0 (L1 ++ (L2 ++ pt rsI (.slice Ar row.length cr) row :: cellR (ag.add x) (.slice Ar row.length cr) :: pt (os 26 rsI) (.slice (some at2) g.length ct) g :: pt rsII (.slice (some ag) g.length cg) g :: pt rsII (.slice (some ah) g.length ch) hh :: pt (rs k8) nv ns :: L)) w → w.cell? (ag.add x) = some (.slice Ar row.length cr) := fun h => (h.suffix.suffix.re [1]).cellR_at
    simp only [List.mem_cons, List.not_mem_nil, or_false] at hi
    rcases hi with rfl | rfl | rfl | rfl
    · -- []int{}
      refine ⟨_, rfl, rfl, ?_⟩
      rcases hA with ⟨_, a2, a3, rfl⟩ | ⟨a1, _⟩ | ⟨a1, _⟩ | ⟨a1, _⟩
      rotate_left
      · exact absurd a1 hiD
      · exact absurd a1 hiD
      · exact absurd a1 hiD
      refine l_buildSliceN (ps := []) (Kx := kI) rfl Try.underlying26 sz3 zero3 rfl (by simp) rfl rfl rfl h ?_
      clear h; intro v w h
      exact l_nil ⟨fun _ _ => cOk (L1 := [pt (os 3 kI) v []]) h, hsub.more rfl, [pt (os 3 kI) v []], LB, .inr (.inl ⟨by simp, by simp [a2], by simp [a3], v, lk_hit _ _ _, rfl⟩), hB.more (by decide) (by decide), h⟩
    · -- the row
      refine ⟨_, rfl, rfl, ?_⟩
      have h2 : 2 ∈ D := hpre 2 (by decide) (by simp)
      rcases hA with ⟨a1, _⟩ | ⟨a1, a2, a3, v, hv, rfl⟩ | ⟨a1, a2, _⟩ | ⟨a1, a2, _⟩
      · exact absurd h2 a1
      rotate_left
      · exact absurd a2 hiD
      · exact absurd a2 hiD
      have h' : St w0 (pt (os 3 kI) v [] :: pt rsI (.slice Ar row.length cr) row :: (LB ++ cellR (ag.add x) (.slice Ar row.length cr) :: pt (os 26 rsI) (.slice (some at2) g.length ct) g :: pt rsII (.slice (some ag) g.length cg) g :: pt rsII (.slice (some ah) g.length ch) hh :: pt (rs k8) nv ns :: L)) w := h.perm (List.Perm.cons _ List.perm_middle)
      refine l_appendR (Kx := kI) rfl Try.underlying26 info3 rfl (by decide) (kInt_pers .i64) hv hsub.2.2.2.2.2.1 h' (by simp; omega) (by simp; unfold maxLen; omega) ?_
      clear h h'; intro u w h
      have h' : St w0 ([pt (os 3 kI) u row] ++ (LB ++ pt rsI (.slice Ar row.length cr) row :: cellR (ag.add x) (.slice Ar row.length cr) :: pt (os 26 rsI) (.slice (some at2) g.length ct) g :: pt rsII (.slice (some ag) g.length cg) g :: pt rsII (.slice (some ah) g.length ch) hh :: pt (rs k8) nv ns :: L)) w := h.perm (List.Perm.cons _ List.perm_middle.symm)
      exact l_nil ⟨fun _ _ => cOk h', hsub.more rfl, [pt (os 3 kI) u row], LB, .inr (.inr (.inl ⟨by simp [h2], by simp, by simp [a3], u, lk_hit _ _ _, rfl⟩)), hB.more (by decide) (by decide), h'⟩
    · -- the row once more
      refine ⟨_, rfl, rfl, ?_⟩
      have h7 : 7 ∈ D := hpre 7 (by decide) (by simp)
      rcases hA with ⟨a1, a2, _⟩ | ⟨a1, a2, _⟩ | ⟨a1, a2, a3, v, hv, rfl⟩ | ⟨a1, a2, a3, _⟩
      · exact absurd h7 a2
      · exact absurd h7 a2
      rotate_left
      · exact absurd a3 hiD
      have h' : St w0 (pt (os 3 kI) v row :: pt rsI (.slice Ar row.length cr) row :: (LB ++ cellR (ag.add x) (.slice Ar row.length cr) :: pt (os 26 rsI) (.slice (some at2) g.length ct) g :: pt rsII (.slice (some ag) g.length cg) g :: pt rsII (.slice (some ah) g.length ch) hh :: pt (rs k8) nv ns :: L)) w := h.perm (List.Perm.cons _ List.perm_middle)
      refine l_appendR (Kx := kI) rfl Try.underlying26 info3 rfl (by decide) (kInt_pers .i64) hv hsub.2.2.2.2.2.2.1 h' (by omega) (by unfold maxLen; omega) ?_
      clear h h'; intro u w h
      have h' : St w0 ([pt (os 3 kI) u (row ++ row)] ++ (LB ++ pt rsI (.slice Ar row.length cr) row :: cellR (ag.add x) (.slice Ar row.length cr) :: pt (os 26 rsI) (.slice (some at2) g.length ct) g :: pt rsII (.slice (some ag) g.length cg) g :: pt rsII (.slice (some ah) g.length ch) hh :: pt (rs k8) nv ns :: L)) w := h.perm (List.Perm.cons _ List.perm_middle.symm)
      exact l_nil ⟨fun hf => (nomatch hf), hsub.more rfl, [pt (os 3 kI) u (row ++ row)], LB, .inr (.inr (.inr ⟨by simp [a1], by simp [h7], by simp, u, lk_hit _ _ _, rfl⟩)), hB.more (by decide) (by decide), h'⟩
    · -- []int{-1, len(g)}
      refine ⟨_, rfl, rfl, ?_⟩
      rcases hB with ⟨_, rfl⟩ | ⟨b1, _⟩
      rotate_left
      · exact absurd b1 hiD
      have h' : St w0 (LA ++ pt rsI (.slice Ar row.length cr) row :: cellR (ag.add x) (.slice Ar row.length cr) :: pt (os 26 rsI) (.slice (some at2) g.length ct) g :: pt rsII (.slice (some ag) g.length cg) g :: pt rsII (.slice (some ah) g.length ch) hh :: pt (rs k8) nv ns :: L) w := h
      refine l_buildSliceN (ps := [(.int .i64 (-1), -1), (.int .i64 (g.length : Int), (g.length : Int))]) (Kx := kI) rfl Try.underlying26 sz3 zero3 rfl (by simp) rfl (by simp [evs, ev, hsub.2.2.2.2.2.2.2.1]) rfl ((h'.addI64 (g.length : Int) (by omega) (by omega)).addI64 (-1) (by omega) (by omega)) ?_
      clear h h'; intro u w h
      have h' : St w0 (LA ++ ([pt (os 3 kI) u [-1, (g.length : Int)]] ++ pt rsI (.slice Ar row.length cr) row :: cellR (ag.add x) (.slice Ar row.length cr) :: pt (os 26 rsI) (.slice (some at2) g.length ct) g :: pt rsII (.slice (some ag) g.length cg) g :: pt rsII (.slice (some ah) g.length ch) hh :: pt (rs k8) nv ns :: L)) w := h.perm List.perm_middle.symm
      exact l_nil ⟨fun _ _ => cOk h', hsub.more rfl, LA, [pt (os 3 kI) u [-1, (g.length : Int)]], hA.more (by decide) (by decide), .inr ⟨by simp, u, lk_hit _ _ _, rfl⟩, h'⟩
  clear h
  rintro D env w ⟨hsub, LA, LB, hA, hB, h⟩ hall
  obtain ⟨v9, hv9, rfl⟩ := hA.done (hall 12 (by simp))
  obtain ⟨v10, hv10, rfl⟩ := hB.done (hall 15 (by simp))
  refine WpD.weak [(9, .slice (some ag) g.length cg), (10, .slice (some ah) g.length ch), (13, .slice (some at2) g.length ct), (52, .slice (some at2) g.length ct), (53, .int .i64 (x : Int)), (64, v9), (67, v10)] ⟨hsub.1, hsub.2.1, hsub.2.2.1, hsub.2.2.2.1, hsub.2.2.2.2.1, hv9, hv10, trivial⟩ ?_
  refine d_step rfl ?_
  refine l_append rfl Try.underlying26 info3 rfl (by decide) rfl rfl h (by simp; omega) (by simp; unfold maxLen; omega) ?_
  clear h; intro v11 w h
  refine l_nil ⟨fun hf => (nomatch hf), ?_⟩
  simp only [List.map_nil, List.nil_append, List.map_cons, List.append_assoc] at h
  first | refine d_val rfl rfl (e_indexAddr1 Try.underlying23 (by first | exact sz_23) rfl rfl (by omega)) ?_ | refine d_val rfl rfl (e_indexAddrN Try.underlying23 (by first | exact sz_23) rfl rfl (by omega)) ?_ | refine d_val rfl rfl (e_indexAddr Try.underlying23 (by first | exact sz_23) rfl rfl (by omega) (by omega)) ?_
  refine d_step rfl ?_
  replace h := row_rs h
  refine l_storeE plain26 rfl rfl rfl rfl hx (h.re [3, 0]) ?_
  clear h; intro w h
  refine l_nil ⟨fun hf => (nomatch hf), ?_⟩
  refine d_nil ?_
  obtain ⟨tw, htwe⟩ : ∃ tw, tw = g.set x (g.getD x [] ++ (row ++ [-1, (g.length : Int)])) := ⟨_, rfl⟩
  have htwe2 : g.set x (row ++ (row ++ [-1, (g.length : Int)])) = tw := by rw [htwe, hgD]
  rw [htwe2] at h
  replace h := rows_rs h
  obtain ⟨m1, m2, m3⟩ := longer g hx (row ++ [-1, (g.length : Int)])
  rw [← htwe] at m1 m2 m3
  have htr : ∀ r ∈ tw, r.length ≤ 100000 := fun r hr => by
    rw [htwe, hgD] at hr
    rcases List.mem_or_eq_of_mem_set hr with h1 | h1
    · exact hgr r h1
    · subst h1; simp; omega
  have htl : tw.length ≤ 100000 := by omega
  have hte : ∀ p q, EdgG g p q ↔ EdgG tw p q := fun p q => by
    refine ⟨m2 p q, fun k => ?_⟩
    rcases m3 p q k with k | ⟨rfl, k1, k2⟩
    · exact k
    · rcases List.mem_append.1 k1 with k3 | k3
      · exact ⟨hx, k2, by rw [hgD]; exact k3⟩
      · simp at k3; omega
  have hgt : Grp tw gs := grp_more hgs m1 m2 (fun p q k => .inl ((hte p q).2 k))
  obtain ⟨Lg, hLg⟩ := lvG_exists hgs
  obtain ⟨Lh, hLh⟩ := lvG_exists hhs
  have hLt := lvG_same hte hLg
  refine c_seq ?_
  refine c_region ?_
  refine l_move rfl rfl ?_
  refine l_call rfl Try.func22 rfl (by decide) rfl (levels_calls hgs hLg _ hgl hgr (h.re [3])) ?_
  clear h
  rintro e w ⟨vl, rfl, h⟩
  refine ⟨_, rfl, ?_⟩
  refine l_move rfl rfl ?_
  refine l_call rfl Try.func22 rfl (by decide) rfl (levels_calls hhs hLh _ hgl2 hhr (h.re [5])) ?_
  clear h
  rintro e w ⟨vm, rfl, h⟩
  refine ⟨_, rfl, ?_⟩
  refine l_assign rfl rfl ?_
  refine l_assign rfl rfl ?_
  refine l_nil ?_
  obtain ⟨lg, hlg⟩ : ∃ lg, lg = (List.range gs.length).map Lg := ⟨_, rfl⟩
  obtain ⟨lh, hlh⟩ : ∃ lh, lh = (List.range hs.length).map Lh := ⟨_, rfl⟩
  have hlgl : lg.length = gs.length := by rw [hlg]; simp
  have hlhl : lh.length = hs.length := by rw [hlh]; simp
  have hlga : ∀ i (hi : i < lg.length), lg[i] = Lg i := fun i hi => by subst hlg; simp
  have hlha : ∀ i (hi : i < lh.length), lh[i] = Lh i := fun i hi => by subst hlh; simp
  rw [← hlg, ← hlh] at h
  replace h : St w0 (pt (rs kN) vl lg :: pt osN vm lh :: _ :: _ :: pt rsII (.slice (some at2) g.length ct) tw :: _ :: _ :: pt (rs k8) nv ns :: L) w := (h.re [2]).frz (os_frz kN_pers.frz rfl)
  replace h := (h.re [1]).frz (K' := rs kN) (os_frz kN_pers.frz rfl)
  obtain ⟨Al, cl, rfl, hl1, hl2⟩ := (h.re [1]).rs_form' hlgl
  obtain ⟨Am, cm, rfl, hm1, hm2⟩ := h.rs_form' hlhl
  refine c_seq ?_
  refine c_seq ?_
  refine c_region ?_
  refine l_move rfl rfl ?_
  refine l_call rfl Try.func22 rfl (by decide) rfl (levels_calls hgt hLt _ htl htr (h.re [4])) ?_
  clear h
  rintro e w ⟨vt, rfl, h⟩
  refine ⟨_, rfl, ?_⟩
  rw [← hlg] at h
  replace h := osN_rs h
  replace h : St w0 (pt rsI (.slice Al gs.length cl) (ints lg) :: pt rsI vt (ints lg) :: _ :: pt (rs kN) (.slice Am hs.length cm) lh :: pt (rs kN) (.slice Al gs.length cl) lg :: _ :: _ :: _ :: _ :: pt (rs k8) nv ns :: L) w := ((h.re [3]).dup (rs_pers kN) |>.re [0, 2, 3, 4, 1]).turn (rs_turns kN_kI) (fun _ _ => trivial)
  refine l_move rfl rfl ?_
  refine l_call rfl Try.func17 rfl (by decide) rfl (ints_calls (h.re [1, 0])) ?_
  clear h
  rintro e w ⟨rfl, h⟩
  refine ⟨_, rfl, ?_⟩
  refine l_set 77 (.bool true) rfl (by simp) ?_
  refine l_not rfl rfl ?_
  refine l_nil ?_
  refine c_condF rfl ?_
  refine c_skip ?_
  replace h := (h.drop.drop.drop).re [0, 1]
  refine c_seq ?_
  refine c_seq ?_
  refine c_region ?_
  refine l_move rfl rfl ?_
  first | refine l_len rfl Try.underlying26 rfl ?_ | refine l_len_string rfl Try.underlying26 rfl ?_
  refine l_move rfl rfl ?_
  first | refine l_len rfl Try.underlying26 rfl ?_ | refine l_len_string rfl Try.underlying26 rfl ?_
  first | refine l_neq rfl rfl rfl ?_ | refine l_sneq rfl rfl rfl ?_
  refine l_nil ?_
  have hfew := groups_fewer hgs hhs l1 l2
  refine c_if _ rfl (fun hne => ?_) (fun hne => ?_)
  · refine c_seq ?_
    refine c_region ?_
    refine l_move rfl rfl ?_
    first | refine l_len rfl Try.underlying26 rfl ?_ | refine l_len_string rfl Try.underlying26 rfl ?_
    refine l_move rfl rfl ?_
    first | refine l_len rfl Try.underlying26 rfl ?_ | refine l_len_string rfl Try.underlying26 rfl ?_
    first | refine l_lss rfl rfl rfl ?_ | refine l_slss rfl rfl rfl ?_
    refine l_set 88 (.bool true) rfl (vT (by omega)) ?_
    refine l_move rfl rfl ?_
    refine l_yes rfl rfl ?_
    refine l_call (args := []) rfl Try.func23 rfl (by decide) rfl (awake16_calls h) ?_
    clear h
    rintro e w ⟨rfl, h⟩
    refine ⟨_, rfl, ?_⟩
    refine l_pick rfl rfl rfl ?_
    refine l_assign rfl rfl ?_
    refine l_nil ?_
    exact c_ret ⟨.inr rfl, _, rfl, rfl, h.drop.drop.drop.drop.drop.drop⟩
  refine c_skip ?_
  have heq : hs.length = gs.length := by omega
  have hsame := groups_same hgs hhs l1 l2 heq
  subst hsame
  have hle := levels_more hgs hhs l1 l2 hLg hLh
  refine c_seq ?_
  refine c_seq ?_
  refine c_region ?_
  refine l_assign rfl rfl ?_
  refine l_nil ?_
  refine c_block ?_
  refine c_loop' (fun m env w => ∃ (i : Nat), i + m = hs.length ∧ env = [(14, .slice Al hs.length cl), (15, .slice Am hs.length cm), (16, .int .i64 (i : Int))] ∧ St w0 (pt (rs kN) (.slice Am hs.length cm) lh :: pt (rs kN) (.slice Al hs.length cl) lg :: _ :: _ :: _ :: _ :: pt (rs k8) nv ns :: L) w) hs.length [(14, .slice Al hs.length cl), (15, .slice Am hs.length cm), (16, .int .i64 ((0 : Nat) : Int))] ⟨rfl, rfl, rfl, trivial⟩ ⟨0, by omega, rfl, h⟩ ?_
  clear h
  rintro m env w ⟨i, him, rfl, h⟩
  refine c_seq ?_
  refine c_seq ?_
  refine c_region ?_
  refine l_move rfl rfl ?_
  refine l_move rfl rfl ?_
  first | refine l_len rfl Try.underlying26 rfl ?_ | refine l_len_string rfl Try.underlying26 rfl ?_
  first | refine l_lss rfl rfl rfl ?_ | refine l_slss rfl rfl rfl ?_
  refine l_nil ?_
  refine c_if _ rfl (fun hc => ?_) (fun hc => ?_)
  · refine c_skip ?_
    have hi : i < hs.length := by omega
    obtain ⟨al, rfl⟩ := (h.re [1]).rsN_ad rfl (i := i) (by omega)
    obtain ⟨am, rfl⟩ := h.rsN_ad rfl (i := i) (by omega)
    refine c_seq ?_
    refine c_block ?_
    refine c_seq ?_
    refine c_draw (by kernel_rfl) (fun w1 W => W = w1) (fun i => ([4, 5, 6, 7] : List Nat).contains i) [.p 0 [], .p 1 [], .p 2 [], .q 3 [8], .p 4 [], .p 5 [], .p 6 [], .q 7 [8], .p 8 []] (by kernel_rfl) rfl (by kernel_rfl) h ?_
    clear h; intro w h hw
    clear hw
    have q1 := ((h.re [1]).rsN_at (i := i) (by omega)).1
    have q2 := (h.rsN_at (i := i) (by omega)).1
    rw [hlga] at q1
    rw [hlha] at q2
    have := hle i
    refine d_val rfl rfl (e_move rfl) ?_
    refine d_val rfl rfl (e_move rfl) ?_
    first | refine d_val rfl rfl (e_indexAddr1 Try.underlying26 (by first | exact sz_26) rfl rfl (by omega)) ?_ | refine d_val rfl rfl (e_indexAddrN Try.underlying26 (by first | exact sz_26) rfl rfl (by omega)) ?_ | refine d_val rfl rfl (e_indexAddr Try.underlying26 (by first | exact sz_26) rfl rfl (by omega) (by omega)) ?_
    refine d_load1 rfl rfl plain3 rfl (by assumption) ?_
    refine d_val rfl rfl (e_move rfl) ?_
    refine d_val rfl rfl (e_move rfl) ?_
    first | refine d_val rfl rfl (e_indexAddr1 Try.underlying26 (by first | exact sz_26) rfl rfl (by omega)) ?_ | refine d_val rfl rfl (e_indexAddrN Try.underlying26 (by first | exact sz_26) rfl rfl (by omega)) ?_ | refine d_val rfl rfl (e_indexAddr Try.underlying26 (by first | exact sz_26) rfl rfl (by omega) (by omega)) ?_
    refine d_load1 rfl rfl plain3 rfl (by assumption) ?_
    first | refine d_val rfl rfl (e_lss rfl rfl) ?_ | refine d_val rfl rfl (e_slss rfl rfl) ?_
    refine d_same 106 (.bool false) rfl (vF (by omega)) ?_
    refine d_nil ?_
    refine c_condF rfl ?_
    refine c_skip ?_
    refine c_region ?_
    refine l_move rfl rfl ?_
    first | refine l_addr rfl rfl rfl (by omega) (by omega) ?_ | refine l_sadd rfl rfl rfl (by omega) ?_
    refine l_assign rfl rfl ?_
    refine l_nil ?_
    exact ⟨m - 1, [(14, .slice (some al) hs.length cl), (15, .slice (some am) hs.length cm), (16, .int .i64 ((i + 1 : Nat) : Int))], by omega, ⟨rfl, rfl, rfl, trivial⟩, i + 1, by omega, rfl, h⟩
  refine c_exit ?_
  refine c_seq ?_
  refine c_region ?_
  refine l_call (args := []) rfl Try.func23 rfl (by decide) rfl (awake16_calls h) ?_
  clear h
  rintro e w ⟨rfl, h⟩
  refine ⟨_, rfl, ?_⟩
  refine l_assign rfl rfl ?_
  refine l_nil ?_
  exact c_ret ⟨.inr rfl, _, rfl, rfl, h.drop.drop.drop.drop.drop.drop⟩
end Go.Proofs.Ythamopcfpmkbfaa
