/- scc.Of: the finder's course, and the groups in order. No condition but that the graph is small, and that there is such a course. -/
import Derived.Test.YthamopcfpmkbfaaGR
import Derived.Test.YthamopcfpmkbfaaGC
import Derived.Test.YthamopcfpmkbfaaGE
import Derived.Test.YthamopcfpmkbfaaPT
set_option linter.unusedVariables false
set_option linter.unusedSimpArgs false
namespace Go.Proofs.Ythamopcfpmkbfaa
open Go.Proofs.Fw
variable {w0 w : World} {L : List Res}
def ropt (R : Value → Res) : Option Value → Res
  | none => fact True
  | some v => R v
theorem edgesF_small (g : List (List Int)) (hn : g.length ≤ 100000) : ∀ r ∈ edgesF g, ∀ x ∈ r, 0 ≤ x ∧ x ≤ 1152921504606846976 := by
  intro r hr x hx
  obtain ⟨l, hl, rfl⟩ := List.mem_map.1 hr
  have := (dd_mem g.length x l []).1 hx
  simp at this
  omega
set_option maxRecDepth 4000 in
theorem of_calls (g : List (List Int)) (gv : Value) (t : Fnd) (hn : g.length ≤ 100000) (hr : ∀ r ∈ g, r.length ≤ 100000) (hgo : Goes g.length 0 (fnd0 g) t) (hgl : t.groups.length ≤ 100000) (hne : ∀ l ∈ t.groups, l ≠ []) (hnd : (t.groups.map (·.headD 0)).Nodup)
    (h : St w0 (pt rsII gv g :: L) w) : Calls Try.prog 15 #[gv] w (Gives w0 osNN (sortG t.groups) (pt rsII gv g :: L)) := by
  obtain ⟨A, c, rfl, -, -⟩ := h.rs_form
  refine f_one Try.func15 rfl Try.results15 Try.ntmps15 rfl ?_
  refine c_seq ?_
  refine c_region ?_
  refine l_assign rfl rfl ?_
  refine l_nil ?_
  refine c_seq ?_
  refine c_region ?_
  refine l_move rfl rfl ?_
  first | refine l_len rfl Try.underlying23 rfl ?_ | refine l_len_string rfl Try.underlying23 rfl ?_
  refine l_assign rfl rfl ?_
  refine l_nil ?_
  refine c_seq ?_
  refine c_draw (by kernel_rfl) (fun _ _ => True) (fun _ => false) [.p 0 [], .p 2 [], .p 4 [], .p 6 [], .s [1, 3, 5, 7], .p 8 [], .x 9, .p 10 []] (by kernel_rfl) rfl (by kernel_rfl) h ?_
  clear h; intro w h hw
  clear hw
  refine d_val rfl rfl (e_move rfl) ?_
  refine d_val rfl rfl (e_move rfl) ?_
  refine d_val rfl rfl (e_move rfl) ?_
  refine d_val rfl rfl (e_move rfl) ?_
  refine d_set (fun D env w => ∃ o1 o3 o5 o7 : Option Value, (o1.isSome = true ↔ 1 ∈ D) ∧ (o3.isSome = true ↔ 3 ∈ D) ∧ (o5.isSome = true ↔ 5 ∈ D) ∧ (o7.isSome = true ↔ 7 ∈ D) ∧
    lk env 0 = some (.slice A g.length c) ∧ lk env 8 = some (.slice A g.length c) ∧ lk env 10 = some (.int .i64 (g.length : Int)) ∧ lk env 12 = some (.int .i64 (g.length : Int)) ∧ lk env 14 = some (.int .i64 (g.length : Int)) ∧
    (∀ v, o1 = some v → lk env 9 = some v) ∧ (∀ v, o3 = some v → lk env 11 = some v) ∧ (∀ v, o5 = some v → lk env 13 = some v) ∧ (∀ v, o7 = some v → lk env 15 = some v) ∧
    St w0 (ropt (fun v => pt osII v (edgesF g)) o1 :: ropt (fun v => pt osN v (List.replicate g.length 0)) o3 :: ropt (fun v => pt osN v (List.replicate g.length 0)) o5 :: ropt (fun v => pt osB v (List.replicate g.length false)) o7 :: pt rsII (.slice A g.length c) g :: L) w) ?_ ?_ ?_ (by decide)
  · refine ⟨none, none, none, none, by simp, by simp, by simp, by simp, rfl, rfl, rfl, rfl, rfl, by simp, by simp, by simp, by simp, ?_⟩
    exact (((h.addFact trivial).addFact trivial).addFact trivial).addFact trivial
  · clear h w
    rintro D i env w ⟨o1, o3, o5, o7, h1, h3, h5, h7, e0, e8, e10, e12, e14, e9, e11, e13, e15, h⟩ hi hD
    simp only [List.mem_cons, List.not_mem_nil, or_false] at hi
    rcases hi with rfl | rfl | rfl | rfl
    · have : o1 = none := by cases o1 with | none => rfl | some v => exact absurd (h1.1 rfl) hD
      subst this
      refine ⟨_, rfl, rfl, ?_⟩
      refine l_call rfl Try.func27 rfl (by decide) (show evs env [.tmp 8] = some [.slice A g.length c] by simp [evs, ev, e8]) (edges_calls g (.slice A g.length c) hn hr (h.re [4])) ?_
      rintro e w' ⟨v, rfl, h'⟩
      refine ⟨_, rfl, l_nil ⟨fun hf => (nomatch hf), some v, o3, o5, o7, by simp, ?_, ?_, ?_, ?_, ?_, ?_, ?_, ?_, ?_, ?_, ?_, ?_, ?_⟩⟩
      · simp [h3]
      · simp [h5]
      · simp [h7]
      · exact e0
      · exact e8
      · exact e10
      · exact e12
      · exact e14
      · rintro u hu; cases hu; rfl
      · exact e11
      · exact e13
      · exact e15
      · exact (h'.re [0, 3, 4, 5, 1, 2]).re [0, 1, 2, 3, 4, 5] |>.re [5] |>.drop
    · have : o3 = none := by cases o3 with | none => rfl | some v => exact absurd (h3.1 rfl) hD
      subst this
      refine ⟨_, rfl, rfl, ?_⟩
      refine l_makeSlice (Kx := kN) (zx := 0) rfl Try.underlying26 info3 rfl ⟨rfl, Nat.zero_le _⟩ (show ev env (.tmp 10) = _ from e10) (show ev env (.tmp 10) = _ from e10) (by omega) (by unfold maxLen; omega) h ?_
      intro v w' h'
      refine l_nil ⟨fun hf => (nomatch hf), o1, some v, o5, o7, ?_, ?_, ?_, ?_, ?_, ?_, ?_, ?_, ?_, ?_, ?_, ?_, ?_, ((h'.re [2]).drop).re [1, 0]⟩
      · simp [h1]
      · simp
      · simp [h5]
      · simp [h7]
      · exact e0
      · exact e8
      · exact e10
      · exact e12
      · exact e14
      · exact e9
      · rintro u hu; cases hu; rfl
      · exact e13
      · exact e15
    · have : o5 = none := by cases o5 with | none => rfl | some v => exact absurd (h5.1 rfl) hD
      subst this
      refine ⟨_, rfl, rfl, ?_⟩
      refine l_makeSlice (Kx := kN) (zx := 0) rfl Try.underlying26 info3 rfl ⟨rfl, Nat.zero_le _⟩ (show ev env (.tmp 12) = _ from e12) (show ev env (.tmp 12) = _ from e12) (by omega) (by unfold maxLen; omega) h ?_
      intro v w' h'
      refine l_nil ⟨fun hf => (nomatch hf), o1, o3, some v, o7, ?_, ?_, ?_, ?_, ?_, ?_, ?_, ?_, ?_, ?_, ?_, ?_, ?_, ((h'.re [3]).drop).re [1, 2, 0]⟩
      · simp [h1]
      · simp [h3]
      · simp
      · simp [h7]
      · exact e0
      · exact e8
      · exact e10
      · exact e12
      · exact e14
      · exact e9
      · exact e11
      · rintro u hu; cases hu; rfl
      · exact e15
    · have : o7 = none := by cases o7 with | none => rfl | some v => exact absurd (h7.1 rfl) hD
      subst this
      refine ⟨_, rfl, rfl, ?_⟩
      refine l_makeSlice (Kx := kBool) (zx := false) rfl Try.underlying41 info4 rfl rfl (show ev env (.tmp 14) = _ from e14) (show ev env (.tmp 14) = _ from e14) (by omega) (by unfold maxLen; omega) h ?_
      intro v w' h'
      refine l_nil ⟨fun hf => (nomatch hf), o1, o3, o5, some v, ?_, ?_, ?_, ?_, ?_, ?_, ?_, ?_, ?_, ?_, ?_, ?_, ?_, ((h'.re [4]).drop).re [1, 2, 3, 0]⟩
      · simp [h1]
      · simp [h3]
      · simp [h5]
      · simp
      · exact e0
      · exact e8
      · exact e10
      · exact e12
      · exact e14
      · exact e9
      · exact e11
      · exact e13
      · rintro u hu; cases hu; rfl
  · clear h w
    rintro D env w ⟨o1, o3, o5, o7, h1, h3, h5, h7, e0, e8, e10, e12, e14, e9, e11, e13, e15, h⟩ hD
    obtain ⟨v1, rfl⟩ := Option.isSome_iff_exists.1 (h1.2 (hD 1 (by simp)))
    obtain ⟨v3, rfl⟩ := Option.isSome_iff_exists.1 (h3.2 (hD 3 (by simp)))
    obtain ⟨v5, rfl⟩ := Option.isSome_iff_exists.1 (h5.2 (hD 5 (by simp)))
    obtain ⟨v7, rfl⟩ := Option.isSome_iff_exists.1 (h7.2 (hD 7 (by simp)))
    refine WpD.weak [(0, .slice A g.length c), (9, v1), (11, v3), (13, v5), (15, v7)] ⟨e0, e9 _ rfl, e11 _ rfl, e13 _ rfl, e15 _ rfl, trivial⟩ ?_
    clear h1 h3 h5 h7 e0 e8 e10 e12 e14 e9 e11 e13 e15 hD D env
    replace h : St w0 (pt osII v1 (edgesF g) :: pt osN v3 (List.replicate g.length 0) :: pt osN v5 (List.replicate g.length 0) :: pt osB v7 (List.replicate g.length false) :: pt rsII (.slice A g.length c) g :: L) w := h
    obtain ⟨A1, c1, rfl, -, -⟩ := h.os_form
    obtain ⟨A3, c3, rfl, -, -⟩ := (h.re [1]).os_form
    obtain ⟨A5, c5, rfl, -, -⟩ := (h.re [2]).os_form
    obtain ⟨A7, c7, rfl, -, -⟩ := (h.re [3]).os_form
    simp only [List.length_replicate] at h ⊢
    refine d_val rfl rfl (e_build #[.slice A1 (edgesF g).length c1, .slice A3 g.length c3, .slice A5 g.length c5, .slice none 0 0, .slice A7 g.length c7, .int .i64 0, .slice none 0 0] rfl (by kernel_rfl)) ?_
    refine d_step rfl ?_
    refine l_box rfl rfl h ?_
    clear h; intro b w h
    refine l_nil ⟨fun hf => (nomatch hf), ?_⟩
    refine d_val rfl rfl (e_assign rfl) ?_
    refine d_nil ?_
    have hout : St w0 (pt rsNN (.slice A1 (edgesF g).length c1) (nats (edgesF g)) :: _) w := ((h.re [1]).turn (os_turns (os_turns kI_kN)) (edgesF_small g hn)).frz (os_frz (os_frz kN_pers.frz rfl) rfl)
    have hnil1 : ∀ {L w}, St w0 L w → St w0 (pt osN (.slice none 0 0) [] :: L) w := fun h => h.add (.inl ⟨rfl, rfl⟩)
    have hnil2 : ∀ {L w}, St w0 L w → St w0 (pt osNN (.slice none 0 0) [] :: L) w := fun h => h.add (.inl ⟨rfl, rfl⟩)
    replace h : St w0 (fndL b ⟨.slice A1 (edgesF g).length c1, .slice A3 g.length c3, .slice A5 g.length c5, .slice none 0 0, .slice A7 g.length c7, .slice none 0 0⟩ (fnd0 g) (pt rsII (.slice A g.length c) g :: L)) w :=
      (hnil1 (hnil2 hout)).re [3, 4, 5, 0, 6, 1, 2]
    clear hout hnil1 hnil2
    refine c_seq ?_
    refine c_seq ?_
    refine c_region ?_
    refine l_move rfl rfl ?_
    first | refine l_len rfl Try.underlying23 rfl ?_ | refine l_len_string rfl Try.underlying23 rfl ?_
    refine l_move rfl rfl ?_
    refine l_nil ?_
    refine c_block ?_
    refine c_loop' (fun m env w => ∃ i s f, i + m = g.length ∧ Goes g.length i s t ∧ env = [(4, .pointer (some ⟨b, 0, none⟩)), (19, .int .i64 (g.length : Int)), (20, .int .i64 (i : Int))] ∧ St w0 (fndL b f s (pt rsII (.slice A g.length c) g :: L)) w) g.length [(4, .pointer (some ⟨b, 0, none⟩)), (19, .int .i64 (g.length : Int)), (20, .int .i64 ((0 : Nat) : Int))] ⟨rfl, rfl, rfl, trivial⟩ ⟨0, _, _, by omega, hgo, rfl, h⟩ ?_
    clear h hgo
    rintro m env w ⟨i, s, f, him, hgo, rfl, h⟩
    refine c_seq ?_
    refine c_region ?_
    first | refine l_lss rfl rfl rfl ?_ | refine l_slss rfl rfl rfl ?_
    refine l_nil ?_
    refine c_seq ?_
    refine c_if _ rfl (fun hc => ?_) (fun hc => ?_)
    · refine c_skip ?_
      have hi : i < g.length := by omega
      have hsafe : Safe g.length s := by
        cases hgo with
        | done => omega
        | skip _ hs => exact hs
        | go _ hs => exact hs
      obtain ⟨fo, fnu, flo, fop, fis, fgr⟩ := f
      obtain ⟨A1, c1, rfl, -, -⟩ := ((h.re [1]).os_form' hsafe.num)
      have hin : i < s.num.length := by rw [hsafe.num]; exact hi
      obtain ⟨a1, rfl⟩ := (h.re [1]).osN_ad rfl kN_pers hin
      have f1 := (fnd_cells h).2.1
      have q1 := ((h.re [1]).osN_at hin).1
      have hD : s.num.getD i 0 = s.num[i] := by simp [hin]
      refine c_seqS [(4, .pointer (some ⟨b, 0, none⟩)), (19, .int .i64 (g.length : Int)), (20, .int .i64 (i : Int))] (fun w => ∃ s' f, Goes g.length (i + 1) s' t ∧ St w0 (fndL b f s' (pt rsII (.slice A g.length c) g :: L)) w) ?_ ?_
      rotate_left
      · clear h f1 q1
        rintro w ⟨s', f, hgo', h⟩
        refine c_region ?_
        first | refine l_addr rfl rfl rfl (by omega) (by omega) ?_ | refine l_sadd rfl rfl rfl (by omega) ?_
        refine l_move rfl rfl ?_
        refine l_nil ?_
        exact ⟨m - 1, [(4, .pointer (some ⟨b, 0, none⟩)), (19, .int .i64 (g.length : Int)), (20, .int .i64 ((i + 1 : Nat) : Int))], by omega, ⟨rfl, rfl, rfl, trivial⟩, i + 1, s', f, by omega, hgo', rfl, h⟩
      refine c_block ?_
      refine c_seq ?_
      refine c_region ?_
      refine l_move rfl rfl ?_
      refine l_assign rfl rfl ?_
      refine l_nil ?_
      refine c_seq ?_
      refine c_region ?_
      refine l_move rfl rfl ?_
      refine l_nilCheck rfl rfl ?_
      first | refine l_fieldAddr0 1 rfl Try.underlying43 rfl szF43_1 rfl rfl ?_ | refine l_fieldAddrA 1 rfl Try.underlying43 rfl szF43_1 rfl rfl ?_
      refine l_load rfl plain26 rfl (by assumption) ?_
      refine l_move rfl rfl ?_
      first | refine l_indexAddr1 rfl Try.underlying26 (by first | exact sz_26) rfl rfl (by omega) ?_ | refine l_indexAddrN rfl Try.underlying26 (by first | exact sz_26) rfl rfl (by omega) ?_ | refine l_indexAddr rfl Try.underlying26 (by first | exact sz_26) rfl rfl (by omega) (by omega) ?_
      refine l_load rfl plain3 rfl (by assumption) ?_
      first | refine l_eql rfl rfl rfl ?_ | refine l_seql rfl rfl rfl ?_
      refine l_nil ?_
      clear f1 q1
      refine c_if _ rfl (fun h0 => ?_) (fun h0 => ?_)
      · have hz : s.num[i] = 0 := by omega
        cases hgo with
        | done => omega
        | skip _ _ h1 => rw [hD] at h1; exact absurd hz h1
        | go _ _ _ hcn hon hr' hgo =>
        refine c_region ?_
        refine l_move rfl rfl ?_
        refine l_move rfl rfl ?_
        refine l_call rfl Try.func28 rfl (by decide) rfl (from_calls hsafe i hi hcn hon hr' h) ?_
        clear h
        rintro e w ⟨rfl, f, h⟩
        refine ⟨_, rfl, ?_⟩
        refine l_nil ?_
        exact ⟨⟨rfl, rfl, rfl, trivial⟩, _, f, hgo, h⟩
      · have hz : s.num[i] ≠ 0 := by omega
        cases hgo with
        | done => omega
        | go _ _ h1 => rw [hD] at h1; exact absurd h1 hz
        | skip _ _ _ hgo =>
        refine c_skip ?_
        exact ⟨⟨rfl, rfl, rfl, trivial⟩, _, _, hgo, h⟩
    · refine c_exit ?_
      have : i = g.length := by omega
      subst this
      have : s = t := by
        cases hgo with
        | done => rfl
        | skip hi => omega
        | go hi => omega
      subst this
      refine c_seq ?_
      refine c_region ?_
      have f6 := (fnd_cells h).2.2.2.2.2.2
      refine l_move rfl rfl ?_
      refine l_nilCheck rfl rfl ?_
      first | refine l_fieldAddr0 6 rfl Try.underlying43 rfl szF43_6 rfl rfl ?_ | refine l_fieldAddrA 6 rfl Try.underlying43 rfl szF43_6 rfl rfl ?_
      refine l_load rfl plain23 rfl (by assumption) ?_
      refine l_call rfl Try.func29 rfl (by decide) rfl (sortfunc_calls (h.re [5]) hgl hne hnd) ?_
      clear h f6
      rintro e w ⟨rfl, h⟩
      refine ⟨_, rfl, ?_⟩
      refine l_nil ?_
      refine c_seq ?_
      refine c_region ?_
      have f6 := (fnd_cells (h.re [1])).2.2.2.2.2.2
      refine l_move rfl rfl ?_
      refine l_nilCheck rfl rfl ?_
      first | refine l_fieldAddr0 6 rfl Try.underlying43 rfl szF43_6 rfl rfl ?_ | refine l_fieldAddrA 6 rfl Try.underlying43 rfl szF43_6 rfl rfl ?_
      refine l_load rfl plain23 rfl (by assumption) ?_
      refine l_assign rfl rfl ?_
      refine l_nil ?_
      refine c_ret ⟨.inr rfl, _, rfl, _, rfl, ?_⟩
      exact ((((((h.re [1, 2, 3, 4, 5, 6]).drop).drop).drop).drop).drop).drop
end Go.Proofs.Ythamopcfpmkbfaa
