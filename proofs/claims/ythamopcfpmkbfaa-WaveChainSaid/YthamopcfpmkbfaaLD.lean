/- The law WaveMade, walked. No condition. -/
import Derived.Test.YthamopcfpmkbfaaLB
import Derived.Test.YthamopcfpmkbfaaLC
set_option linter.unusedVariables false
set_option linter.unusedSimpArgs false
namespace Go.Proofs.Ythamopcfpmkbfaa
/-! ### waves, in plain words -/
structure WInv (lv : List Nat) (i : Nat) (out : List (List Nat)) : Prop where
  mem : ∀ n y, y ∈ out.getD n [] ↔ y < i ∧ lv.getD y 0 = n
  nd : ∀ r ∈ out, r.Nodup
  sum : (out.map List.length).sum = i
  len : ∀ y, y < i → lv.getD y 0 < out.length
  top : ∀ n, n + 1 = out.length → ∃ y, y < i ∧ lv.getD y 0 = n
theorem sum_set : ∀ (l : List (List Nat)) (n : Nat) (r : List Nat), n < l.length → r.length = (l.getD n []).length + 1 → ((l.set n r).map List.length).sum = (l.map List.length).sum + 1
  | [], n, r, h, _ => by simp at h
  | a :: l, 0, r, h, e => by simp at e ⊢; omega
  | a :: l, n + 1, r, h, e => by
    have := sum_set l n r (by simpa using h) (by simpa using e)
    simp at this ⊢; omega
theorem padF_getD (out : List (List Nat)) (n k : Nat) : (padF out n).getD k [] = out.getD k [] := by
  unfold padF
  simp only [List.getD_eq_getElem?_getD, List.getElem?_append, List.getElem?_replicate]
  split
  · rfl
  · rename_i h
    rw [List.getElem?_eq_none (by omega)]
    split <;> rfl
theorem padF_sum (out : List (List Nat)) (n : Nat) : ((padF out n).map List.length).sum = (out.map List.length).sum := by
  unfold padF
  rw [List.map_append, List.sum_append]
  simp
theorem wavesF_inv (lv : List Nat) : ∀ i, WInv lv i (wavesF lv i)
  | 0 => ⟨by simp [wavesF], by simp [wavesF], by simp [wavesF], by simp, by simp [wavesF]⟩
  | i + 1 => by
    have h := wavesF_inv lv i
    obtain ⟨out, hout⟩ : ∃ o, o = wavesF lv i := ⟨_, rfl⟩
    obtain ⟨n, hn⟩ : ∃ n, n = lv.getD i 0 := ⟨_, rfl⟩
    rw [wavesF, wvStep, ← hn, ← hout, padF_getD]
    rw [← hout] at h
    have hlt := padF_lt out n
    have hno : i ∉ out.getD n [] := fun k => by have := ((h.mem n i).1 k).1; omega
    refine ⟨fun k y => ?_, fun r hr => ?_, ?_, fun y hy => ?_, fun k hk => ?_⟩
    · rw [getD_set]
      by_cases e : n = k
      · subst e
        rw [if_pos ⟨rfl, hlt⟩, List.mem_append, h.mem]
        simp only [List.mem_singleton]
        constructor
        · rintro (⟨h1, h2⟩ | rfl)
          · exact ⟨by omega, h2⟩
          · exact ⟨by omega, hn.symm⟩
        · rintro ⟨h1, h2⟩
          by_cases e : y = i
          · exact .inr e
          · exact .inl ⟨by omega, h2⟩
      · rw [if_neg (fun k => e k.1), padF_getD, h.mem]
        constructor
        · rintro ⟨h1, h2⟩; exact ⟨by omega, h2⟩
        · rintro ⟨h1, h2⟩
          refine ⟨?_, h2⟩
          by_cases e2 : y = i
          · subst e2; exact absurd (hn.trans h2) e
          · omega
    · rcases List.mem_or_eq_of_mem_set hr with h1 | h1
      · rcases padF_mem h1 with h2 | h2
        · exact h.nd r h2
        · subst h2; exact List.nodup_nil
      · subst h1
        rw [List.nodup_append]
        refine ⟨?_, by simp, fun a ha b hb e => by simp at hb; subst hb; subst e; exact hno ha⟩
        by_cases hl : n < out.length
        · rw [getD_get [] hl]; exact h.nd _ (List.getElem_mem hl)
        · rw [List.getD_eq_getElem?_getD, List.getElem?_eq_none (by omega)]; exact List.nodup_nil
    · rw [sum_set _ _ _ hlt (by rw [padF_getD]; simp), padF_sum, h.sum]
    · rw [List.length_set, padF_len]
      by_cases e : y = i
      · subst e; omega
      · have := h.len y (by omega); omega
    · rw [List.length_set, padF_len] at hk
      by_cases e : n = k
      · exact ⟨i, by omega, by rw [← hn, e]⟩
      · obtain ⟨y, h1, h2⟩ := h.top k (by omega)
        exact ⟨y, by omega, h2⟩
/-- Whatever level there is, each one below it is there. -/
theorem lvG_down {g : List (List Int)} {gs : List (List Nat)} {Lv : Nat → Nat} (hgs : Grp g gs) (hLv : LvG g gs Lv) : ∀ (d n i : Nat), i < gs.length → Lv i = n + d → ∃ j, j < gs.length ∧ Lv j = n
  | 0, n, i, hi, h => ⟨i, hi, by omega⟩
  | d + 1, n, i, hi, h => by
    rcases (hLv i).2 with h1 | ⟨j, h1, h2⟩
    · omega
    · exact lvG_down hgs hLv d n j (bel_lt hgs.1 h1).2 (by omega)
theorem waves_full {g : List (List Int)} {gs : List (List Nat)} {Lv : Nat → Nat} (hgs : Grp g gs) (hLv : LvG g gs Lv) {n : Nat} (hn : n < (wavesF ((List.range gs.length).map Lv) gs.length).length) : (wavesF ((List.range gs.length).map Lv) gs.length).getD n [] ≠ [] := by
  have h := wavesF_inv ((List.range gs.length).map Lv) gs.length
  have hg : ∀ y, y < gs.length → ((List.range gs.length).map Lv).getD y 0 = Lv y := fun y hy => by rw [getD_get 0 (by simpa using hy)]; simp
  obtain ⟨m, hm⟩ : ∃ m, m + 1 = (wavesF ((List.range gs.length).map Lv) gs.length).length := ⟨_, Nat.sub_add_cancel (by omega)⟩
  obtain ⟨y, hy, h1⟩ := h.top m hm
  rw [hg y hy] at h1
  obtain ⟨j, hj, h2⟩ := lvG_down hgs hLv (m - n) n y hy (by omega)
  intro e
  have := (h.mem n j).2 ⟨hj, by rw [hg j hj]; exact h2⟩
  rw [e] at this
  cases this
open Go.Proofs.Fw
variable {w0 w : World} {L : List Res}
theorem sum_take (l : List (List Nat)) {i : Nat} (h : i < l.length) : ((l.take (i + 1)).map List.length).sum = ((l.take i).map List.length).sum + l[i].length := by
  rw [List.take_succ_eq_append_getElem h, List.map_append, List.sum_append]; simp
theorem sum_take_le (l : List (List Nat)) (i : Nat) : ((l.take i).map List.length).sum ≤ (l.map List.length).sum := by
  have : (l.map List.length).sum = ((l.take i).map List.length).sum + ((l.drop i).map List.length).sum := by
    rw [← List.sum_append, ← List.map_append, List.take_append_drop]
  omega
set_option maxRecDepth 4000 in
theorem wavemade_calls {ns : List Nat} {nv : Value} {n : Nat} (hn : n ≤ 255) (h : St w0 (pt (rs k8) nv ns :: L) w) :
    Calls Try.prog 11 #[nv, .int .u8 (n : Int)] w fun e w' => e = .returned (.bool true) ∧ St w0 (pt (rs k8) nv ns :: L) w' := by
  refine f_one Try.func11 rfl Try.results11 Try.ntmps11 rfl ?_
  refine c_seq ?_
  refine c_region ?_
  refine l_assign rfl rfl ?_
  refine l_nil ?_
  refine c_seq ?_
  refine c_region ?_
  refine l_move rfl rfl ?_
  refine l_move rfl rfl ?_
  refine l_call rfl Try.func13 rfl (by decide) rfl (make_calls hn h) ?_
  clear h
  rintro e w ⟨g0, gv, hgl0, hg0, rfl, h⟩
  refine ⟨_, rfl, ?_⟩
  replace h := osNN_rs h
  obtain ⟨g, hge⟩ : ∃ g, g = intss g0 := ⟨_, rfl⟩
  have hgl : g.length ≤ 100000 := by rw [hge, intss_len]; omega
  have hgr : ∀ r ∈ g, r.length ≤ 100000 := by
    rw [hge]
    exact intss_rows fun r hr => by have := (hg0 r hr).1; omega
  rw [← hge] at h
  clear hg0 hgl0 hge
  obtain ⟨gs, hgs⟩ := grp_exists g hgl
  obtain ⟨Lv, hLv⟩ := lvG_exists hgs
  have hgsl := hgs.len
  refine l_assign rfl rfl ?_
  refine l_nil ?_
  refine c_seq ?_
  refine c_region ?_
  refine l_move rfl rfl ?_
  refine l_call rfl Try.func22 rfl (by decide) rfl (levels_calls hgs hLv gv hgl hgr h) ?_
  clear h
  rintro e w ⟨lv, rfl, h⟩
  refine ⟨_, rfl, ?_⟩
  refine l_move rfl rfl ?_
  refine l_call rfl Try.func25 rfl (by decide) rfl (waves_calls hgs hLv gv hgl hgr (h.re [1])) ?_
  clear h
  rintro e w ⟨wv, rfl, h⟩
  refine ⟨_, rfl, ?_⟩
  have hW := wavesF_inv ((List.range gs.length).map Lv) gs.length
  have hfull := fun n hn => waves_full hgs hLv (n := n) hn
  have hwl := wavesF_len (lvs_get (fun i => lvG_le hgs.1 hLv i)) gs.length
  obtain ⟨ws, hws⟩ : ∃ ws, ws = wavesF ((List.range gs.length).map Lv) gs.length := ⟨_, rfl⟩
  obtain ⟨ls, hls⟩ : ∃ ls, ls = (List.range gs.length).map Lv := ⟨_, rfl⟩
  have hll : ls.length = gs.length := by rw [hls]; simp
  rw [← hws] at h hW hfull hwl
  rw [← hls] at h hW
  replace h : St w0 (pt (rs (rs kN)) wv ws :: pt rsII gv g :: pt osN lv ls :: pt (rs k8) nv ns :: L) w := h.frz (os_frz (os_frz kN_pers.frz rfl) rfl)
  replace h : St w0 (pt (rs kN) lv ls :: pt (rs (rs kN)) wv ws :: pt rsII gv g :: pt (rs k8) nv ns :: L) w := (h.re [2]).frz (os_frz kN_pers.frz rfl)
  obtain ⟨Al, cl, rfl, hl1, hl2⟩ := h.rs_form
  obtain ⟨Aw, cw, rfl, hw1, hw2⟩ := (h.re [1]).rs_form
  refine l_assign rfl rfl ?_
  refine l_assign rfl rfl ?_
  refine l_nil ?_
  refine c_seq ?_
  refine c_region ?_
  refine l_assign rfl rfl ?_
  refine l_nil ?_
  refine c_seq ?_
  refine c_seq ?_
  refine c_region ?_
  refine l_assign rfl rfl ?_
  refine l_nil ?_
  refine c_block ?_
  refine c_loop' (fun m env w => ∃ (i : Nat), i + m = ws.length ∧ env = [(5, gv), (6, .slice Al ls.length cl), (7, .slice Aw ws.length cw), (8, .int .i64 (((ws.take i).map List.length).sum : Int)), (9, .int .i64 (i : Int))] ∧ St w0 (pt (rs kN) (.slice Al ls.length cl) ls :: pt (rs (rs kN)) (.slice Aw ws.length cw) ws :: pt rsII gv g :: pt (rs k8) nv ns :: L) w) ws.length [(5, gv), (6, .slice Al ls.length cl), (7, .slice Aw ws.length cw), (8, .int .i64 ((0 : Nat) : Int)), (9, .int .i64 ((0 : Nat) : Int))] ⟨rfl, rfl, rfl, rfl, rfl, trivial⟩ ⟨0, by omega, rfl, h⟩ ?_
  clear h
  rintro m env w ⟨i, him, rfl, h⟩
  refine c_seq ?_
  refine c_seq ?_
  refine c_region ?_
  refine l_move rfl rfl ?_
  refine l_move rfl rfl ?_
  first | refine l_len rfl Try.underlying23 rfl ?_ | refine l_len_string rfl Try.underlying23 rfl ?_
  first | refine l_lss rfl rfl rfl ?_ | refine l_slss rfl rfl rfl ?_
  refine l_nil ?_
  refine c_if _ rfl (fun hc => ?_) (fun hc => ?_)
  · refine c_skip ?_
    have hi : i < ws.length := by omega
    obtain ⟨aw, Ar, cr, rfl, q, hr1, hr2, hrow, -⟩ := (h.re [1]).rsNN_row hi
    have hrb := bound63 hr1 hr2
    have hne := hfull i hi
    rw [getD_get [] hi] at hne
    have hpos : 0 < ws[i].length := List.length_pos_iff.2 hne
    obtain ⟨ar, rfl, hra⟩ := hrow hpos
    have hmem : ∀ k (hk : k < ws[i].length), ws[i][k] < gs.length ∧ ls.getD ws[i][k] 0 = i := fun k hk => (hW.mem i _).1 (by rw [getD_get [] hi]; exact List.getElem_mem hk)
    have hst := sum_take ws hi
    have hsl := sum_take_le ws (i + 1)
    rw [hW.sum] at hsl
    refine c_seq ?_
    refine c_block ?_
    refine c_seq ?_
    refine c_seq ?_
    refine c_region ?_
    refine l_move rfl rfl ?_
    refine l_move rfl rfl ?_
    first | refine l_indexAddr1 rfl Try.underlying23 (by first | exact sz_23) rfl rfl (by omega) ?_ | refine l_indexAddrN rfl Try.underlying23 (by first | exact sz_23) rfl rfl (by omega) ?_ | refine l_indexAddr rfl Try.underlying23 (by first | exact sz_23) rfl rfl (by omega) (by omega) ?_
    refine l_load rfl plain26 rfl (by assumption) ?_
    first | refine l_len rfl Try.underlying26 rfl ?_ | refine l_len_string rfl Try.underlying26 rfl ?_
    first | refine l_eql rfl rfl rfl ?_ | refine l_seql rfl rfl rfl ?_
    refine l_set 29 (.bool false) rfl (vF (by omega)) ?_
    refine l_nil ?_
    refine c_condF rfl ?_
    refine c_skip ?_
    refine c_seq ?_
    refine c_seq ?_
    refine c_region ?_
    refine l_assign rfl rfl ?_
    refine l_nil ?_
    refine c_block ?_
    clear q hra
    refine c_loop' (fun m2 env w => ∃ (k : Nat), k + m2 = ws[i].length ∧ env = [(5, gv), (6, .slice Al ls.length cl), (7, .slice (some aw) ws.length cw), (8, .int .i64 ((((ws.take i).map List.length).sum : Nat) : Int)), (9, .int .i64 (i : Int)), (10, .int .i64 (k : Int))] ∧ St w0 (pt (rs kN) (.slice Al ls.length cl) ls :: pt (rs (rs kN)) (.slice (some aw) ws.length cw) ws :: pt rsII gv g :: pt (rs k8) nv ns :: L) w) ws[i].length [(5, gv), (6, .slice Al ls.length cl), (7, .slice (some aw) ws.length cw), (8, .int .i64 ((((ws.take i).map List.length).sum : Nat) : Int)), (9, .int .i64 (i : Int)), (10, .int .i64 ((0 : Nat) : Int))] ⟨rfl, rfl, rfl, rfl, rfl, rfl, trivial⟩ ⟨0, by omega, rfl, h⟩ ?_
    clear h
    rintro m2 env w ⟨k, hkm, rfl, h⟩
    obtain ⟨aw', Ar, cr, hA, q, hr1, hr2, hrow, -⟩ := (h.re [1]).rsNN_row hi
    cases hA
    refine c_seq ?_
    refine c_seq ?_
    refine c_region ?_
    refine l_move rfl rfl ?_
    refine l_move rfl rfl ?_
    refine l_move rfl rfl ?_
    first | refine l_indexAddr1 rfl Try.underlying23 (by first | exact sz_23) rfl rfl (by omega) ?_ | refine l_indexAddrN rfl Try.underlying23 (by first | exact sz_23) rfl rfl (by omega) ?_ | refine l_indexAddr rfl Try.underlying23 (by first | exact sz_23) rfl rfl (by omega) (by omega) ?_
    refine l_load rfl plain26 rfl (by assumption) ?_
    first | refine l_len rfl Try.underlying26 rfl ?_ | refine l_len_string rfl Try.underlying26 rfl ?_
    first | refine l_lss rfl rfl rfl ?_ | refine l_slss rfl rfl rfl ?_
    refine l_nil ?_
    refine c_if _ rfl (fun hc2 => ?_) (fun hc2 => ?_)
    · refine c_skip ?_
      have hk : k < ws[i].length := by omega
      obtain ⟨ar, rfl, hra⟩ := hrow hpos
      have q2 := (hra k hk).1
      obtain ⟨hm1, hm2⟩ := hmem k hk
      obtain ⟨y, hy⟩ : ∃ y, y = ws[i][k] := ⟨_, rfl⟩
      rw [← hy] at q2 hm1 hm2
      obtain ⟨al, rfl⟩ := h.rsN_ad rfl (i := y) (by omega)
      have q3 := (h.rsN_at (i := y) (by omega)).1
      rw [← getD_get 0 (by omega), hm2] at q3
      refine c_seq ?_
      refine c_block ?_
      refine c_seq ?_
      refine c_region ?_
      refine l_move rfl rfl ?_
      refine l_move rfl rfl ?_
      first | refine l_indexAddr1 rfl Try.underlying23 (by first | exact sz_23) rfl rfl (by omega) ?_ | refine l_indexAddrN rfl Try.underlying23 (by first | exact sz_23) rfl rfl (by omega) ?_ | refine l_indexAddr rfl Try.underlying23 (by first | exact sz_23) rfl rfl (by omega) (by omega) ?_
      refine l_load rfl plain26 rfl (by assumption) ?_
      refine l_move rfl rfl ?_
      first | refine l_indexAddr1 rfl Try.underlying26 (by first | exact sz_26) rfl rfl (by omega) ?_ | refine l_indexAddrN rfl Try.underlying26 (by first | exact sz_26) rfl rfl (by omega) ?_ | refine l_indexAddr rfl Try.underlying26 (by first | exact sz_26) rfl rfl (by omega) (by omega) ?_
      refine l_load rfl plain3 rfl (by assumption) ?_
      first | refine l_lss rfl rfl rfl ?_ | refine l_slss rfl rfl rfl ?_
      refine l_set 46 (.bool false) rfl (vF (by omega)) ?_
      refine l_move rfl rfl ?_
      first | (refine l_yes rfl rfl ?_; first | refine l_move rfl rfl ?_) | refine l_no rfl rfl rfl rfl ?_ | refine l_no' rfl rfl rfl ?_
      first | (refine l_yes rfl rfl ?_; first | refine l_move rfl rfl ?_) | refine l_no rfl rfl rfl rfl ?_ | refine l_no' rfl rfl rfl ?_
      first | (refine l_yes rfl rfl ?_; first | refine l_indexAddr1 rfl Try.underlying23 (by first | exact sz_23) rfl rfl (by omega) ?_ | refine l_indexAddrN rfl Try.underlying23 (by first | exact sz_23) rfl rfl (by omega) ?_ | refine l_indexAddr rfl Try.underlying23 (by first | exact sz_23) rfl rfl (by omega) (by omega) ?_) | refine l_no rfl rfl rfl rfl ?_ | refine l_no' rfl rfl rfl ?_
      first | (refine l_yes rfl rfl ?_; first | refine l_load rfl plain26 rfl (by assumption) ?_) | refine l_no rfl rfl rfl rfl ?_ | refine l_no' rfl rfl rfl ?_
      first | (refine l_yes rfl rfl ?_; first | refine l_move rfl rfl ?_) | refine l_no rfl rfl rfl rfl ?_ | refine l_no' rfl rfl rfl ?_
      first | (refine l_yes rfl rfl ?_; first | refine l_indexAddr1 rfl Try.underlying26 (by first | exact sz_26) rfl rfl (by omega) ?_ | refine l_indexAddrN rfl Try.underlying26 (by first | exact sz_26) rfl rfl (by omega) ?_ | refine l_indexAddr rfl Try.underlying26 (by first | exact sz_26) rfl rfl (by omega) (by omega) ?_) | refine l_no rfl rfl rfl rfl ?_ | refine l_no' rfl rfl rfl ?_
      first | (refine l_yes rfl rfl ?_; first | refine l_load rfl plain3 rfl (by assumption) ?_) | refine l_no rfl rfl rfl rfl ?_ | refine l_no' rfl rfl rfl ?_
      first | (refine l_yes rfl rfl ?_; first | refine l_move rfl rfl ?_) | refine l_no rfl rfl rfl rfl ?_ | refine l_no' rfl rfl rfl ?_
      first | (refine l_yes rfl rfl ?_; first | refine l_len rfl Try.underlying26 rfl ?_ | refine l_len_string rfl Try.underlying26 rfl ?_) | refine l_no rfl rfl rfl rfl ?_ | refine l_no' rfl rfl rfl ?_
      first | (refine l_yes rfl rfl ?_; first | refine l_geq rfl rfl rfl ?_) | refine l_no rfl rfl rfl rfl ?_ | refine l_no' rfl rfl rfl ?_
      refine l_set 57 (.bool false) rfl (vF (by omega)) ?_
      refine l_pick rfl rfl rfl ?_
      refine l_move rfl rfl ?_
      first | (refine l_yes rfl rfl ?_; first | refine l_move rfl rfl ?_) | refine l_no rfl rfl rfl rfl ?_ | refine l_no' rfl rfl rfl ?_
      first | (refine l_yes rfl rfl ?_; first | refine l_move rfl rfl ?_) | refine l_no rfl rfl rfl rfl ?_ | refine l_no' rfl rfl rfl ?_
      first | (refine l_yes rfl rfl ?_; first | refine l_move rfl rfl ?_) | refine l_no rfl rfl rfl rfl ?_ | refine l_no' rfl rfl rfl ?_
      first | (refine l_yes rfl rfl ?_; first | refine l_indexAddr1 rfl Try.underlying23 (by first | exact sz_23) rfl rfl (by omega) ?_ | refine l_indexAddrN rfl Try.underlying23 (by first | exact sz_23) rfl rfl (by omega) ?_ | refine l_indexAddr rfl Try.underlying23 (by first | exact sz_23) rfl rfl (by omega) (by omega) ?_) | refine l_no rfl rfl rfl rfl ?_ | refine l_no' rfl rfl rfl ?_
      first | (refine l_yes rfl rfl ?_; first | refine l_load rfl plain26 rfl (by assumption) ?_) | refine l_no rfl rfl rfl rfl ?_ | refine l_no' rfl rfl rfl ?_
      first | (refine l_yes rfl rfl ?_; first | refine l_move rfl rfl ?_) | refine l_no rfl rfl rfl rfl ?_ | refine l_no' rfl rfl rfl ?_
      first | (refine l_yes rfl rfl ?_; first | refine l_indexAddr1 rfl Try.underlying26 (by first | exact sz_26) rfl rfl (by omega) ?_ | refine l_indexAddrN rfl Try.underlying26 (by first | exact sz_26) rfl rfl (by omega) ?_ | refine l_indexAddr rfl Try.underlying26 (by first | exact sz_26) rfl rfl (by omega) (by omega) ?_) | refine l_no rfl rfl rfl rfl ?_ | refine l_no' rfl rfl rfl ?_
      first | (refine l_yes rfl rfl ?_; first | refine l_load rfl plain3 rfl (by assumption) ?_) | refine l_no rfl rfl rfl rfl ?_ | refine l_no' rfl rfl rfl ?_
      first | (refine l_yes rfl rfl ?_; first | refine l_indexAddr1 rfl Try.underlying26 (by first | exact sz_26) rfl rfl (by omega) ?_ | refine l_indexAddrN rfl Try.underlying26 (by first | exact sz_26) rfl rfl (by omega) ?_ | refine l_indexAddr rfl Try.underlying26 (by first | exact sz_26) rfl rfl (by omega) (by omega) ?_) | refine l_no rfl rfl rfl rfl ?_ | refine l_no' rfl rfl rfl ?_
      first | (refine l_yes rfl rfl ?_; first | refine l_load rfl plain3 rfl (by assumption) ?_) | refine l_no rfl rfl rfl rfl ?_ | refine l_no' rfl rfl rfl ?_
      first | (refine l_yes rfl rfl ?_; first | refine l_move rfl rfl ?_) | refine l_no rfl rfl rfl rfl ?_ | refine l_no' rfl rfl rfl ?_
      first | (refine l_yes rfl rfl ?_; first | refine l_neq rfl rfl rfl ?_ | refine l_sneq rfl rfl rfl ?_) | refine l_no rfl rfl rfl rfl ?_ | refine l_no' rfl rfl rfl ?_
      refine l_set 71 (.bool false) rfl (by simp) ?_
      refine l_pick rfl rfl rfl ?_
      refine l_nil ?_
      refine c_condF rfl ?_
      refine c_skip ?_
      refine c_region ?_
      refine l_move rfl rfl ?_
      first | refine l_addr rfl rfl rfl (by omega) (by omega) ?_ | refine l_sadd rfl rfl rfl (by omega) ?_
      refine l_assign rfl rfl ?_
      refine l_nil ?_
      exact ⟨m2 - 1, [(5, gv), (6, .slice (some al) ls.length cl), (7, .slice (some aw) ws.length cw), (8, .int .i64 ((((ws.take i).map List.length).sum : Nat) : Int)), (9, .int .i64 (i : Int)), (10, .int .i64 ((k + 1 : Nat) : Int))], by omega, ⟨rfl, rfl, rfl, rfl, rfl, rfl, trivial⟩, k + 1, by omega, rfl, h⟩
    · refine c_exit ?_
      refine c_region ?_
      refine l_move rfl rfl ?_
      refine l_move rfl rfl ?_
      refine l_move rfl rfl ?_
      first | refine l_indexAddr1 rfl Try.underlying23 (by first | exact sz_23) rfl rfl (by omega) ?_ | refine l_indexAddrN rfl Try.underlying23 (by first | exact sz_23) rfl rfl (by omega) ?_ | refine l_indexAddr rfl Try.underlying23 (by first | exact sz_23) rfl rfl (by omega) (by omega) ?_
      refine l_load rfl plain26 rfl (by assumption) ?_
      first | refine l_len rfl Try.underlying26 rfl ?_ | refine l_len_string rfl Try.underlying26 rfl ?_
      first | refine l_addr rfl rfl rfl (by omega) (by omega) ?_ | refine l_sadd rfl rfl rfl (by omega) ?_
      refine l_set 79 (.int .i64 ((((ws.take (i + 1)).map List.length).sum : Nat) : Int)) rfl (by rw [hst]; rfl) ?_
      refine l_assign rfl rfl ?_
      refine l_nil ?_
      refine c_region ?_
      refine l_move rfl rfl ?_
      first | refine l_addr rfl rfl rfl (by omega) (by omega) ?_ | refine l_sadd rfl rfl rfl (by omega) ?_
      refine l_assign rfl rfl ?_
      refine l_nil ?_
      exact ⟨m - 1, [(5, gv), (6, .slice Al ls.length cl), (7, .slice (some aw) ws.length cw), (8, .int .i64 (((ws.take (i + 1)).map List.length).sum : Int)), (9, .int .i64 ((i + 1 : Nat) : Int))], by omega, ⟨rfl, rfl, rfl, rfl, rfl, trivial⟩, i + 1, by omega, rfl, h⟩
  refine c_exit ?_
  have hi : i = ws.length := by omega
  subst hi
  rw [List.take_length, hW.sum]
  clear hc him
  refine c_seq ?_
  refine c_region ?_
  refine l_move rfl rfl ?_
  refine l_move rfl rfl ?_
  refine l_call rfl Try.func24 rfl (by decide) rfl (levels15_calls hgs hLv gv hgl hgr (h.re [2])) ?_
  clear h
  rintro e w ⟨v1, rfl, h⟩
  refine ⟨_, rfl, ?_⟩
  rw [← hls] at h
  replace h := osN_rs h
  replace h : St w0 (pt rsI (.slice Al ls.length cl) (ints ls) :: pt rsI v1 (ints ls) :: pt rsII gv g :: pt (rs (rs kN)) (.slice Aw ws.length cw) ws :: pt (rs k8) nv ns :: L) w := (h.re [2]).turn (rs_turns kN_kI) (fun _ _ => trivial)
  refine l_call rfl Try.func17 rfl (by decide) rfl (ints_calls h) ?_
  clear h
  rintro e w ⟨rfl, h⟩
  refine ⟨_, rfl, ?_⟩
  refine l_set 83 (.bool true) rfl (by simp) ?_
  refine l_move rfl rfl ?_
  first | (refine l_yes rfl rfl ?_; first | refine l_move rfl rfl ?_) | refine l_no rfl rfl rfl rfl ?_ | refine l_no' rfl rfl rfl ?_
  first | (refine l_yes rfl rfl ?_; first | refine l_move rfl rfl ?_) | refine l_no rfl rfl rfl rfl ?_ | refine l_no' rfl rfl rfl ?_
  refine l_yes rfl rfl ?_
  refine l_call rfl Try.func26 rfl (by decide) rfl (waves15_calls hgs hLv gv hgl hgr (h.re [2])) ?_
  clear h
  rintro e w ⟨v2, rfl, h⟩
  refine ⟨_, rfl, ?_⟩
  rw [← hws] at h
  replace h := osNN_rs h
  replace h : St w0 (pt rsII (.slice Aw ws.length cw) (intss ws) :: pt rsII v2 (intss ws) :: pt rsII gv g :: _ :: _ :: pt (rs k8) nv ns :: L) w := (h.re [4]).turn (rs_turns (rs_turns kN_kI)) (fun _ _ _ _ => trivial)
  refine l_yes rfl rfl ?_
  refine l_call rfl Try.func16 rfl (by decide) rfl (same_calls h) ?_
  clear h
  rintro e w ⟨rfl, h⟩
  refine ⟨_, rfl, ?_⟩
  refine l_set 88 (.bool true) rfl (by simp) ?_
  refine l_pick rfl rfl rfl ?_
  refine l_move rfl rfl ?_
  first | (refine l_yes rfl rfl ?_; first | refine l_move rfl rfl ?_) | refine l_no rfl rfl rfl rfl ?_ | refine l_no' rfl rfl rfl ?_
  first | (refine l_yes rfl rfl ?_; first | refine l_move rfl rfl ?_) | refine l_no rfl rfl rfl rfl ?_ | refine l_no' rfl rfl rfl ?_
  refine l_yes rfl rfl ?_
  refine l_call rfl Try.func19 rfl (by decide) rfl (groups15_calls hgs gv hgl hgr (h.re [2])) ?_
  clear h
  rintro e w ⟨v3, rfl, h⟩
  refine ⟨_, rfl, ?_⟩
  obtain ⟨A3, c3, rfl, -, -⟩ := h.os_form
  first | (refine l_yes rfl rfl ?_; first | refine l_len rfl Try.underlying23 rfl ?_ | refine l_len_string rfl Try.underlying23 rfl ?_) | refine l_no rfl rfl rfl rfl ?_ | refine l_no' rfl rfl rfl ?_
  first | (refine l_yes rfl rfl ?_; first | refine l_eql rfl rfl rfl ?_ | refine l_seql rfl rfl rfl ?_) | refine l_no rfl rfl rfl rfl ?_ | refine l_no' rfl rfl rfl ?_
  refine l_set 95 (.bool true) rfl (by simp) ?_
  refine l_pick rfl rfl rfl ?_
  refine l_move rfl rfl ?_
  refine l_yes rfl rfl ?_
  refine l_call rfl Try.func23 rfl (by decide) rfl (awake16_calls h) ?_
  clear h
  rintro e w ⟨rfl, h⟩
  refine ⟨_, rfl, ?_⟩
  refine l_pick rfl rfl rfl ?_
  refine l_assign rfl rfl ?_
  refine l_nil ?_
  exact c_ret ⟨.inr rfl, _, rfl, rfl, h.drop.drop.drop.drop.drop.drop⟩
end Go.Proofs.Ythamopcfpmkbfaa
