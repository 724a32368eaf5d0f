/- Groups by their first nodes: what slices.SortFunc does in scc.Of. No condition but that no group is empty and no two begin alike. -/
import Derived.Test.YthamopcfpmkbfaaGS
import Derived.Test.YthamopcfpmkbfaaPT
import Derived.Test.YthamopcfpmkbfaaFB
set_option linter.unusedVariables false
set_option linter.unusedSimpArgs false
namespace Go.Proofs.Ythamopcfpmkbfaa
open Go.Proofs.Fw
theorem of1_calls {a b : Addr} {l1 c1 l2 c2 : Nat} {m k : Int} {W : World} (h1 : 0 < l1) (h2 : 0 < l2) (ha : W.cell? a = some (.int .i64 m)) (hb : W.cell? b = some (.int .i64 k)) :
    Calls Try.prog 30 #[.slice (some a) l1 c1, .slice (some b) l2 c2] W fun e w' => e = .returned (.int .i64 (Lib.compareInt m k)) ∧ w' = W.drewN 1 := by
  refine f_one Try.func30 rfl Try.results30 Try.ntmps30 rfl ?_
  refine c_seq ?_
  refine c_region ?_
  refine l_assign rfl rfl ?_
  refine l_nil ?_
  refine c_seq ?_
  refine c_drawE (by kernel_rfl) (fun i => ([3, 4, 5] : List Nat).contains i) [.p 0 [], .p 1 [], .q 2 [6, 7], .p 3 [], .p 4 [], .q 5 [6, 7], .x 6, .p 7 []] (by kernel_rfl) rfl (by kernel_rfl) ?_
  have ha' : W.drew.cell? (a.add (0 * 1)) = some (.int .i64 m) := ha
  have hb' : W.drew.cell? (b.add (0 * 1)) = some (.int .i64 k) := hb
  refine d_val rfl rfl (e_move rfl) ?_
  first | refine d_val rfl rfl (e_indexAddr1 Try.underlying26 (by first | exact sz_26) rfl rfl (by omega)) ?_ | refine d_val rfl rfl (e_indexAddrN Try.underlying26 (by first | exact sz_26) rfl rfl (by omega)) ?_ | refine d_val rfl rfl (e_indexAddr Try.underlying26 (by first | exact sz_26) rfl rfl (by omega) (by omega)) ?_
  refine d_load1 rfl rfl plain3 rfl (by assumption) ?_
  refine d_val rfl rfl (e_move rfl) ?_
  first | refine d_val rfl rfl (e_indexAddr1 Try.underlying26 (by first | exact sz_26) rfl rfl (by omega)) ?_ | refine d_val rfl rfl (e_indexAddrN Try.underlying26 (by first | exact sz_26) rfl rfl (by omega)) ?_ | refine d_val rfl rfl (e_indexAddr Try.underlying26 (by first | exact sz_26) rfl rfl (by omega) (by omega)) ?_
  refine d_load1 rfl rfl plain3 rfl (by assumption) ?_
  refine d_step rfl ?_
  refine l_call rfl Try.func31 rfl (by decide) rfl (Any.cmp_Compare_int Try.lays122 m k W.drew) ?_
  rintro e w ⟨rfl, rfl⟩
  refine ⟨_, rfl, ?_⟩
  refine l_nil ⟨fun hf => (nomatch hf), ?_⟩
  refine d_val rfl rfl (e_assign rfl) ?_
  refine d_nil ?_
  refine c_ret ⟨.inr rfl, _, rfl, rfl, rfl⟩
variable {w0 w : World} {L : List Res}
theorem each_append (Kx : Kd (List Nat)) : ∀ (ps qs : List (Value × List Nat)), each Kx (ps ++ qs) = each Kx ps ++ each Kx qs
  | [], qs => rfl
  | p :: r, qs => by simp [each, each_append Kx r qs]
/-- What one of them stands for, brought ahead. -/
theorem St.each_get {ps : List (Value × List Nat)} (h : St w0 (each osN ps ++ L) w) {i : Nat} (hi : i < ps.length) : ∃ L', St w0 (pt osN ps[i].1 ps[i].2 :: L') w := by
  have e1 : ps = ps.take i ++ ps[i] :: ps.drop (i + 1) := by rw [← List.drop_eq_getElem_cons hi, List.take_append_drop]
  rw [e1, each_append] at h
  simp only [each, List.append_assoc, List.cons_append] at h
  have hp : (each osN (ps.take i) ++ pt osN ps[i].1 ps[i].2 :: (each osN (ps.drop (i + 1)) ++ L)).Perm (pt osN ps[i].1 ps[i].2 :: (each osN (ps.take i) ++ (each osN (ps.drop (i + 1)) ++ L))) := List.perm_middle
  exact ⟨_, h.perm hp⟩
open Go.Sort in
theorem sortfunc_calls {v : Value} {gs : List (List Nat)} (h : St w0 (pt osNN v gs :: L) w) (hn : gs.length ≤ 100000) (hne : ∀ g ∈ gs, g ≠ []) (hd : (gs.map (·.headD 0)).Nodup) :
    Calls Try.prog 29 #[v, .func (.func 30) #[] #[]] w fun e w' => e = .returned (.tuple #[]) ∧ St w0 (pt osNN v (sortG gs) :: L) w' := by
  obtain ⟨A, c, rfl, -, -⟩ := h.os_form
  by_cases h0 : gs = []
  · subst h0
    refine (AnyF.slices_SortFunc_none Try.laysSlF06_f29 A c (.func (.func 30) #[] #[]) w).mono ?_
    rintro e w' ⟨rfl, rfl⟩
    exact ⟨rfl, by simpa [sortG] using h⟩
  have hpos : 0 < gs.length := List.length_pos_iff.2 h0
  obtain ⟨ad, hA⟩ : ∃ ad, A = some ad := by
    obtain ⟨ad, u, h1, -, -⟩ := h.os_take rfl rfl 0 hpos
    exact ⟨ad, h1⟩
  subst hA
  obtain ⟨b, cells, vs, rfl, -, k1, k2, k3, k4, k5, hs⟩ := h.os_split rfl
  obtain ⟨ps, hps⟩ : ∃ ps, ps = vs.zip gs := ⟨_, rfl⟩
  have hpl : ps.length = gs.length := by rw [hps]; simp [k4]
  have hp1 : ∀ i (hi : i < ps.length), cells[i]? = some ps[i].1 := fun i hi => by
    subst hps
    simp only [List.getElem_zip]
    exact k5 i _ (by simp at hi; simp [hi])
  have hp2 : ps.map Prod.snd = gs := by rw [hps]; simp [List.map_snd_zip, k4]
  have hp2' : ∀ i (hi : i < ps.length), ps[i].2 = gs[i]'(by omega) := fun i hi => by
    subst hps
    simp [List.getElem_zip]
  rw [← hps] at hs
  clear k5 hps
  have hb := hs.blk_at
  have hlt := (Array.getElem?_eq_some_iff.1 hb).1
  obtain ⟨m, hm⟩ : ∃ m, gs.length = m + 1 := ⟨gs.length - 1, by omega⟩
  have hix : ∀ i : Fin (m + 1), i.val < ps.length := fun i => by have := i.isLt; omega
  obtain ⟨enc, henc⟩ : ∃ enc : Fin (m + 1) → Value, enc = fun i => (ps[i.val]'(hix i)).1 := ⟨_, rfl⟩
  obtain ⟨fst, hfst⟩ : ∃ fst : Fin (m + 1) → Nat, fst = fun i => (ps[i.val]'(hix i)).2.headD 0 := ⟨_, rfl⟩
  obtain ⟨cf, hcf⟩ : ∃ cf : Fin (m + 1) → Fin (m + 1) → Int, cf = fun i j => Lib.compareInt (fst i : Int) (fst j : Int) := ⟨_, rfl⟩
  have hlt' : ∀ x y, ltOf cf x y = decide (fst x < fst y) := fun x y => by
    rw [hcf]
    simp only [ltOf, Lib.compareInt, decide_eq_decide]
    split
    · simp; omega
    · split
      · simp; omega
      · simp; omega
  have hinj : ∀ x y, fst x = fst y → x = y := fun x y hxy => by
    rw [hfst] at hxy
    simp only [hp2'] at hxy
    have hx := x.isLt
    have hy := y.isLt
    have h1 : (gs.map (·.headD 0))[x.val]'(by simp; omega) = (gs.map (·.headD 0))[y.val]'(by simp; omega) := by simpa using hxy
    exact Fin.ext ((List.getElem_inj hd).1 h1)
  obtain ⟨d, hdd⟩ : ∃ d : Array (Fin (m + 1)), d = (List.finRange (m + 1)).toArray := ⟨_, rfl⟩
  have hds : d.size = gs.length := by rw [hdd]; simp [hm]
  have hdj : ∀ j (hj : j < m + 1), d[j]! = ⟨j, hj⟩ := fun j hj => by
    rw [getElem!_pos d j (by omega)]
    subst hdd
    simp
  have hH : Holds enc w b 0 d := fun j hj => by
    have hj' : j < m + 1 := by omega
    rw [hdj j hj', henc]
    refine ⟨?_, hs.blk_free⟩
    rw [hs.blk_cell, Nat.zero_add]
    exact hp1 j (by omega)
  have hW : ∀ m' (dk : Array (Fin (m + 1))) obs, dk.size = gs.length → St w0 (blk b (.cells (putCells enc 0 dk cells) 26 (0, 0)) :: (each osN ps ++ L)) (sortWorld enc w b 0 m' dk obs) := fun m' dk obs hdk => by
    refine hs.change rfl rfl rfl ?_ fun c hc u hu => ?_
    · show ((putRow enc (Sort.ahead w m') b 0 dk).heap ++ obs)[b]? = _
      rw [Array.getElem?_append_left (by simpa [putRow, mapBlock] using hlt)]
      simp [putRow, mapBlock, Array.getElem?_modify, hb, onCells]
    · have hu' := (Array.getElem?_eq_some_iff.1 hu).1
      show ((putRow enc (Sort.ahead w m') b 0 dk).heap ++ obs)[c]? = _
      rw [Array.getElem?_append_left (by simpa [putRow, mapBlock] using hu')]
      simp [putRow, mapBlock, Array.getElem?_modify, hu, Ne.symm hc]
  have hone : OneCell enc := fun i => by
    rw [henc]
    obtain ⟨L', h1⟩ := St.each_get hs.drop (hix i)
    exact pt_one h1
  have hcmp : CmpLays1 Try.prog 30 #[] enc cf b 0 d.size w := fun m' obs dk hdk x y => by
    have hst := (hW m' dk obs (by omega)).drop
    obtain ⟨L1, h1⟩ := St.each_get hst (hix x)
    obtain ⟨L2, h2⟩ := St.each_get hst (hix y)
    have nx : 0 < (ps[x.val]'(hix x)).2.length := by
      rw [hp2']; exact List.length_pos_iff.2 (hne _ (List.getElem_mem _))
    have ny : 0 < (ps[y.val]'(hix y)).2.length := by
      rw [hp2']; exact List.length_pos_iff.2 (hne _ (List.getElem_mem _))
    obtain ⟨Ax, cx, ex, -, -⟩ := h1.os_form
    obtain ⟨Ay, cy, ey, -, -⟩ := h2.os_form
    rw [ex] at h1
    rw [ey] at h2
    obtain ⟨ax, rfl⟩ := h1.osN_ad rfl kN_pers nx
    obtain ⟨ay, rfl⟩ := h2.osN_ad rfl kN_pers ny
    obtain ⟨bx, cellsx, rfl, -, -⟩ := h1.os_open flatN
    obtain ⟨by', cellsy, rfl, -, -⟩ := h2.os_open flatN
    have c1 : (sortWorld enc w b 0 m' dk obs).cell? ⟨bx, 0, none⟩ = _ := (h1.osN_at nx).1
    have c2 : (sortWorld enc w b 0 m' dk obs).cell? ⟨by', 0, none⟩ = _ := (h2.osN_at ny).1
    have := of1_calls nx ny c1 c2 (c1 := cx) (c2 := cy)
    have ex' : enc x = _ := (congrFun henc x).trans ex
    have ey' : enc y = _ := (congrFun henc y).trans ey
    rw [Array.append_empty, ex', ey']
    refine Calls.mono this ?_
    rintro e w' ⟨rfl, rfl⟩
    refine ⟨?_, 1, #[], (grow_empty _).symm⟩
    rw [hcf, hfst]
    simp only [List.headD_eq_head?_getD, List.head?_eq_getElem?, List.getElem?_eq_getElem nx, List.getElem?_eq_getElem ny, Option.getD_some]
  have hO : SWO (ltOf cf) := ⟨fun x => by rw [hlt']; simp, fun x y z h1 h2 => by rw [hlt'] at *; simp at *; omega, fun x y z h1 h2 => by rw [hlt'] at *; simp at *; omega⟩
  have hT : ∀ x y, ltOf cf x y = false → ltOf cf y x = false → x = y := fun x y h1 h2 => by
    rw [hlt'] at h1 h2
    simp at h1 h2
    exact hinj x y (by omega)
  have eg : ∀ args w, (callFunc 30 args).run Try.prog w = .ok (.enter 30 args) w := enters_of Try.func30 (by kernel_rfl) rfl
  have hfin := Any.slices_SortFunc_total Try.laysSlF6_f29 enc hone cf hO 30 #[] b 0 c d w eg hcmp hH hlt (by omega) hT
  rw [hds] at hfin
  refine Calls.mono (f := 29) hfin ?_
  rintro e w' ⟨rfl, n, obs, rfl⟩
  refine ⟨rfl, ?_⟩
  obtain ⟨dl, hdl⟩ : ∃ dl, dl = d.toList.mergeSort fun x y => !(ltOf cf) y x := ⟨_, rfl⟩
  rw [← hdl]
  have hperm : dl.Perm (List.finRange (m + 1)) := by
    rw [hdl, hdd]
    exact List.mergeSort_perm _ _
  have hdll : dl.length = m + 1 := by rw [hperm.length_eq]; simp
  have h2 := hW n dl.toArray obs (by simp [hdll, hm])
  obtain ⟨get, hget⟩ : ∃ get : Fin (m + 1) → Value × List Nat, get = fun i => ps[i.val]'(hix i) := ⟨_, rfl⟩
  have hfin2 : (List.finRange (m + 1)).map get = ps := by
    apply List.ext_getElem
    · simp [hpl, hm]
    · intro i h1 h2
      simp [hget]
  have hqs : (dl.map get).Perm ps := by rw [← hfin2]; exact hperm.map _
  have h3 : St w0 (blk b (.cells (putCells enc 0 dl.toArray cells) 26 (0, 0)) :: (each osN (dl.map get) ++ L)) (sortWorld enc w b 0 n dl.toArray obs) :=
    h2.perm (List.Perm.cons _ ((each_perm osN hqs.symm).append_right L))
  have h4 := h3.os_join rfl (c := c) (by simp [putCells, k1]) (by simp [hdll]; omega) k3 (fun i p hp => by
    have hi : i < dl.length := by
      have := (List.getElem?_eq_some_iff.1 hp).1
      simpa using this
    have hic : i < cells.size := by omega
    have e1 : dl.toArray[i]! = dl[i] := by rw [getElem!_pos _ i (by simpa using hi)]; simp
    have e2 : p = get dl[i] := by simpa [hi] using hp.symm
    rw [e2, hget]
    simp [putCells, Array.getElem?_mapIdx, hic, hi, henc])
  have e1 : (dl.map get).length = gs.length := by simp [hdll, hm]
  have e2 : (dl.map get).map Prod.snd = sortG gs := by
    rw [List.map_map, hdl, hdd]
    unfold sortG
    rw [List.map_mergeSort (s := fun a b => decide (a.headD 0 ≤ b.headD 0))]
    · congr 1
      rw [← hp2, ← hfin2, List.map_map]
    · intro x _ y _
      rw [hlt', hfst, hget]
      simp only [Function.comp]
      rw [← decide_not, decide_eq_decide]
      omega
  rw [e1, e2] at h4
  exact h4
end Go.Proofs.Ythamopcfpmkbfaa
