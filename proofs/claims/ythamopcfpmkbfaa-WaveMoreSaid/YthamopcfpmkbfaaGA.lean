/- scc.Of parts a graph's nodes; the document's example of it. No condition but that the graph is small. -/
import Derived.Test.YthamopcfpmkbfaaGO
import Derived.Test.YthamopcfpmkbfaaPT
import Derived.Test.YthamopcfpmkbfaaGI
set_option linter.unusedVariables false
set_option linter.unusedSimpArgs false
namespace Go.Proofs.Ythamopcfpmkbfaa
open Go.Proofs.Fw
variable {w0 w : World} {L : List Res}
/-- The groups of a graph, in order. -/
def Grp (g : List (List Int)) (gs : List (List Nat)) : Prop := Parts g.length (Rch (nats (edgesF g))) gs ∧ gs.Pairwise fun a b => a.headD 0 ≤ b.headD 0
theorem grp_exists (g : List (List Int)) (hn : g.length ≤ 100000) : ∃ gs, Grp g gs := by
  obtain ⟨t, -, hp, -⟩ := course g hn
  exact ⟨sortG t.groups, hp.sorted, sortG_rising _⟩
theorem of_grp {g : List (List Int)} {gs : List (List Nat)} (hgs : Grp g gs) (gv : Value) (hn : g.length ≤ 100000) (hr : ∀ r ∈ g, r.length ≤ 100000) (h : St w0 (pt rsII gv g :: L) w) : Calls Try.prog 15 #[gv] w (Gives w0 osNN gs (pt rsII gv g :: L)) := by
  obtain ⟨t, hgo, hp, hl⟩ := course g hn
  have e := hp.sorted.unique hgs.1 (fun _ _ _ _ => Iff.rfl) (sortG_rising _) hgs.2
  rw [← e]
  exact of_calls g gv t hn hr hgo (by omega) hp.ne hp.heads h
theorem osII_rs {v : Value} {xs : List (List Int)} (h : St w0 (pt (os 26 (os 3 kI)) v xs :: L) w) : St w0 (pt rsII v xs :: L) w := h.frz (os_frz (os_frz (Kd.Pers.frz (kInt_pers .i64)) rfl) rfl)
def intss (gs : List (List Nat)) : List (List Int) := gs.map ints
theorem osNN_rs {v : Value} {xs : List (List Nat)} (h : St w0 (pt osNN v xs :: L) w) : St w0 (pt rsII v (intss xs) :: L) w :=
  (h.frz (os_frz (os_frz kN_pers.frz rfl) rfl)).turn (rs_turns (rs_turns kN_kI)) (fun _ _ _ _ => trivial)
theorem ints_inj {a b : List Nat} (h : ints a = ints b) : a = b := by
  have := congrArg (List.map Int.toNat) h
  simpa [ints, List.map_map, Function.comp_def] using this
theorem intss_inj {a b : List (List Nat)} (h : intss a = intss b) : a = b := by
  have := congrArg (List.map (List.map Int.toNat)) h
  simpa [intss, ints, List.map_map, Function.comp_def] using this
theorem grp_awake : Grp [[1], [0]] [[0, 1]] := by
  refine ⟨⟨by simp, by simp, by simp, fun y => by simp; omega, ?_⟩, by simp⟩
  have e01 : Rch (nats (edgesF [[1], [0]])) 0 1 := .edge ((nats_edge _ _ _).2 ⟨by simp, by simp, by simp⟩)
  have e10 : Rch (nats (edgesF [[1], [0]])) 1 0 := .edge ((nats_edge _ _ _).2 ⟨by simp, by simp, by simp⟩)
  intro l hl y hy z
  simp at hl
  subst hl
  have all : ∀ a b, a < 2 → b < 2 → Rch (nats (edgesF [[1], [0]])) a b := fun a b ha hb => by
    rcases (show a = 0 ∨ a = 1 by omega) with rfl | rfl <;> rcases (show b = 0 ∨ b = 1 by omega) with rfl | rfl
    · exact .refl _
    · exact e01
    · exact e10
    · exact .refl _
  have hy2 : y < 2 := by simp at hy; omega
  constructor
  · intro hz
    have hz2 : z < 2 := by simp at hz; omega
    exact ⟨all y z hy2 hz2, all z y hz2 hy2⟩
  · rintro ⟨h1, -⟩
    have : z < 2 := h1.lt (by simpa using hy2)
    simp; omega
theorem awake15_calls (h : St w0 L w) : Calls Try.prog 14 #[] w fun e w' => e = .returned (.bool true) ∧ St w0 L w' := by
  refine f_one (vs := []) Try.func14 rfl Try.results14 Try.ntmps14 rfl ?_
  refine c_seq ?_
  refine c_region ?_
  refine l_assign rfl rfl ?_
  refine l_nil ?_
  refine c_seq ?_
  refine c_region ?_
  refine l_buildSliceN (ps := [(.int .i64 1, (1 : Int))]) (Kx := kI) rfl Try.underlying26 sz3 zero3 rfl (by simp) rfl rfl rfl (h.addI64 1 (by omega) (by omega)) ?_
  clear h; intro v1 w h
  refine l_buildSliceN (ps := [(.int .i64 0, (0 : Int))]) (Kx := kI) rfl Try.underlying26 sz3 zero3 rfl (by simp) rfl rfl rfl (h.addI64 0 (by omega) (by omega)) ?_
  clear h; intro v2 w h
  refine l_buildSliceN (ps := [(v1, [(1 : Int)]), (v2, [(0 : Int)])]) (Kx := os 3 kI) rfl Try.underlying23 sz26 zero26 rfl (by simp) rfl rfl rfl (h.re [1, 0]) ?_
  clear h; intro v3 w h
  replace h := osII_rs h
  refine l_call rfl Try.func15 rfl (by decide) rfl (of_grp grp_awake v3 (by simp) (by simp) h) ?_
  rintro e w ⟨v4, rfl, h⟩
  refine ⟨_, rfl, ?_⟩
  replace h := osNN_rs h
  refine l_buildSliceN (ps := [(.int .i64 0, (0 : Int)), (.int .i64 1, (1 : Int))]) (Kx := kI) rfl Try.underlying26 sz3 zero3 rfl (by simp) rfl rfl rfl ((h.addI64 1 (by omega) (by omega)).addI64 0 (by omega) (by omega)) ?_
  clear h; intro v5 w h
  refine l_buildSliceN (ps := [(v5, [(0 : Int), 1])]) (Kx := os 3 kI) rfl Try.underlying23 sz26 zero26 rfl (by simp) rfl rfl rfl h ?_
  clear h; intro v6 w h
  replace h := osII_rs h
  refine l_call rfl Try.func16 rfl (by decide) rfl (same_calls (h.re [1, 0])) ?_
  clear h
  rintro e w ⟨rfl, h⟩
  refine ⟨_, rfl, ?_⟩
  refine l_assign rfl rfl ?_
  refine l_nil ?_
  refine c_ret ⟨.inr rfl, _, rfl, ?_, h.drop.drop.drop⟩
  rfl
end Go.Proofs.Ythamopcfpmkbfaa
