/- The law SccChain, walked. No condition. -/
import Derived.Test.YthamopcfpmkbfaaLI1
import Derived.Test.YthamopcfpmkbfaaLD
import Derived.Test.YthamopcfpmkbfaaFD
set_option linter.unusedVariables false
set_option linter.unusedSimpArgs false
namespace Go.Proofs.Ythamopcfpmkbfaa
open Go.Proofs.Fw
variable {w0 w : World} {L : List Res}
theorem osIrs_rs {v : Value} {xs : List (List Int)} (h : St w0 (pt (os 26 rsI) v xs :: L) w) : St w0 (pt rsII v xs :: L) w := h.frz (os_frz (Kd.Pers.frz (rs_pers kI)) rfl)
theorem osIrow_rs {v : Value} {xs : List Int} (h : St w0 (pt (os 3 kI) v xs :: L) w) : St w0 (pt rsI v xs :: L) w := h.frz (os_frz (Kd.Pers.frz (kInt_pers .i64)) rfl)
theorem e_conv16 {P : Program} {n : Nat} {env : Env} {d : Nat} {ty : TypeId} {pos : String} {after : Array Edge} {x : Operand} {t u : TypeId} {m : Nat} {td : TypeDesc} (hs : P.underlying t = some td) (ht : P.underlying u = some (.int .i64)) (hm : m ≤ 65535) (hx : ev env x = some (.int .u16 (m : Int))) :
    Ev P n env ⟨some d, .convert t u x, ty, pos, after, none⟩ (.int .i64 (m : Int)) := by
  have := e_convInt (P := P) (n := n) (env := env) (d := d) (ty := ty) (pos := pos) (after := after) hs ht hx
  rwa [wrap_i64 (by omega) (by omega)] at this
theorem l_conv16 {P : Program} {n : Nat} {env : Env} {d : Nat} {ty : TypeId} {pos : String} {after : Array Edge} {ops : Array Oper} {K : Env → World → Prop} {rest : List Oper} {x : Operand} {t u : TypeId} {m : Nat} {td : TypeDesc} (hd : Nat.ble (d + 1) n = true) (hs : P.underlying t = some td) (ht : P.underlying u = some (.int .i64)) (hm : m ≤ 65535) (hx : ev env x = some (.int .u16 (m : Int)))
    (h : WpL P ops n K rest ((d, .int .i64 (m : Int)) :: env) w) : WpL P ops n K (⟨some d, .convert t u x, ty, pos, after, none⟩ :: rest) env w :=
  l_val _ hd (fun a hf => e_conv16 hs ht hm hx a w hf) h
set_option maxRecDepth 4000 in
theorem sccchain_calls {n a : Nat} (hn : n ≤ 65535) (ha : a ≤ 65535) (h : St w0 L w) :
    Calls Try.prog 7 #[.int .u16 (n : Int), .int .u16 (a : Int)] w fun e w' => e = .returned (.bool true) ∧ St w0 L w' := by
  refine f_one Try.func7 rfl Try.results7 Try.ntmps7 rfl ?_
  refine c_seq ?_
  refine c_region ?_
  refine l_assign rfl rfl ?_
  refine l_nil ?_
  obtain ⟨k, hk⟩ : ∃ k, k = 1 + n % 300 := ⟨_, rfl⟩
  have hk0 : 0 < k := by omega
  have hk300 : k ≤ 300 := by omega
  refine c_seq ?_
  refine c_region ?_
  refine l_move rfl rfl ?_
  refine l_conv16 rfl Try.underlying35 Try.underlying3 hn rfl ?_
  refine l_remN (j := 300) rfl rfl rfl (by omega) ?_
  first | refine l_addr rfl rfl rfl (by omega) (by omega) ?_ | refine l_sadd rfl rfl rfl (by omega) ?_
  refine l_set 15 (.int .i64 (k : Int)) rfl (by rw [hk]; rfl) ?_
  refine l_assign rfl rfl ?_
  refine l_nil ?_
  refine c_seq ?_
  refine c_region ?_
  refine l_move rfl rfl ?_
  refine l_makeS (Kx := os 3 kI) (zx := []) rfl Try.underlying23 info26 rfl (.inl ⟨rfl, rfl⟩) rfl rfl (by omega) (by unfold maxLen; omega) h ?_
  clear h; intro gb w h
  refine l_assign rfl rfl ?_
  refine l_nil ?_
  refine c_seq ?_
  refine c_seq ?_
  refine c_region ?_
  refine l_assign rfl rfl ?_
  refine l_nil ?_
  refine c_block ?_
  refine c_loop' (fun m env w => ∃ (j : Nat), j + m + 1 = k ∧ env = [(1, .int .u16 (a : Int)), (5, .int .i64 (k : Int)), (6, .slice (some ⟨gb, 0, none⟩) k k), (7, .int .i64 (j : Int))] ∧ St w0 (pt (os 26 (os 3 kI)) (.slice (some ⟨gb, 0, none⟩) k k) (chF k j) :: L) w) (k - 1) [(1, .int .u16 (a : Int)), (5, .int .i64 (k : Int)), (6, .slice (some ⟨gb, 0, none⟩) k k), (7, .int .i64 ((0 : Nat) : Int))] ⟨rfl, rfl, rfl, rfl, trivial⟩ ⟨0, by omega, rfl, by rw [chF_zero]; exact h⟩ ?_
  clear h
  rintro m env w ⟨j, hjm, rfl, h⟩
  refine c_seq ?_
  refine c_seq ?_
  refine c_region ?_
  refine l_move rfl rfl ?_
  first | refine l_addr rfl rfl rfl (by omega) (by omega) ?_ | refine l_sadd rfl rfl rfl (by omega) ?_
  refine l_move rfl rfl ?_
  first | refine l_lss rfl rfl rfl ?_ | refine l_slss rfl rfl rfl ?_
  refine l_nil ?_
  refine c_if _ rfl (fun hc => ?_) (fun hc => ?_)
  · refine c_skip ?_
    have hj : j + 1 < k := by omega
    refine c_seq ?_
    refine c_block ?_
    refine c_region ?_
    refine l_move rfl rfl ?_
    refine l_move rfl rfl ?_
    refine l_move rfl rfl ?_
    first | refine l_addr rfl rfl rfl (by omega) (by omega) ?_ | refine l_sadd rfl rfl rfl (by omega) ?_
    refine l_set 27 (.int .i64 ((j + 1 : Nat) : Int)) rfl rfl ?_
    refine l_buildSliceN (ps := [(.int .i64 ((j + 1 : Nat) : Int), ((j + 1 : Nat) : Int))]) (Kx := kI) rfl Try.underlying26 sz3 zero3 rfl (by simp) rfl rfl rfl (h.addI64 ((j + 1 : Nat) : Int) (by omega) (by omega)) ?_
    clear h; intro v1 w h
    first | refine l_indexAddr1 rfl Try.underlying23 (by first | exact sz_23) rfl rfl (by omega) ?_ | refine l_indexAddrN rfl Try.underlying23 (by first | exact sz_23) rfl rfl (by omega) ?_ | refine l_indexAddr rfl Try.underlying23 (by first | exact sz_23) rfl rfl (by omega) (by omega) ?_
    refine l_storeE plain26 rfl rfl rfl rfl (by rw [chF_len (by omega)]; omega) (h.re [1, 0]) ?_
    clear h; intro w h
    refine l_nil ?_
    simp only [List.map_cons, List.map_nil] at h
    rw [chF_step hj] at h
    refine c_region ?_
    refine l_move rfl rfl ?_
    first | refine l_addr rfl rfl rfl (by omega) (by omega) ?_ | refine l_sadd rfl rfl rfl (by omega) ?_
    refine l_assign rfl rfl ?_
    refine l_nil ?_
    exact ⟨m - 1, [(1, .int .u16 (a : Int)), (5, .int .i64 (k : Int)), (6, .slice (some ⟨gb, 0, none⟩) k k), (7, .int .i64 ((j + 1 : Nat) : Int))], by omega, ⟨rfl, rfl, rfl, rfl, trivial⟩, j + 1, by omega, rfl, h⟩
  refine c_exit ?_
  have hj : j = k - 1 := by omega
  subst hj
  rw [chF_end hk0] at h
  clear hc hjm
  replace h := osII_rs h
  obtain ⟨b, hb⟩ : ∃ b, b = a % k := ⟨_, rfl⟩
  have hbk : b < k := by rw [hb]; exact Nat.mod_lt _ hk0
  have hcl := chainF_len k
  have hcr : ∀ r ∈ chainF k, r.length ≤ 100000 := fun r hr => by
    obtain ⟨i, _, rfl⟩ := List.mem_map.1 hr
    unfold rowF; split <;> simp
  have hrl := ringF_len k b
  have hrr : ∀ r ∈ ringF k b, r.length ≤ 100000 := fun r hr => by
    rcases List.mem_or_eq_of_mem_set hr with h1 | h1
    · exact hcr r h1
    · subst h1; simp
  refine c_seq ?_
  refine c_region ?_
  refine l_move rfl rfl ?_
  refine l_conv16 rfl Try.underlying35 Try.underlying3 ha rfl ?_
  refine l_move rfl rfl ?_
  refine l_remN rfl rfl rfl (by omega) ?_
  refine l_set 33 (.int .i64 (b : Int)) rfl (by rw [hb]) ?_
  refine l_assign rfl rfl ?_
  refine l_nil ?_
  refine c_seq ?_
  refine c_region ?_
  refine l_move rfl rfl ?_
  refine l_call rfl Try.func15 rfl (by decide) rfl (of_grp (grp_chain k) _ (by omega) hcr h) ?_
  clear h
  rintro e w ⟨lv, rfl, h⟩
  refine ⟨_, rfl, ?_⟩
  replace h := osNN_rs h
  have hsl : (intss (singles k)).length = k := by rw [intss_len, singles_len]
  obtain ⟨Al, cl, rfl, hcl1, -⟩ := h.rs_form' hsl
  refine l_assign rfl rfl ?_
  refine l_nil ?_
  refine c_seq ?_
  refine c_region ?_
  refine l_buildSliceN (ps := []) (Kx := rsI) rfl Try.underlying23 sz26 zero26 rfl (by simp) rfl rfl rfl h ?_
  clear h; intro v2 w h
  refine l_move rfl rfl ?_
  refine l_appendR (Kx := rsI) rfl Try.underlying23 info26 rfl (by decide) (rs_pers kI) rfl rfl (h.re [0, 2]) (by simp [hcl]; omega) (by simp [hcl]; unfold maxLen; omega) ?_
  clear h; intro v3 w h
  simp only [List.map_nil, List.nil_append] at h
  obtain ⟨Ah, ch, rfl, -, -⟩ := h.os_form' hcl
  obtain ⟨ah, rfl⟩ := h.osN_ad rfl (rs_pers kI) (i := 0) (by omega)
  refine l_assign rfl rfl ?_
  refine l_nil ?_
  refine c_seq ?_
  refine c_region ?_
  refine l_move rfl rfl ?_
  refine l_move rfl rfl ?_
  refine l_subr rfl rfl rfl (by omega) (by omega) ?_
  refine l_set 41 (.int .i64 ((k - 1 : Nat) : Int)) rfl (by rw [show ((k - 1 : Nat) : Int) = (k : Int) - 1 by omega]) ?_
  refine l_move rfl rfl ?_
  refine l_buildSliceN (ps := [(.int .i64 (b : Int), (b : Int))]) (Kx := kI) rfl Try.underlying26 sz3 zero3 rfl (by simp) rfl rfl rfl (h.addI64 (b : Int) (by omega) (by omega)) ?_
  clear h; intro v4 w h
  replace h := osIrow_rs h
  first | refine l_indexAddr1 rfl Try.underlying23 (by first | exact sz_23) rfl rfl (by omega) ?_ | refine l_indexAddrN rfl Try.underlying23 (by first | exact sz_23) rfl rfl (by omega) ?_ | refine l_indexAddr rfl Try.underlying23 (by first | exact sz_23) rfl rfl (by omega) (by omega) ?_
  refine l_storeE plain26 rfl rfl rfl rfl (by omega) (h.re [1, 0]) ?_
  clear h; intro w h
  refine l_nil ?_
  simp only [List.map_cons, List.map_nil] at h
  replace h := osIrs_rs h
  replace h : St w0 (pt rsII (.slice (some ah) k ch) (ringF k b) :: pt rsII (.slice (some ⟨gb, 0, none⟩) k k) (chainF k) :: pt rsII (.slice Al k cl) (intss (singles k)) :: L) w := h
  refine c_seq ?_
  refine c_region ?_
  refine l_move rfl rfl ?_
  refine l_call rfl Try.func15 rfl (by decide) rfl (of_grp (grp_ring hbk) _ (by omega) hrr h) ?_
  clear h
  rintro e w ⟨mv, rfl, h⟩
  refine ⟨_, rfl, ?_⟩
  replace h := osNN_rs h
  have hml : (intss (ringG k b)).length = b + 1 := by rw [intss_len, ringG_len]
  obtain ⟨Am, cm, rfl, hcm1, -⟩ := h.rs_form' hml
  refine l_assign rfl rfl ?_
  refine l_nil ?_
  refine c_seq ?_
  refine c_seq ?_
  refine c_region ?_
  refine l_move rfl rfl ?_
  first | refine l_len rfl Try.underlying23 rfl ?_ | refine l_len_string rfl Try.underlying23 rfl ?_
  refine l_move rfl rfl ?_
  first | refine l_neq rfl rfl rfl ?_ | refine l_sneq rfl rfl rfl ?_
  refine l_set 50 (.bool false) rfl (by simp) ?_
  refine l_move rfl rfl ?_
  first | (refine l_yes rfl rfl ?_; first | refine l_move rfl rfl ?_) | refine l_no rfl rfl rfl rfl ?_ | refine l_no' rfl rfl rfl ?_
  first | (refine l_yes rfl rfl ?_; first | refine l_len rfl Try.underlying23 rfl ?_ | refine l_len_string rfl Try.underlying23 rfl ?_) | refine l_no rfl rfl rfl rfl ?_ | refine l_no' rfl rfl rfl ?_
  first | (refine l_yes rfl rfl ?_; first | refine l_move rfl rfl ?_) | refine l_no rfl rfl rfl rfl ?_ | refine l_no' rfl rfl rfl ?_
  first | (refine l_yes rfl rfl ?_; first | refine l_addr rfl rfl rfl (by omega) (by omega) ?_ | refine l_sadd rfl rfl rfl (by omega) ?_) | refine l_no rfl rfl rfl rfl ?_ | refine l_no' rfl rfl rfl ?_
  first | (refine l_yes rfl rfl ?_; first | refine l_neq rfl rfl rfl ?_ | refine l_sneq rfl rfl rfl ?_) | refine l_no rfl rfl rfl rfl ?_ | refine l_no' rfl rfl rfl ?_
  refine l_set 56 (.bool false) rfl (by simp) ?_
  refine l_pick rfl rfl rfl ?_
  refine l_nil ?_
  refine c_condF rfl ?_
  refine c_skip ?_
  have hlast : (intss (ringG k b))[b]'(by omega) = ints (List.range' b (k - b)) := by
    have := ringG_last k b
    simp only [intss, List.getElem_map, this]
  have hll : ((intss (ringG k b))[b]'(by omega)).length = k - b := by rw [hlast]; simp [ints]
  have e1 : (intss (singles k)).take b = (intss (ringG k b)).take b := by
    unfold intss
    rw [← List.map_take, ← List.map_take, singles_take (by omega), ringG_take]
  obtain ⟨am, Ar, cr, rfl, -, -, h2⟩ := h.row_at (i := b) (by omega)
  rw [hll] at h2
  clear h
  have h := h2
  clear h2
  have htk : ∀ {w}, St w0 (cellR (am.add b) (.slice Ar (k - b) cr) :: pt rsI (.slice Ar (k - b) cr) (intss (ringG k b))[b] :: pt rsII (.slice (some am) (b + 1) cm) (intss (ringG k b)) :: pt rsII (.slice (some ah) k ch) (ringF k b) :: pt rsII (.slice (some ⟨gb, 0, none⟩) k k) (chainF k) :: pt rsII (.slice Al k cl) (intss (singles k)) :: L) w → St w0 (pt rsII (.slice Al b cl) ((intss (ringG k b)).take b) :: pt rsII (.slice (some am) b cm) ((intss (ringG k b)).take b) :: cellR (am.add b) (.slice Ar (k - b) cr) :: pt rsI (.slice Ar (k - b) cr) (intss (ringG k b))[b] :: pt rsII (.slice (some am) (b + 1) cm) (intss (ringG k b)) :: pt rsII (.slice (some ah) k ch) (ringF k b) :: pt rsII (.slice (some ⟨gb, 0, none⟩) k k) (chainF k) :: pt rsII (.slice Al k cl) (intss (singles k)) :: L) w := fun {w} h => by
    have h1 := ((h.re [2]).dup (rs_pers _)).rs_cut b (by omega)
    have h2 := ((h1.re [6]).dup (rs_pers _)).rs_cut b (by omega)
    rw [e1] at h2
    exact h2.re [0, 2, 4, 5, 3, 6, 7, 1]
  refine c_seq ?_
  refine c_draw (by kernel_rfl) (fun w1 W => W = w1) (fun i => ([5, 6, 7] : List Nat).contains i) [.p 0 [], .p 1 [], .p 2 [], .q 3 [4, 8, 9, 10, 11, 12, 13, 14, 15, 16, 17, 18, 19, 20, 21, 22, 23, 24, 25, 26, 27, 28, 29, 30, 31, 32, 33, 34, 35, 36, 37, 38, 39, 40, 41, 42, 43, 44, 45], .p 4 [], .p 5 [], .p 6 [], .p 7 [], .p 8 [], .p 9 [], .p 10 [], .p 11 [], .p 12 [], .p 13 [], .p 14 [], .p 15 [], .x 16, .p 17 [], .p 18 [], .p 19 [], .p 20 [], .p 21 [], .x 22, .p 23 [], .p 24 [], .p 25 [], .p 26 [], .p 27 [], .p 28 [], .p 29 [], .p 30 [], .x 31, .p 32 [], .p 33 [], .p 34 [], .p 35 [], .p 36 [], .p 37 [], .p 38 [], .p 39 [], .x 40, .p 41 [], .p 42 [], .x 43, .p 44 [], .p 45 []] (by kernel_rfl) rfl (by kernel_rfl) h ?_
  clear h; intro w h hw
  clear hw
  have q := h.cellR_at
  refine d_val rfl rfl (e_move rfl) ?_
  refine d_val rfl rfl (e_move rfl) ?_
  first | refine d_val rfl rfl (e_indexAddr1 Try.underlying23 (by first | exact sz_23) rfl rfl (by omega)) ?_ | refine d_val rfl rfl (e_indexAddrN Try.underlying23 (by first | exact sz_23) rfl rfl (by omega)) ?_ | refine d_val rfl rfl (e_indexAddr Try.underlying23 (by first | exact sz_23) rfl rfl (by omega) (by omega)) ?_
  refine d_load1 rfl rfl plain26 rfl (by assumption) ?_
  first | refine d_val rfl rfl (e_len Try.underlying26 rfl) ?_ | refine d_val rfl rfl (e_len_string Try.underlying26 rfl) ?_
  refine d_val rfl rfl (e_move rfl) ?_
  refine d_val rfl rfl (e_move rfl) ?_
  refine d_val rfl rfl (e_subr rfl rfl (by omega) (by omega)) ?_
  first | refine d_val rfl rfl (e_eql rfl rfl) ?_ | refine d_val rfl rfl (e_seql rfl rfl) ?_
  clear q
  refine d_same 66 (.bool true) rfl (vT (by omega)) ?_
  refine d_val rfl rfl (e_move rfl) ?_
  first | refine d_no rfl rfl rfl rfl rfl ?_ | refine d_noQ rfl rfl rfl rfl rfl rfl ?_ | refine d_yes rfl rfl rfl rfl (e_move rfl) ?_
  first | refine d_no rfl rfl rfl rfl rfl ?_ | refine d_noQ rfl rfl rfl rfl rfl rfl ?_ | refine d_yes rfl rfl rfl rfl (e_move rfl) ?_
  refine d_yes rfl rfl rfl rfl (e_slice_h Try.underlying23 sz26 rfl rfl (by omega) (by omega)) ?_
  first | refine d_no rfl rfl rfl rfl rfl ?_ | refine d_noQ rfl rfl rfl rfl rfl rfl ?_ | refine d_yes rfl rfl rfl rfl (e_move rfl) ?_
  first | refine d_no rfl rfl rfl rfl rfl ?_ | refine d_noQ rfl rfl rfl rfl rfl rfl ?_ | refine d_yes rfl rfl rfl rfl (e_move rfl) ?_
  refine d_yes rfl rfl rfl rfl (e_slice_h Try.underlying23 sz26 rfl rfl (by omega) (by omega)) ?_
  refine d_same 70 (.slice Al b cl) rfl (by simp) ?_
  refine d_same 73 (.slice (some am) b cm) rfl (by simp) ?_
  refine d_stepY rfl rfl rfl ?_
  refine l_call rfl Try.func16 rfl (by decide) rfl (same_calls (htk h)) ?_
  clear h
  rintro e w ⟨rfl, h⟩
  refine ⟨_, rfl, l_nil ⟨fun hf => (nomatch hf), ?_⟩⟩
  replace h : St w0 (cellR (am.add b) (.slice Ar (k - b) cr) :: pt rsI (.slice Ar (k - b) cr) (intss (ringG k b))[b] :: pt rsII (.slice (some am) (b + 1) cm) (intss (ringG k b)) :: pt rsII (.slice (some ah) k ch) (ringF k b) :: pt rsII (.slice (some ⟨gb, 0, none⟩) k k) (chainF k) :: pt rsII (.slice Al k cl) (intss (singles k)) :: L) w := h.drop.drop
  refine d_same 74 (.bool true) rfl (by simp) ?_
  refine d_val rfl rfl (e_pick rfl rfl) ?_
  refine d_val rfl rfl (e_move rfl) ?_
  first | refine d_no rfl rfl rfl rfl rfl ?_ | refine d_noQ rfl rfl rfl rfl rfl rfl ?_ | refine d_yes rfl rfl rfl rfl (e_move rfl) ?_
  first | refine d_no rfl rfl rfl rfl rfl ?_ | refine d_noQ rfl rfl rfl rfl rfl rfl ?_ | refine d_yes rfl rfl rfl rfl (e_move rfl) ?_
  first | refine d_no rfl rfl rfl rfl rfl ?_ | refine d_noQ rfl rfl rfl rfl rfl rfl ?_ | refine d_yes rfl rfl rfl rfl (e_subr rfl rfl (by omega) (by omega)) ?_
  refine d_stepY rfl rfl rfl ?_
  refine l_call rfl Try.func20 rfl (by decide) rfl (reach_calls (chainF k) _ 0 ((k : Int) - 1) (by omega) hcr (h.re [4])) ?_
  clear h
  rintro e w ⟨⟨xr, hxr, rfl⟩, h⟩
  have : xr = true := hxr.2 ⟨by omega, by omega, by omega, by omega, by
    rw [show ((k : Int) - 1).toNat = k - 1 by omega]
    have := chain_up (out := nats (edgesF (chainF k))) (k := k) (fun x hx => (nats_edge _ _ _).2 ((chain_edge k _ _).2 ⟨hx, rfl⟩)) (k - 1) 0 (by omega)
    rwa [Nat.zero_add] at this⟩
  subst this
  refine ⟨_, rfl, l_nil ⟨fun hf => (nomatch hf), ?_⟩⟩
  replace h : St w0 (cellR (am.add b) (.slice Ar (k - b) cr) :: pt rsI (.slice Ar (k - b) cr) (intss (ringG k b))[b] :: pt rsII (.slice (some am) (b + 1) cm) (intss (ringG k b)) :: pt rsII (.slice (some ah) k ch) (ringF k b) :: pt rsII (.slice (some ⟨gb, 0, none⟩) k k) (chainF k) :: pt rsII (.slice Al k cl) (intss (singles k)) :: L) w := h.re [1, 2, 3, 4, 0]
  refine d_val rfl rfl (e_pick rfl rfl) ?_
  refine d_val rfl rfl (e_move rfl) ?_
  first | refine d_no rfl rfl rfl rfl rfl ?_ | refine d_noQ rfl rfl rfl rfl rfl rfl ?_ | refine d_yes rfl rfl rfl rfl (e_move rfl) ?_
  first | refine d_no rfl rfl rfl rfl rfl ?_ | refine d_noQ rfl rfl rfl rfl rfl rfl ?_ | refine d_yes rfl rfl rfl rfl (e_eql rfl rfl) ?_ | refine d_yes rfl rfl rfl rfl (e_seql rfl rfl) ?_
  by_cases hk1 : (k : Int) = 1
  · refine d_same 84 (.bool true) rfl (vT hk1) ?_
    first | refine d_no rfl rfl rfl rfl rfl ?_ | refine d_noQ rfl rfl rfl rfl rfl rfl ?_ | refine d_yes rfl rfl rfl rfl (e_move rfl) ?_
    first | refine d_no rfl rfl rfl rfl rfl ?_ | refine d_noQ rfl rfl rfl rfl rfl rfl ?_ | refine d_yes rfl rfl rfl rfl (e_move rfl) ?_
    first | refine d_no rfl rfl rfl rfl rfl ?_ | refine d_noQ rfl rfl rfl rfl rfl rfl ?_ | refine d_yes rfl rfl rfl rfl (e_move rfl) ?_
    first | refine d_no rfl rfl rfl rfl rfl ?_ | refine d_noQ rfl rfl rfl rfl rfl rfl ?_ | refine d_yes rfl rfl rfl rfl (e_subr rfl rfl (by omega) (by omega)) ?_
    refine d_stepN rfl rfl rfl rfl rfl ?_
    first | refine d_no rfl rfl rfl rfl rfl ?_ | refine d_noQ rfl rfl rfl rfl rfl rfl ?_ | refine d_yes rfl rfl rfl rfl (e_not rfl) ?_
    first | refine d_no rfl rfl rfl rfl rfl ?_ | refine d_noQ rfl rfl rfl rfl rfl rfl ?_ | refine d_yes rfl rfl rfl rfl (e_pick rfl rfl) ?_
    refine d_val rfl rfl (e_pick rfl rfl) ?_
    refine d_val rfl rfl (e_move rfl) ?_
    first | refine d_no rfl rfl rfl rfl rfl ?_ | refine d_noQ rfl rfl rfl rfl rfl rfl ?_ | refine d_yes rfl rfl rfl rfl (e_move rfl) ?_
    first | refine d_no rfl rfl rfl rfl rfl ?_ | refine d_noQ rfl rfl rfl rfl rfl rfl ?_ | refine d_yes rfl rfl rfl rfl (e_move rfl) ?_
    first | refine d_no rfl rfl rfl rfl rfl ?_ | refine d_noQ rfl rfl rfl rfl rfl rfl ?_ | refine d_yes rfl rfl rfl rfl (e_subr rfl rfl (by omega) (by omega)) ?_
    first | refine d_no rfl rfl rfl rfl rfl ?_ | refine d_noQ rfl rfl rfl rfl rfl rfl ?_ | refine d_yes rfl rfl rfl rfl (e_move rfl) ?_
    refine d_stepY rfl rfl rfl ?_
    refine l_call rfl Try.func20 rfl (by decide) rfl (reach_calls (ringF k b) _ ((k : Int) - 1) (b : Int) (by omega) hrr (h.re [3])) ?_
    clear h
    rintro e w ⟨⟨xr, hxr, rfl⟩, h⟩
    have : xr = true := hxr.2 ⟨by omega, by omega, by omega, by omega, by
      rw [Int.toNat_natCast, show ((k : Int) - 1).toNat = k - 1 by omega]
      exact (ring_rch hbk (by omega) b).2 ⟨hbk, .inr (Nat.le_refl _)⟩⟩
    subst this
    refine ⟨_, rfl, l_nil ⟨fun hf => (nomatch hf), ?_⟩⟩
    refine d_val rfl rfl (e_pick rfl rfl) ?_
    refine d_val rfl rfl (e_move rfl) ?_
    refine d_stepY rfl rfl rfl ?_
    refine l_call (args := []) rfl Try.func14 rfl (by decide) rfl (awake15_calls h) ?_
    clear h
    rintro e w ⟨rfl, h⟩
    refine ⟨_, rfl, l_nil ⟨fun hf => (nomatch hf), ?_⟩⟩
    refine d_val rfl rfl (e_pick rfl rfl) ?_
    refine d_val rfl rfl (e_assign rfl) ?_
    refine d_nil ?_
    exact c_ret ⟨.inr rfl, _, rfl, rfl, h.drop.drop.drop.drop.drop.drop⟩
  · refine d_same 84 (.bool false) rfl (vF hk1) ?_
    first | refine d_no rfl rfl rfl rfl rfl ?_ | refine d_noQ rfl rfl rfl rfl rfl rfl ?_ | refine d_yes rfl rfl rfl rfl (e_move rfl) ?_
    first | refine d_no rfl rfl rfl rfl rfl ?_ | refine d_noQ rfl rfl rfl rfl rfl rfl ?_ | refine d_yes rfl rfl rfl rfl (e_move rfl) ?_
    first | refine d_no rfl rfl rfl rfl rfl ?_ | refine d_noQ rfl rfl rfl rfl rfl rfl ?_ | refine d_yes rfl rfl rfl rfl (e_move rfl) ?_
    first | refine d_no rfl rfl rfl rfl rfl ?_ | refine d_noQ rfl rfl rfl rfl rfl rfl ?_ | refine d_yes rfl rfl rfl rfl (e_subr rfl rfl (by omega) (by omega)) ?_
    refine d_stepY rfl rfl rfl ?_
    refine l_call rfl Try.func20 rfl (by decide) rfl (reach_calls (chainF k) _ ((k : Int) - 1) 0 (by omega) hcr (h.re [4])) ?_
    clear h
    rintro e w ⟨⟨xr, hxr, rfl⟩, h⟩
    have : xr = false := by
      rw [Bool.eq_false_iff]
      intro e
      have r := (hxr.1 e).2.2.2.2
      have mono : ∀ {y z}, Rch (nats (edgesF (chainF k))) y z → y ≤ z := fun r => by
        induction r with
        | refl => exact Nat.le_refl _
        | tail _ e ih =>
          have := (chain_edge k _ _).1 ((nats_edge _ _ _).1 e)
          omega
      have := mono r
      omega
    subst this
    refine ⟨_, rfl, l_nil ⟨fun hf => (nomatch hf), ?_⟩⟩
    replace h : St w0 (cellR (am.add b) (.slice Ar (k - b) cr) :: pt rsI (.slice Ar (k - b) cr) (intss (ringG k b))[b] :: pt rsII (.slice (some am) (b + 1) cm) (intss (ringG k b)) :: pt rsII (.slice (some ah) k ch) (ringF k b) :: pt rsII (.slice (some ⟨gb, 0, none⟩) k k) (chainF k) :: pt rsII (.slice Al k cl) (intss (singles k)) :: L) w := h.re [1, 2, 3, 4, 0]
    first | refine d_no rfl rfl rfl rfl rfl ?_ | refine d_noQ rfl rfl rfl rfl rfl rfl ?_ | refine d_yes rfl rfl rfl rfl (e_not rfl) ?_
    first | refine d_no rfl rfl rfl rfl rfl ?_ | refine d_noQ rfl rfl rfl rfl rfl rfl ?_ | refine d_yes rfl rfl rfl rfl (e_pick rfl rfl) ?_
    refine d_val rfl rfl (e_pick rfl rfl) ?_
    refine d_val rfl rfl (e_move rfl) ?_
    first | refine d_no rfl rfl rfl rfl rfl ?_ | refine d_noQ rfl rfl rfl rfl rfl rfl ?_ | refine d_yes rfl rfl rfl rfl (e_move rfl) ?_
    first | refine d_no rfl rfl rfl rfl rfl ?_ | refine d_noQ rfl rfl rfl rfl rfl rfl ?_ | refine d_yes rfl rfl rfl rfl (e_move rfl) ?_
    first | refine d_no rfl rfl rfl rfl rfl ?_ | refine d_noQ rfl rfl rfl rfl rfl rfl ?_ | refine d_yes rfl rfl rfl rfl (e_subr rfl rfl (by omega) (by omega)) ?_
    first | refine d_no rfl rfl rfl rfl rfl ?_ | refine d_noQ rfl rfl rfl rfl rfl rfl ?_ | refine d_yes rfl rfl rfl rfl (e_move rfl) ?_
    refine d_stepY rfl rfl rfl ?_
    refine l_call rfl Try.func20 rfl (by decide) rfl (reach_calls (ringF k b) _ ((k : Int) - 1) (b : Int) (by omega) hrr (h.re [3])) ?_
    clear h
    rintro e w ⟨⟨xr, hxr, rfl⟩, h⟩
    have : xr = true := hxr.2 ⟨by omega, by omega, by omega, by omega, by
      rw [Int.toNat_natCast, show ((k : Int) - 1).toNat = k - 1 by omega]
      exact (ring_rch hbk (by omega) b).2 ⟨hbk, .inr (Nat.le_refl _)⟩⟩
    subst this
    refine ⟨_, rfl, l_nil ⟨fun hf => (nomatch hf), ?_⟩⟩
    refine d_val rfl rfl (e_pick rfl rfl) ?_
    refine d_val rfl rfl (e_move rfl) ?_
    refine d_stepY rfl rfl rfl ?_
    refine l_call (args := []) rfl Try.func14 rfl (by decide) rfl (awake15_calls h) ?_
    clear h
    rintro e w ⟨rfl, h⟩
    refine ⟨_, rfl, l_nil ⟨fun hf => (nomatch hf), ?_⟩⟩
    refine d_val rfl rfl (e_pick rfl rfl) ?_
    refine d_val rfl rfl (e_assign rfl) ?_
    refine d_nil ?_
    exact c_ret ⟨.inr rfl, _, rfl, rfl, h.drop.drop.drop.drop.drop.drop⟩
end Go.Proofs.Ythamopcfpmkbfaa
