/- That the law CheckLess holds: the row and the card. The row's listed variables are as laid. -/
import Derived.Test.YtpfekfkkcjfimaaDoorMini4
import Derived.Test.YtpfekfkkcjfimaaDoorTie
import Derived.Test.YtpfekfkkcjfimaaDoorCards
import Derived.WalkKit
import Derived.ProofKit
import Derived.LaidMore
import Derived.LaidHandle
import Derived.LaidLaws
import Derived.OpenShut
import Derived.ChangeOld
import Derived.Below
import Derived.Carry
import Derived.Stop.Joined
import Derived.MakeChecks
import Derived.SevenTiedAt
section
set_option linter.unusedVariables false
namespace Mini
open Go Go.Proofs Go.ChangeShapes
theorem bv_of_wf32 {n : Int} (h : (Lit.int .u32 n).wf = true) : ∃ b : BitVec 32, n = b.toNat := by
  simp [Lit.wf, IntKind.min, IntKind.max, IntKind.signed, IntKind.bits] at h
  refine ⟨BitVec.ofNat 32 n.toNat, ?_⟩
  rw [BitVec.toNat_ofNat, Nat.mod_eq_of_lt (by omega)]; omega
theorem bv_of_wf8 {n : Int} (h : (Lit.int .u8 n).wf = true) : ∃ b : BitVec 8, n = b.toNat := by
  simp [Lit.wf, IntKind.min, IntKind.max, IntKind.signed, IntKind.bits] at h
  refine ⟨BitVec.ofNat 8 n.toNat, ?_⟩
  rw [BitVec.toNat_ofNat, Nat.mod_eq_of_lt (by omega)]; omega
theorem rt_int : RC Tryd.prog 3 (fun l => ∃ n : Int, (Lit.int .i64 n).wf = true ∧ l = (i64 n).cells) := rc_int (by kernel_rfl)
theorem rt_bool : RC Tryd.prog 4 (fun l => ∃ b : Bool, l = [.bool b]) := rc_bool (by kernel_rfl)
theorem rt_node : RC Tryd.prog 41 (fun l => ∃ n : Node, True ∧ l = n.v.cells) :=
  (rc_struct Tryd.underlying41 (by kernel_rfl) (rs_cons (n := 1) rfl (by kernel_rfl) rt_int (rs_cons (n := 1) rfl (by kernel_rfl) rt_int (rs_cons (n := 1) rfl (by kernel_rfl) rt_int (rs_cons (n := 1) rfl (by kernel_rfl) rt_int rs_nil))))).mono fun l => by
    rintro ⟨_, _, ⟨a, _, rfl⟩, ⟨_, _, ⟨b, _, rfl⟩, ⟨_, _, ⟨c, _, rfl⟩, ⟨_, _, ⟨d, _, rfl⟩, rfl, rfl⟩, rfl⟩, rfl⟩, rfl⟩
    exact ⟨⟨a, b, c, d⟩, trivial, rfl⟩
theorem rt_nodes : RC Tryd.prog 39 (fun l => ∃ ns : List Node, True ∧ l = (nodesV ns).cells) :=
  (rc_slice (n := 4) (by kernel_rfl) (by kernel_rfl) (by omega) (fun _ _ => rfl) rt_node).mono fun l => by
    rintro ⟨ns, _, _, rfl⟩; exact ⟨ns, trivial, rfl⟩
theorem rt_funcs : RC Tryd.prog 22 (fun l => ∃ fs : List (List Node), True ∧ l = (funcsV fs).cells) :=
  (rc_slice (n := 1) (by kernel_rfl) (by kernel_rfl) (by omega) (fun _ _ => rfl) rt_nodes).mono fun l => by
    rintro ⟨ns, _, _, rfl⟩; exact ⟨ns, trivial, rfl⟩
theorem rt_prog : RC Tryd.prog 24 (fun l => ∃ p : Prg, True ∧ l = p.v.cells) :=
  (rc_struct Tryd.underlying24 (by kernel_rfl) (rs_cons (n := 1) rfl (by kernel_rfl) rt_int (rs_cons (n := 1) rfl (by kernel_rfl) rt_int (rs_cons (n := 1) rfl (by kernel_rfl) rt_int (rs_cons (n := 1) rfl (by kernel_rfl) rt_funcs rs_nil))))).mono fun l => by
    rintro ⟨_, _, ⟨a, _, rfl⟩, ⟨_, _, ⟨b, _, rfl⟩, ⟨_, _, ⟨c, _, rfl⟩, ⟨_, _, ⟨fs, _, rfl⟩, rfl, rfl⟩, rfl⟩, rfl⟩, rfl⟩
    exact ⟨⟨a, b, c, fs⟩, trivial, rfl⟩
theorem rt_u32 : RC Tryd.prog 35 (fun l => ∃ b : BitVec 32, True ∧ l = (u32 b).cells) :=
  (rc_int (k := .u32) (by kernel_rfl)).mono fun l => by
    rintro ⟨n, hw, rfl⟩; obtain ⟨b, rfl⟩ := bv_of_wf32 hw; exact ⟨b, trivial, rfl⟩
theorem rt_u8 : RC Tryd.prog 5 (fun l => ∃ b : BitVec 8, True ∧ l = [u8 b]) :=
  (rc_int (k := .u8) (by kernel_rfl)).mono fun l => by
    rintro ⟨n, hw, rfl⟩; obtain ⟨b, rfl⟩ := bv_of_wf8 hw; exact ⟨b, trivial, rfl⟩
theorem rt_sets : RC Tryd.prog 36 (fun l => ∃ ns : List (BitVec 32), True ∧ l = (setsV ns).cells) :=
  (rc_slice (n := 1) (by kernel_rfl) (by kernel_rfl) (by omega) (fun _ _ => rfl) rt_u32).mono fun l => by
    rintro ⟨ns, _, _, rfl⟩; exact ⟨ns, trivial, rfl⟩
theorem rt_sect : RC Tryd.prog 38 (fun l => ∃ n : Sect, True ∧ l = n.v.cells) :=
  (rc_struct Tryd.underlying38 (by kernel_rfl) (rs_cons (n := 1) rfl (by kernel_rfl) rt_u32 (rs_cons (n := 1) rfl (by kernel_rfl) rt_u32 (rs_cons (n := 1) rfl (by kernel_rfl) rt_sets (rs_cons (n := 1) rfl (by kernel_rfl) rt_u32 (rs_cons (n := 1) rfl (by kernel_rfl) rt_u32 (rs_cons (n := 1) rfl (by kernel_rfl) rt_sets rs_nil))))))).mono fun l => by
    rintro ⟨_, _, ⟨a, _, rfl⟩, ⟨_, _, ⟨b, _, rfl⟩, ⟨_, _, ⟨c, _, rfl⟩, ⟨_, _, ⟨d, _, rfl⟩, ⟨_, _, ⟨e, _, rfl⟩, ⟨_, _, ⟨f, _, rfl⟩, rfl, rfl⟩, rfl⟩, rfl⟩, rfl⟩, rfl⟩, rfl⟩
    exact ⟨⟨a, b, c, d, e, f⟩, trivial, rfl⟩
theorem rt_sects : RC Tryd.prog 32 (fun l => ∃ ns : List Sect, True ∧ l = (sectsV ns).cells) :=
  (rc_slice (n := 6) (by kernel_rfl) (by kernel_rfl) (by omega) (fun _ _ => rfl) rt_sect).mono fun l => by
    rintro ⟨ns, _, _, rfl⟩; exact ⟨ns, trivial, rfl⟩
theorem rt_just : RC Tryd.prog 71 (fun l => ∃ n : Just, True ∧ l = n.v.cells) :=
  (rc_struct Tryd.underlying71 (by kernel_rfl) (rs_cons (n := 1) rfl (by kernel_rfl) rt_int (rs_cons (n := 1) rfl (by kernel_rfl) rt_int rs_nil))).mono fun l => by
    rintro ⟨_, _, ⟨a, _, rfl⟩, ⟨_, _, ⟨b, _, rfl⟩, rfl, rfl⟩, rfl⟩
    exact ⟨⟨a, b⟩, trivial, rfl⟩
theorem rt_justs : RC Tryd.prog 31 (fun l => ∃ ns : List Just, True ∧ l = (justsV ns).cells) :=
  (rc_slice (n := 2) (by kernel_rfl) (by kernel_rfl) (by omega) (fun _ _ => rfl) rt_just).mono fun l => by
    rintro ⟨ns, _, _, rfl⟩; exact ⟨ns, trivial, rfl⟩
theorem rt_digest : RC Tryd.prog 27 (fun l => ∃ d : List (BitVec 8), d.length = 32 ∧ l = d.map u8) :=
  (rc_array (m := 32) (by kernel_rfl) (by kernel_rfl) (by kernel_rfl) rt_u8).mono fun l => by
    rintro ⟨d, hd, _, rfl⟩; exact ⟨d, hd, rfl⟩
theorem rt_cert : RC Tryd.prog 34 (fun l => ∃ c : Cert, c.d.length = 32 ∧ l = c.v.cells) :=
  (rc_struct Tryd.underlying34 (by kernel_rfl) (rs_cons (n := 32) rfl (by kernel_rfl) rt_digest (rs_cons (n := 1) rfl (by kernel_rfl) rt_sects (rs_cons (n := 1) rfl (by kernel_rfl) rt_justs rs_nil)))).mono fun l => by
    rintro ⟨_, _, ⟨d, hd, rfl⟩, ⟨_, _, ⟨s, _, rfl⟩, ⟨_, _, ⟨j, _, rfl⟩, rfl, rfl⟩, rfl⟩, rfl⟩
    exact ⟨⟨d, s, j⟩, hd, by simp [Cert.v, V.cells, sectsV, justsV]⟩
theorem g_of_laid {W : World} (h : laidMetH Tryd.prog [("alibi/sha.keys", Go.Proofs.YtpfekfkkcjfimaaDoor.Rows.laid_alibi_sha_keys)] W) : ∀ g, FR W (gD g) (.pointer (some ⟨g, 0, none⟩)) := by
  rw [Go.MakeChecks.laidMetH_plain _ _ _ (by kernel_rfl)] at h
  obtain ⟨ps, ⟨g0, t0, cs0, f0, p0, q0, hg0, ht0, hv0, hd0, _, _⟩, _, _⟩ := h
  obtain rfl : 1 = g0 := Option.some.inj ((show Tryd.prog.globalNamed "alibi/sha.keys" = some 1 by kernel_rfl).symm.trans hg0)
  obtain rfl : 212 = t0 := Option.some.inj ((show (Tryd.prog.globals[1]?).map (·.type) = some 212 by kernel_rfl).symm.trans ht0)
  intro g
  unfold gD
  split
  · exact var_ints (k := .u32) (t' := 0) (ls := [1116352408, 1899447441, 3049323471, 3921009573, 961987163, 1508970993, 2453635748, 2870763221, 3624381080, 310598401, 607225278, 1426881987, 1925078388, 2162078206, 2614888103, 3248222580, 3835390401, 4022224774, 264347078, 604807628, 770255983, 1249150122, 1555081692, 1996064986, 2554220882, 2821834349, 2952996808, 3210313671, 3336571891, 3584528711, 113926993, 338241895, 666307205, 773529912, 1294757372, 1396182291, 1695183700, 1986661051, 2177026350, 2456956037, 2730485921, 2820302411, 3259730800, 3345764771, 3516065817, 3600352804, 4094571909, 275423344, 430227734, 506948616, 659060556, 883997877, 958139571, 1322822218, 1537002063, 1747873779, 1955562222, 2024104815, 2227730452, 2361852424, 2428436474, 2756734187, 3204031479, 3329325298]) hv0 hg0 Tryd.underlying212 (by kernel_rfl) (by kernel_rfl) hd0
  · exact .undef _
theorem laidOutD : laidOutB Tryd.prog = true := by kernel_rfl
theorem door_met (os : Os) (args : Array Value) : laidMetH Tryd.prog Go.Proofs.YtpfekfkkcjfimaaDoor.Rows.checkLessRow.laid ((World.doorLaid Tryd.prog 400 os).forCall (fun _ _ => 0) ⟨#[], args, []⟩).memory :=
  laidMetH_of_parts3 (fuel := 8) (laidMet_of_run' 8 (by kernel_rfl) (by kernel_rfl)) (by kernel_rfl) (by kernel_rfl)
open Go.Proofs.YtpfekfkkcjfimaaDoor Go.WideShapes Go.ChangeAt Go.RowKit
set_option maxRecDepth 100000 in
theorem lifted (os : Os) (started : os.Started) (H : Type) (enc : TypeId × Value → H) :
    ReturnsInHanded {} Tryd.checked os 3 .any (fun w args => (Rows.checkLessSpec.pre enc Tryd.prog Tryd.f3 [] false w args ∧ laidMetH Tryd.prog Rows.checkLessRow.laid w) ∧ sizedMet enc Tryd.prog Tryd.f3 (OpenSpec.ofChange Rows.checkLessSpec) false w args)
      (Rows.checkLessSpec.post enc Tryd.prog Tryd.f3 false true false false) := by
  refine returnsInHanded_of_change_and (C := Tryd.checked) (X := fun w _ => laidMetH Tryd.prog Rows.checkLessRow.laid w) (fun _ _ _ hh h => h.of_heap hh) (by kernel_rfl) started (by kernel_rfl) Tryd.func3
    (ChangeSpec.witness_shaped (enc := enc) (C := Tryd.checked) (os := os) (X := fun w _ => laidMetH Tryd.prog Rows.checkLessRow.laid w) false (World.doorLaid Tryd.prog 400 os) #[.agg #[.int .i64 0, .int .i64 0, .int .i64 0, .slice none 0 0]] 8 rfl (World.shaped_of_RefB (by kernel_rfl) (by kernel_rfl)) (by kernel_rfl) (by kernel_rfl) (by kernel_rfl) (door_met os _)) ?_
  intro W base args ds gs before hval0 hW _ _ hL _
  have hval : ∀ (j : Nat) t v, Tryd.f3.params[j]? = some t → args[j]? = some v → Value.okWide Tryd.prog W .any base t v := hval0
  have hW' := hW
  obtain ⟨p, q, hA0, hV, rfl, hfz, hnd⟩ := hW
  have hA : DataW.TrodAll enc Tryd.prog W 0 (fun _ => true) true Tryd.f3.params.toList args.toList ds p := hA0
  rw [Tryd.params3] at hA hval
  obtain ⟨v0, vs0, d0, ds0, p0, q0, hargs, rfl, rfl, h0, r0⟩ := trodAll_cons hA
  obtain ⟨rfl, rfl, rfl⟩ := trodAll_nil r0
  obtain rfl : args = #[v0] := by cases args; simp_all
  obtain ⟨rfl, rfl⟩ := trodVars_none hV
  have k0 := h0
  have lt0 : ∀ x ∈ p0, x.block < W.heap.size := by obtain ⟨m, hm⟩ := k0; exact DataW.trod_lt m _ _ _ hm
  obtain ⟨_, ⟨a0, _, rfl⟩, e0⟩ := arg_struct rt_prog Tryd.underlying24 (hval 0 24 v0 rfl rfl) h0
  refine (calls_of_ret (by kernel_rfl) (law20_CheckLess 0 a0) (xs := #[v0]) (g_of_laid hL) rfl (fun i h h' => ?_)).mono fun e W' ⟨he, bel⟩ => ?_
  · match i, h with
    | 0, _ => exact e0
  subst he
  exact ⟨_, rfl, _, _, _, [], _, [], hW', trodAll_mk1 (shut_bool Tryd.underlying4 _), (trodAll_cons_mk (Below.trod laidOutD (by kernel_rfl) (of_decide_eq_true (by kernel_rfl)) k0 bel lt0) trodAll_mk0), rfl, bel.frame _, fun h => by cases h⟩
theorem row_holds : Rows.CheckLessSaid :=
  OpenClaim.holds_of_wide 3 Tryd.f3 rfl rfl rfl rfl rfl rfl rfl ⟨rfl, rfl, rfl, rfl, rfl⟩ rfl rfl rfl rfl rfl (by kernel_rfl) Tryd.func3 (by kernel_rfl)
    (of_decide_eq_true (by kernel_rfl)) (by unfold Func.isWrapper; first | (rw [if_pos (by decide +kernel)]; kernel_rfl) | (rw [if_neg (by decide +kernel)]; exact ⟨rfl, rfl⟩))
    (fun os started H enc _ => lifted os started H enc)
end Mini
namespace Go.Proofs.YtpfekfkkcjfimaaDoor
/-- The law CheckLess, tied. -/
theorem checkLess_holds : Rows.CheckLessCardSaid :=
  Claim7.holds_tied_plain_at .later [] [.data] true (true, "e12dba52f8aa83f31265e53ec67871eab3abff80a46d7e8ccdf46b6c8a88bd95") true
    Mini.row_holds (fun _ h => by cases h) (by kernel_rfl) (fun _ h => by cases h) checkLess_row_tie rfl ⟨rfl, rfl⟩ (by kernel_rfl) rfl
    (fun f fn hf hfn => by
      obtain rfl : f = 3 := Option.some.inj ((show Tryd.prog.funcNamed "alibi/alibilaw20.CheckLess" = some 3 by kernel_rfl).symm.trans hf) |>.symm
      obtain rfl : fn = Tryd.f3 := (Option.some.inj (Tryd.func3.symm.trans hfn)).symm
      exact ⟨by kernel_rfl, fun j t ht => by
        rw [Tryd.params3] at ht
        have hm : t ∈ [24] := by simpa using Array.mem_of_getElem? ht
        have hall : ([24].all fun u => !Tryd.prog.wantsStandIn u) = true := by kernel_rfl
        exact (show Tryd.prog.wantsStandIn t = false by simpa using List.all_eq_true.1 hall t hm)⟩)
    (by kernel_rfl)
#print axioms checkLess_holds
end Go.Proofs.YtpfekfkkcjfimaaDoor
end
