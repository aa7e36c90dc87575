/- A part of the proof: S18, S19, S20, S21, S22, S23, S24, Read. -/
import Derived.Test.YtpfekfkkcjfimaaDoorMini3
import Derived.Test.YtpfekfkkcjfimaaDoorMini1
import Derived.ChangeShapes
import Derived.Deep.Slices
import Derived.OpenShut
section
namespace Mini
open Go
set_option linter.unusedSimpArgs false
set_option linter.unusedVariables false
/-! ### certificates -/
structure Cert where
  d : List (BitVec 8)
  l : List Sect
  js : List Just
def Cert.v (c : Cert) : V := .agg (c.d.map u8 ++ [sectsV c.l, justsV c.js])
theorem Cert.noRef (c : Cert) : c.v.noRef = true := by
  have : ∀ l m : List V, noRefL (l ++ m) = (noRefL l && noRefL m) := by
    intro l m
    induction l with
    | nil => simp
    | cons a l ih => simp [ih, Bool.and_assoc]
  show noRefL _ = true
  rw [this, noRef_map (fun _ => rfl)]
  rfl
theorem Cert.fits {c : Cert} (h : c.d.length = 32) : fitsV 34 c.v = true := by simp [Cert.v, h]
theorem Cert.okc (c : Cert) : c.v.cells.all V.okCell = true := by simp [Cert.v]
theorem Cert.fa_d {c : Cert} (h : c.d.length = 32) : faV 0 32 (.fz c.v) = some (.fz (digV c.d)) := by
  have : (c.d.map u8).take 32 = c.d.map u8 := by rw [List.take_of_length_le (by simp; omega)]
  simp [Cert.v, h, digV, this]
theorem Cert.fa_l {c : Cert} (h : c.d.length = 32) : faV 32 0 (.fz c.v) = some (.fz (sectsV c.l)) := by
  have : (c.d.map u8 ++ [sectsV c.l, justsV c.js])[32]? = some (sectsV c.l) := by rw [List.getElem?_append_right (by simp; omega)]; simp [h]
  simp [Cert.v, this]
theorem Cert.fa_j {c : Cert} (h : c.d.length = 32) : faV 33 0 (.fz c.v) = some (.fz (justsV c.js)) := by
  have : (c.d.map u8 ++ [sectsV c.l, justsV c.js])[33]? = some (justsV c.js) := by rw [List.getElem?_append_right (by simp; omega)]; simp [h]
  simp [Cert.v, this]
theorem Cert.box {c : Cert} (h : c.d.length = 32) (hp : Heap) : boxV none 34 c.v hp = some (.fz c.v, hp) := by
  simp [Cert.fits h, Cert.noRef c]
  simpa using Cert.okc c
theorem Cert.ld {c : Cert} (h : c.d.length = 32) (hp : Heap) : ldV 34 (.fz c.v) hp = some c.v := by simp [Cert.fits h]
theorem fits_digV {D : List (BitVec 8)} (h : D.length = 32) : fitsV 32 (digV D) = true := by simp [digV, h]
theorem ld_digV {D : List (BitVec 8)} (h : D.length = 32) (hp : Heap) : ldV 32 (.fz (digV D)) hp = some (digV D) := by simp [fits_digV h]
theorem noRef_digV (D : List (BitVec 8)) : (digV D).noRef = true := by show noRefL _ = true; exact noRef_map (fun _ => rfl) _
theorem cellsEq_u8 (A B : List (BitVec 8)) : ∀ l : List Nat, (∀ i ∈ l, i < A.length ∧ i < B.length) → cellsEq (l.map fun i => (i, 0)) (A.map u8) (B.map u8) = some (l.all fun i => decide (A[i]? = B[i]?)) := by
  intro l
  induction l with
  | nil => intro _; rfl
  | cons i l ih =>
    intro h
    obtain ⟨h1, h2⟩ := h i (List.mem_cons_self ..)
    have ih := ih fun j hj => h j (List.mem_cons_of_mem _ hj)
    have e : cellEq 0 (u8 A[i]) (u8 B[i]) = some (decide (A[i]? = B[i]?)) := by
      simp only [u8, cellEq, if_true, Option.some.injEq, List.getElem?_eq_getElem h1, List.getElem?_eq_getElem h2]
      rw [Bool.eq_iff_iff]
      simp [← BitVec.toNat_inj]
      omega
    simp only [List.map_cons, cellsEq, List.getElem?_map, List.getElem?_eq_getElem h1, List.getElem?_eq_getElem h2, Option.map_some, ih, Option.bind_some, List.all_cons] at e ⊢
    rw [e]
    rfl
theorem digV_eq (op : BinOp) {A B : List (BitVec 8)} (hA : A.length = 32) (hB : B.length = 32) : aggEq op 32 (eqN 32 0) (digV A) (digV B) = eqRes op (decide (A = B)) := by
  have h := cellsEq_u8 A B (List.range 32) (fun i hi => by have := List.mem_range.1 hi; omega)
  have e : ((List.range 32).all fun i => decide (A[i]? = B[i]?)) = decide (A = B) := by
    rw [Bool.eq_iff_iff, List.all_eq_true, decide_eq_true_iff]
    constructor
    · intro h
      apply List.ext_getElem?
      intro i
      by_cases hi : i < 32
      · simpa using h i (List.mem_range.2 hi)
      · rw [List.getElem?_eq_none (by omega), List.getElem?_eq_none (by omega)]
    · rintro rfl i _
      simp
  rw [e] at h
  simp only [aggEq, digV, List.length_map, hA, hB, and_self, if_true, eqN, h, Option.bind_some]
theorem flt_eq (op : BinOp) (a b : Int × Int × Int) : aggEq op 3 [(0, 0), (1, 0), (2, 0)] (fltV a) (fltV b) = eqRes op (decide (a = b)) := by
  obtain ⟨a1, a2, a3⟩ := a
  obtain ⟨b1, b2, b3⟩ := b
  have : ∀ x y : Int, (x == y) = decide (x = y) := fun x y => by rw [Bool.eq_iff_iff]; simp
  simp only [aggEq, fltV, List.length_cons, List.length_nil, and_self, if_true, cellsEq, List.getElem?_cons_zero, List.getElem?_cons_succ, cellEq, Option.bind_some, Bool.and_true, this]
  congr 1
  rw [Bool.eq_iff_iff]
  simp
theorem Prg.box (p : Prg) (hp : Heap) : boxV none 4 p.v hp = some (.fz p.v, hp) := by simp
theorem Prg.fa_g (p : Prg) : faV 0 0 (.fz p.v) = some (.fz (i64 p.g)) := rfl
theorem Prg.fa_lk (p : Prg) : faV 1 0 (.fz p.v) = some (.fz (i64 p.l)) := rfl
theorem Prg.fa_s (p : Prg) : faV 2 0 (.fz p.v) = some (.fz (i64 p.s)) := rfl
theorem Prg.fa_fs (p : Prg) : faV 3 0 (.fz p.v) = some (.fz (funcsV p.fs)) := rfl
def sizeLt (c : Cert) : Prop := c.l.length < 4611686018427387904
/-- What each thing that is asked comes to. -/
def shapeF (p : Prg) (c : Cert) : Int × Int × Int := if shaped p c.l = false ∨ (c.js.length : Int) ≠ p.g then (-1, -1, 1) else (0, 0, 0)
def boundF (p : Prg) (c : Cert) : Int × Int × Int := if c.d = digP p then (0, 0, 0) else (-1, -1, 9)
theorem check_whole (n : Nat) (w : Int) : RetD (n + 1) k_check_whole [i64 w] (.tup [fltV (-1, -1, w), i64 0]) := by
  refine Ret.of rfl rfl (check_whole_eq ..) ?_
  simp -implicitDefEqProofs [check_whole_B, buildV]
theorem check_shape (n : Nat) (p : Prg) (c : Cert) (hd : c.d.length = 32) (hl : sizeLt c) : RetD (n + 2) k_check_shape [p.v, c.v] (.tup [fltV (shapeF p c), i64 0]) := by
  have hw := (check_whole n 1).run
  refine Ret.of (by simp [Cert.noRef]) rfl (check_shape_eq ..) ?_
  have hS := fun h => run_Shaped n p c.l hl h
  cases hsh : shaped p c.l
  · have e : shapeF p c = (-1, -1, 1) := by simp [shapeF, hsh]
    rw [e]
    simp -implicitDefEqProofs [-boxV_fz, -faV_fz, check_shape_B, Prg.box, Prg.fa_g, Cert.box hd, Cert.fa_l hd, Cert.fa_j hd, hS, hsh, hw]
  · by_cases hj : (c.js.length : Int) = p.g
    · have e : shapeF p c = (0, 0, 0) := by simp [shapeF, hsh, hj]
      have d0 := eq_true hj
      rw [e]
      simp -implicitDefEqProofs [-boxV_fz, -faV_fz, check_shape_B, Prg.box, Prg.fa_g, Cert.box hd, Cert.fa_l hd, Cert.fa_j hd, hS, hsh, d0, buildV]
    · have e : shapeF p c = (-1, -1, 1) := by simp [shapeF, hj]
      have d0 := eq_false hj
      rw [e]
      simp -implicitDefEqProofs [-boxV_fz, -faV_fz, check_shape_B, Prg.box, Prg.fa_g, Cert.box hd, Cert.fa_l hd, Cert.fa_j hd, hS, hsh, d0, hw]
/-! bytes that are kept, and only looked at -/
theorem cells_digV (D : List (BitVec 8)) : (digV D).cells = D.map u8 := rfl
theorem z32_drop : List.drop 32 (List.map u8 z32L) = [] := rfl
theorem z32_len : z32L.length = 32 := rfl
theorem frzL_u8 (D : List (BitVec 8)) (h : Heap) : frzL (frzV 8) (D.map u8) h = some (D.map u8, h) := frzL_map u8 8 (fun _ _ => rfl) D h
theorem take32 {D : List (BitVec 8)} (h : D.length = 32) : (D.map u8).take 32 = D.map u8 := by rw [List.take_of_length_le (by simp; omega)]
theorem take32' {D : List (BitVec 8)} (h : D.length = 32) : D.take 32 = D := by rw [List.take_of_length_le (by omega)]
theorem dig_fold (D : List (BitVec 8)) : V.agg (D.map u8) = digV D := rfl
theorem rep32 : rep 32 [V.int .u8 0] = z32L.map u8 := rep_u8 32
theorem flt_fa (f : Int × Int × Int) : faV 2 0 (.fz (fltV f)) = some (.fz (i64 f.2.2)) := rfl
theorem check_bound (n : Nat) (p : Prg) (c : Cert) (hsm : SmallP p) (hd : c.d.length = 32) (he : errP p = 0) : RetD (n + 22) k_check_bound [p.v, c.v] (.tup [fltV (boundF p c), i64 0]) := by
  have hw := (check_whole (n + 20) 9).run
  refine Ret.of (by simp [Cert.noRef]) rfl (check_bound_eq ..) ?_
  have hdg := ((pcode_Digest n p hsm).2 he).run
  have hDl := shaL_len (codeP p)
  have hDl : (digP p).length = 32 := hDl
  have hq := digV_eq .neq hDl hd
  obtain ⟨D, hD⟩ : ∃ D, D = digP p := ⟨_, rfl⟩
  by_cases hj : c.d = digP p
  · have e : boundF p c = (0, 0, 0) := by simp [boundF, hj]
    have hq' : aggEq .neq 32 (eqN 32 0) (digV (digP p)) (digV c.d) = some (.bool false) := by rw [hq]; simp [eqRes, hj]
    rw [e]
    rw [← hD] at hq' hDl
    have hdg : ∀ h, runF (tD (n + 21)) k_pcode_Digest {} [p.v] h = some (.tup [digV D, i64 0], h) := by rw [hD]; exact hdg
    simp -implicitDefEqProofs [-boxV_fz, -faV_fz, check_bound_B, Prg.box, Cert.box hd, Cert.fa_d hd, hdg, rep32, fits_digV hDl, fits_digV hd, cells_digV, hDl, z32_drop, z32_len, frzL_u8, take32 hDl, take32' hDl, dig_fold, hq', buildV]
  · have e : boundF p c = (-1, -1, 9) := by simp [boundF, hj]
    have hq' : aggEq .neq 32 (eqN 32 0) (digV (digP p)) (digV c.d) = some (.bool true) := by rw [hq]; simp [eqRes, Ne.symm hj]
    rw [e]
    rw [← hD] at hq' hDl
    have hdg : ∀ h, runF (tD (n + 21)) k_pcode_Digest {} [p.v] h = some (.tup [digV D, i64 0], h) := by rw [hD]; exact hdg
    simp -implicitDefEqProofs [-boxV_fz, -faV_fz, check_bound_B, Prg.box, Cert.box hd, Cert.fa_d hd, hdg, rep32, fits_digV hDl, fits_digV hd, cells_digV, hDl, z32_drop, z32_len, frzL_u8, take32 hDl, take32' hDl, dig_fold, hq', hw]
theorem check_held (n : Nat) (p : Prg) (c : Cert) (f : Int × Int × Int) (hd : c.d.length = 32) (hm : RetD (n + 23) k_must_Check [p.v, sectsV c.l] (.tup [fltV f, i64 0])) : RetD (n + 24) k_check_held [p.v, c.v] (.tup [fltV f, i64 0]) := by
  have hm := hm.run
  refine Ret.of (by simp [Cert.noRef]) rfl (check_held_eq ..) ?_
  simp -implicitDefEqProofs [-boxV_fz, -faV_fz, check_held_B, Prg.box, Cert.box hd, Cert.fa_l hd, hm]
theorem check_live (n : Nat) (p : Prg) (c : Cert) (f : Int × Int × Int) (hd : c.d.length = 32) (hm : RetD (n + 23) k_may_Check [p.v, sectsV c.l] (.tup [fltV f, i64 0])) : RetD (n + 24) k_check_live [p.v, c.v] (.tup [fltV f, i64 0]) := by
  have hm := hm.run
  refine Ret.of (by simp [Cert.noRef]) rfl (check_live_eq ..) ?_
  simp -implicitDefEqProofs [-boxV_fz, -faV_fz, check_live_B, Prg.box, Cert.box hd, Cert.fa_l hd, hm]
theorem check_justs (n : Nat) (p : Prg) (c : Cert) (f : Int × Int × Int) (hd : c.d.length = 32) (hm : RetD (n + 23) k_guard_Check [p.v, sectsV c.l, justsV c.js] (.tup [fltV f, i64 0])) : RetD (n + 24) k_check_justs [p.v, c.v] (.tup [fltV f, i64 0]) := by
  have hm := hm.run
  refine Ret.of (by simp [Cert.noRef]) rfl (check_justs_eq ..) ?_
  simp -implicitDefEqProofs [-boxV_fz, -faV_fz, check_justs_B, Prg.box, Cert.box hd, Cert.fa_l hd, Cert.fa_j hd, hm]
def asksL : List Nat := [k_check_shape, k_check_bound, k_check_held, k_check_live, k_check_justs]
def askV (k : Nat) : V := .fn (.func k) [] []
def faultsF (p : Prg) (c : Cert) (un : List (BitVec 32)) (m : BitVec 32) : List (Int × Int × Int) := [shapeF p c, boundF p c, mustF p c.l un, liveF p c.l m, guardF p c.l c.js]
def firstF (fl : List (Int × Int × Int)) : Int × Int × Int := (fl.find? fun f => decide (f.2.2 ≠ 0)).getD (0, 0, 0)
def checkF (p : Prg) (c : Cert) (un : List (BitVec 32)) (m : BitVec 32) : Int × Int × Int := firstF (faultsF p c un m)
theorem firstF_hit {fl : List (Int × Int × Int)} {i : Nat} {f : Int × Int × Int} (hf : fl[i]? = some f) (h : ∀ j < i, ∀ g, fl[j]? = some g → g.2.2 = 0) (h0 : f.2.2 ≠ 0) : firstF fl = f := by
  induction fl generalizing i with
  | nil => simp at hf
  | cons a fl ih =>
    cases i with
    | zero =>
      simp at hf
      subst hf
      simp [firstF, h0]
    | succ i =>
      have ha := h 0 (by omega) a rfl
      have := ih (i := i) (by simpa using hf) (fun j hj g hg => h (j + 1) (by omega) g (by simpa using hg))
      unfold firstF at this ⊢
      rw [List.find?_cons_of_neg (by simp [ha])]
      exact this
theorem firstF_miss {fl : List (Int × Int × Int)} (h : ∀ f ∈ fl, f.2.2 = 0) : firstF fl = (0, 0, 0) := by
  unfold firstF
  rw [List.find?_eq_none.2 (fun f hf => by simp [h f hf])]
  rfl
theorem check_Check (n : Nat) (p : Prg) (c : Cert) (hsm : SmallP p) (hd : c.d.length = 32) (hl : sizeLt c) : (errP p ≠ 0 → RetD (n + 25) k_check_Check [p.v, c.v] (.tup [fltV (0, 0, 0), i64 (errP p)])) ∧
    (errP p = 0 → ∃ un m, GatL p unlockN un ∧ GatM p beginN m ∧ RetD (n + 25) k_check_Check [p.v, c.v] (.tup [fltV (checkF p c un m), i64 0])) := by
  obtain ⟨D, hDl, hdg, hD1, hD2⟩ := run_Digest (n + 3) p hsm []
  have hdg : ∀ h, runF (tD (n + 24)) k_pcode_Digest {} [p.v] h = some (.tup [digV D, i64 (errP p)], h) := by
    intro h
    obtain ⟨D', _, e, h1, h2⟩ := run_Digest (n + 3) p hsm h
    have : D' = D := by
      by_cases he : errP p = 0
      · rw [h1 he, hD1 he]
      · rw [h2 he, hD2 he]
    rw [this] at e
    exact e
  constructor
  · intro he
    have d0 := eq_false he
    refine Ret.of (by simp [Cert.noRef]) rfl (check_Check_eq ..) ?_
    simp -implicitDefEqProofs [-boxV_fz, -faV_fz, check_Check_B, Prg.box, Cert.box hd, hdg, rep32, fits_digV hDl, cells_digV, hDl, z32_drop, z32_len, frzL_u8, take32 hDl, take32' hDl, dig_fold, d0, buildV]
  · intro he
    obtain ⟨un, hG, hm1⟩ := (must_Check n p c.l hsm hl).2 he
    obtain ⟨m, hM, hm2⟩ := (may_Check n p c.l hsm hl).2 he
    have hm3 := (guard_Check n p c.l c.js hsm hl).2 he
    have a1 := (check_shape (n + 22) p c hd hl)
    have a2 := (check_bound (n + 2) p c hsm hd he)
    have a3 := (check_held n p c _ hd hm1)
    have a4 := (check_live n p c _ hd hm2)
    have a5 := (check_justs n p c _ hd hm3)
    refine ⟨un, m, hG, hM, Ret.of (by simp [Cert.noRef]) rfl (check_Check_eq ..) ?_⟩
    obtain ⟨fl, hfl⟩ : ∃ fl, fl = faultsF p c un m := ⟨_, rfl⟩
    have hfl5 : fl.length = 5 := by rw [hfl]; rfl
    have hrun : ∀ (i : Nat) k f, asksL[i]? = some k → fl[i]? = some f → ∀ h, runFV (tD (n + 24)) (askV k) {} [p.v, c.v] h = some (.tup [fltV f, i64 0], h) := by
      intro i k f hk hf h
      rw [hfl] at hf
      match i, hk, hf with
      | 0, hk, hf => obtain rfl : k_check_shape = k := Option.some.inj hk; obtain rfl : _ = f := Option.some.inj hf; exact a1.runV h
      | 1, hk, hf => obtain rfl : k_check_bound = k := Option.some.inj hk; obtain rfl : _ = f := Option.some.inj hf; exact a2.runV h
      | 2, hk, hf => obtain rfl : k_check_held = k := Option.some.inj hk; obtain rfl : _ = f := Option.some.inj hf; exact a3.runV h
      | 3, hk, hf => obtain rfl : k_check_live = k := Option.some.inj hk; obtain rfl : _ = f := Option.some.inj hf; exact a4.runV h
      | 4, hk, hf => obtain rfl : k_check_justs = k := Option.some.inj hk; obtain rfl : _ = f := Option.some.inj hf; exact a5.runV h
    have hck : checkF p c un m = firstF fl := by rw [hfl]; rfl
    rw [hck]
    have hbs : ∀ h, ((fillV (rep 5 [V.nilf]) [(0, 0, (.fn (.func k_check_shape) [] [])), (1, 0, (.fn (.func k_check_bound) [] [])), (2, 0, (.fn (.func k_check_held) [] [])), (3, 0, (.fn (.func k_check_live) [] [])), (4, 0, (.fn (.func k_check_justs) [] []))]).bind fun cs => newSl none 5 0 cs h) = some (.vec (asksL.map askV), h) := fun _ => rfl
    simp -implicitDefEqProofs [-boxV_fz, -faV_fz, check_Check_B, Prg.box, Cert.box hd, hdg, rep32, fits_digV hDl, cells_digV, hDl, z32_drop, z32_len, frzL_u8, take32 hDl, take32' hDl, dig_fold, he, hbs]
    have hal : asksL.length = 5 := rfl
    refine W_up 5 (fun i s => ∃ st2, At s [(2, .fz p.v), (3, .fz c.v), (4, .ptr 0 0 1), (21, .vec (asksL.map askV)), (22, i64 5), (23, i64 i)] [⟨1, some [.int .i64 0, .int .i64 0, .int .i64 0]⟩, ⟨2, none⟩, ⟨st2, none⟩] ∧ ∀ j < i, ∀ g, fl[j]? = some g → g.2.2 = 0) ?_ ?_ (Nat.zero_le _) ⟨0, by simp [hal], by omega⟩
    · rintro i s hi ⟨st2, hs, hno⟩
      have ha := i64_inc hi (by omega)
      have hi' : (i : Int) < 5 := by omega
      obtain ⟨k, hk, _⟩ := getE (l := asksL) (i := i) (by omega)
      obtain ⟨f, hf, _⟩ := getE (l := fl) (i := i) (by omega)
      have hia : iaS 0 (.vec (asksL.map askV)) (i64 (i : Int)) = some (.fz (askV k)) := by
        obtain ⟨h1, h2⟩ := List.getElem?_eq_some_iff.1 hk
        rw [ia_map (sz := 0) (f := askV) (fun _ => rfl) h1, h2]
      have hr := hrun i k f hk hf
      have hfit : fitsV 0 (askV k) = true := rfl
      simp only [At_cons, At_nil] at hs
      by_cases h0 : f.2.2 = 0
      · have d0 := eq_true h0
        simp -implicitDefEqProofs [-faV_fz, check_Check_L0, hs, hi', hia, hfit, Cert.fits hd, hr, flt_fa, d0, ha]
        have hnx : ∀ j < i + 1, ∀ g, fl[j]? = some g → g.2.2 = 0 := by
          intro j hj g hg
          by_cases e : j = i
          · rw [e, hf] at hg
            rw [← Option.some.inj hg]
            exact h0
          · exact hno j (by omega) g hg
        exact fun j hj a b g hg => hnx j hj (a, b, g) hg
      · have d0 := eq_false h0
        rw [firstF_hit hf hno h0]
        simp -implicitDefEqProofs [-faV_fz, check_Check_L0, hs, hi', hia, hfit, Cert.fits hd, hr, flt_fa, d0, ha]
    · rintro s ⟨st2, hs, hno⟩
      have : firstF fl = (0, 0, 0) := firstF_miss fun f hf => by
        obtain ⟨j, hj, rfl⟩ := List.mem_iff_getElem.1 hf
        exact hno j (by omega) _ (by simp [hj])
      rw [this]
      simp only [At_cons, At_nil] at hs
      simp -implicitDefEqProofs [check_Check_L0, hs, buildV]
def okF3 (f : Int × Int × Int) : Bool := decide (f.2.2 = 0)
theorem check_Accepts (n : Nat) (p : Prg) (c : Cert) (f : Int × Int × Int) (e : Int) (hd : c.d.length = 32) (h : RetD (n + 25) k_check_Check [p.v, c.v] (.tup [fltV f, i64 e])) : RetD (n + 26) k_check_Accepts [p.v, c.v] (.bool (decide (e = 0) && okF3 f)) := by
  have h := h.run
  refine Ret.of (by simp [Cert.noRef]) rfl (check_Accepts_eq ..) ?_
  by_cases he : e = 0
  · have d0 := eq_true he
    simp -implicitDefEqProofs [-boxV_fz, -faV_fz, check_Accepts_B, Prg.box, Cert.box hd, Cert.fits hd, h, flt_fa, d0, okF3]
  · have d0 := eq_false he
    simp -implicitDefEqProofs [-boxV_fz, -faV_fz, check_Accepts_B, Prg.box, Cert.box hd, Cert.fits hd, h, flt_fa, d0, okF3]
/-! ### the references' sizes -/
def smallP (p : Prg) : Bool := decide (p.fs.length ≤ 40) && p.fs.all fun l => decide (l.length ≤ 100)
theorem smallP_ok {p : Prg} (h : smallP p = true) : SmallP p ∧ p.fs.length ≤ 40 ∧ ∀ l ∈ p.fs, l.length ≤ 100 := by
  simp only [smallP, Bool.and_eq_true, decide_eq_true_eq, List.all_eq_true] at h
  exact ⟨⟨by omega, fun l hl => by have := h.2 l hl; omega⟩, h.1, h.2⟩
theorem ref05_Small (n : Nat) (p : Prg) : RetD (n + 1) k_ref05_Small [p.v] (.bool (smallP p)) := by
  refine Ret.of rfl rfl (ref05_Small_eq ..) ?_
  by_cases h40 : (40 : Int) < p.fs.length
  · have : smallP p = false := by simp [smallP]; omega
    rw [this]
    simp -implicitDefEqProofs [ref05_Small_B, h40]
  · have hs : smallP p = p.fs.all fun l => decide (l.length ≤ 100) := by
      have : decide (p.fs.length ≤ 40) = true := by simp; omega
      simp [smallP, this]
    rw [hs]
    simp -implicitDefEqProofs only [ref05_Small_B, boxV_fz]
    obtain ⟨b, hb⟩ : ∃ b, b = p.fs.all fun (l : List Node) => decide (l.length ≤ 100) := ⟨_, rfl⟩
    rw [← hb]
    simp -implicitDefEqProofs [h40]
    refine W_up p.fs.length (fun i s => At s [(1, .fz p.v), (3, i64 i)] [] ∧ ∀ j (hj : j < p.fs.length), j < i → decide ((p.fs[j]).length ≤ 100) = true) ?_ ?_ (Nat.zero_le _) ⟨by simp, by omega⟩
    · rintro i s hi ⟨hs, hj⟩
      have ha := i64_inc hi (by omega)
      have hi' : (i : Int) < p.fs.length := by omega
      simp only [At_cons, At_nil] at hs
      by_cases h100 : (100 : Int) < (p.fs[i]).length
      · have : b = false := by rw [hb]; exact all_hit hi (by simp; omega)
        rw [this]
        simp -implicitDefEqProofs [ref05_Small_L0, hs, hi, ia_funcs, h100]
      · simp -implicitDefEqProofs [ref05_Small_L0, hs, hi, ia_funcs, h100, ha]
        intro j hj' hlt
        by_cases e : j = i
        · subst e; omega
        · have := hj j hj' (by omega); simpa using this
    · rintro s ⟨hs, hj⟩
      have : b = true := by rw [hb]; exact all_miss (q := fun (l : List Node) => decide (l.length ≤ 100)) hj
      rw [this]
      simp only [At_cons, At_nil] at hs
      simp -implicitDefEqProofs [ref05_Small_L0, hs]
end Mini
end
section
namespace Mini
open Go
set_option linter.unusedSimpArgs false
set_option linter.unusedVariables false
/-! ### certificates in memory -/
theorem u8_add (a b : BitVec 8) : intV .add (u8 a) (u8 b) = some (u8 (a + b)) := by
  show some (V.int .u8 (IntKind.u8.wrap ((a.toNat : Int) + b.toNat))) = _
  rw [wrap_u8]
  have : (BitVec.ofInt 8 ((a.toNat : Int) + b.toNat)).toNat = (a + b).toNat := by
    rw [BitVec.toNat_ofInt, BitVec.toNat_add]
    omega
  rw [this]
  rfl
def cC (D : List (BitVec 8)) (x y : V) : List V := D.map u8 ++ [x, y]
theorem cC_len {D : List (BitVec 8)} (h : D.length = 32) (x y : V) : (cC D x y).length = 34 := by simp [cC, h]
theorem cC_32 {D : List (BitVec 8)} (h : D.length = 32) (x y : V) : (cC D x y)[32]? = some x := by
  unfold cC; rw [List.getElem?_append_right (by simp; omega)]; simp [h]
theorem cC_33 {D : List (BitVec 8)} (h : D.length = 32) (x y : V) : (cC D x y)[33]? = some y := by
  unfold cC; rw [List.getElem?_append_right (by simp; omega)]; simp [h]
theorem cC_set32 {D : List (BitVec 8)} (h : D.length = 32) (x y z : V) : (cC D x y).set 32 z = cC D z y := by
  unfold cC; rw [List.set_append_right _ _ (by simp; omega)]; simp [h]
theorem cC_set33 {D : List (BitVec 8)} (h : D.length = 32) (x y z : V) : (cC D x y).set 33 z = cC D x z := by
  unfold cC; rw [List.set_append_right _ _ (by simp; omega)]; simp [h]
theorem cC_at {D : List (BitVec 8)} {i : Nat} {b : BitVec 8} (h : D[i]? = some b) (x y : V) : (cC D x y)[i]? = some (u8 b) := by
  obtain ⟨h1, h2⟩ := List.getElem?_eq_some_iff.1 h
  unfold cC; rw [List.getElem?_append_left (by simp; omega)]; simp [h]
theorem cC_set {D : List (BitVec 8)} {i : Nat} (h : i < D.length) (x y : V) (b : BitVec 8) : (cC D x y).set i (u8 b) = cC (D.set i b) x y := by
  unfold cC; rw [List.set_append_left _ _ (by simp; omega)]; simp
theorem cC_cert (c : Cert) : V.agg (cC c.d (sectsV c.l) (justsV c.js)) = c.v := rfl
theorem cC_take {D : List (BitVec 8)} (h : D.length = 32) (x y : V) : (cC D x y).take 34 = cC D x y := by rw [List.take_of_length_le (by rw [cC_len h]; omega)]
theorem ld_c34 {D : List (BitVec 8)} (hD : D.length = 32) {x y : V} {k st : Nat} {h : Heap} (hc : cellsAt h k st = some (cC D x y)) : ldV 34 (.ptr k 0 st) h = some (.agg (cC D x y)) := by
  simp [hc, cC_len hD, cC_take hD]
theorem st_c34 {D E : List (BitVec 8)} (hD : D.length = 32) (hE : E.length = 32) {x y x' y' : V} {k st : Nat} {h : Heap} (hx : x.okCell = true) (hy : y.okCell = true) (hc : cellsAt h k st = some (cC E x' y')) :
    stV 34 (.ptr k 0 st) (.agg (cC D x y)) h = some (hset h k ⟨st, some (cC D x y)⟩) := by
  have ho : (cC D x y).all V.okCell = true := by simp [cC, hx, hy]
  have h1 : (cC E x' y').drop 34 = [] := List.drop_of_length_le (by rw [cC_len hE]; omega)
  rw [stV_ptr, hc]
  simp only [Option.bind_some, cells_agg, ho, fits_agg, cC_len hD, cC_len hE, beq_self_eq_true, Bool.true_and, csz, decide_true, putCells, List.take_zero, List.nil_append, Nat.zero_add, h1, List.append_nil]
  simp
theorem frzC_at {cs : List V} {v v' : V} {k off st : Nat} {h h1 : Heap} (hc : cellsAt h k st = some cs) (ho : cs[off]? = some v) (hf : frzV 8 v h = some (v', h1)) (hc1 : cellsAt h1 k st = some cs) :
    frzC (.ptr k off st) h = some (hset h1 k ⟨st, some (cs.set off v')⟩) := by
  obtain ⟨h2, _⟩ := List.getElem?_eq_some_iff.1 ho
  have := put_map (fun v : V => v) (l := cs) (i := off) (a := v') h2
  simp only [List.map_id_fun', id_eq] at this
  simp only [frzC, hc, Option.bind_some, ho, hf, hc1, h2, if_true, this]
theorem buildC {D : List (BitVec 8)} (hD : D.length = 32) {x : V} (hx : x.okCell = true) : buildV (rep 32 [V.int .u8 0] ++ [.nils, .nils]) [(0, 32, digV D), (32, 0, x)] = some (.agg (cC D x .nils)) := by
  have hf : fitsV 0 x = true := by cases x <;> first | rfl | (simp [V.okCell] at hx)
  have hcx : x.cells = [x] := by cases x <;> first | rfl | (simp [V.okCell] at hx)
  rw [rep32]
  have e1 : putCells (z32L.map u8 ++ [V.nils, V.nils]) 0 (digV D).cells = cC D .nils .nils := by
    rw [cells_digV]
    have : List.drop 32 (z32L.map u8 ++ [V.nils, V.nils]) = [.nils, .nils] := rfl
    simp [cC, hD, this]
  have e2 : putCells (cC D .nils .nils) 32 [x] = cC D x .nils := by
    have := put_map (fun v : V => v) (l := cC D .nils .nils) (i := 32) (a := x) (by rw [cC_len hD]; omega)
    simp only [List.map_id_fun', id_eq] at this
    rw [this, cC_set32 hD]
  have hl : (z32L.map u8 ++ [V.nils, V.nils]).length = 34 := rfl
  have ho : (digV D).cells.all V.okCell = true := by rw [cells_digV]; simp
  simp only [buildV, fits_digV hD, ho, Bool.true_and, csz, Nat.zero_add, hl, e1, hf, hcx, List.all_cons, hx, List.all_nil, cC_len hD, e2]
  simp
theorem errP_ok {p : Prg} (h1 : 0 ≤ p.g ∧ p.g ≤ 16 ∧ 0 ≤ p.l ∧ p.l ≤ 16 ∧ 0 ≤ p.s ∧ p.s ≤ 8 ∧ 0 < p.fs.length ∧ p.fs.length ≤ 16) (h2 : ∀ l ∈ p.fs, 0 < l.length ∧ l.length ≤ 64 ∧ ∀ x ∈ l, mayN p x l.length = true) (h3 : ¬ HasRound p) : errP p = 0 := by
  unfold errP
  rw [if_neg (by omega), if_neg (by omega)]
  rw [firstN_miss (fun j hj => ?_)]
  · simp [h3]
  · obtain ⟨a, b, c⟩ := h2 _ (List.getElem_mem hj)
    simp only [List.getElem?_eq_getElem hj, Option.getD_some, funcErr]
    rw [if_neg (by omega), if_neg (by omega), if_pos (List.all_eq_true.2 c)]
def p0 : Prg := ⟨0, 0, 0, [[⟨9, 0, 0, 0⟩]]⟩
theorem errP_p0 : errP p0 = 0 := by
  refine errP_ok (by decide) (fun l hl => ?_) ?_
  · simp only [p0, List.mem_singleton] at hl
    subst hl
    refine ⟨by decide, by decide, fun x hx => ?_⟩
    simp only [List.mem_singleton] at hx
    subst hx
    decide
  · rintro ⟨f, l, x, h1, h2, h3, _⟩
    have hl := List.mem_of_getElem? h1
    simp only [p0, List.mem_singleton] at hl
    subst hl
    simp only [List.mem_singleton] at h2
    subst h2
    simp at h3
def sect0 : Sect := ⟨0, 0, [0], 0, 0, [0]⟩
def c0 (D : List (BitVec 8)) : Cert := ⟨D, [sect0], []⟩
theorem must0 (un : List (BitVec 32)) : mustF p0 [sect0] un = (0, 0, 0) := by
  have h1 : shaped p0 [sect0] = true := by decide
  have h2 : ∀ first, mustAt ⟨p0, [sect0], un, first⟩ 0 = none := by
    intro first
    have h3 : badH ⟨p0, [sect0], un, first⟩ 0 0 = none := by simp [badH, nodeH, p0, sect0, succN, inS]
    have h4 : funH ⟨p0, [sect0], un, first⟩ 0 = (0, 0) := by
      simp only [funH]
      have e1 : ([sect0].getD 0 default).entry = 0#32 := rfl
      have e2 : inS (([sect0].getD 0 default).held.getD 0 0#32) 0#32 = true := by decide
      have e3 : (p0.fs.getD 0 []).length = 1 := rfl
      rw [e1, e2, e3]
      simp [firstN, h3]
    simp [mustAt, h4]
  simp [mustF, h1, firstN, h2]
theorem live0 (m : BitVec 32) : liveF p0 [sect0] m = (0, 0, 0) := by
  have h1 : shaped p0 [sect0] = true := by decide
  have h3 : liveN ⟨p0, [sect0], m⟩ 0 0 = none := by simp [liveN, nodeL, p0, sect0, succN, inS]
  have h2 : liveAt ⟨p0, [sect0], m⟩ 0 = none := by
    simp only [liveAt]
    have e2 : inS ([sect0][0]?.getD default).lentry ((([sect0][0]?.getD default).live)[0]?.getD 0#32) = true := by decide
    have e3 : (p0.fs[0]?.getD []).length = 1 := rfl
    rw [e2, e3]
    simp [firstN, h3]
  simp [liveF, h1, firstN, h2]
theorem guard0 : guardF p0 [sect0] [] = (0, 0, 0) := by decide
theorem check0 (D : List (BitVec 8)) (un : List (BitVec 32)) (m : BitVec 32) : checkF p0 (c0 D) un m = if D = digP p0 then (0, 0, 0) else (-1, -1, 9) := by
  have h1 : shapeF p0 (c0 D) = (0, 0, 0) := by
    have : shaped p0 (c0 D).l = true := by show shaped p0 [sect0] = true; decide
    simp [shapeF, this]
    rfl
  unfold checkF faultsF
  rw [h1]
  by_cases h : D = digP p0
  · have h2 : boundF p0 (c0 D) = (0, 0, 0) := by simp [boundF, c0, h]
    rw [h2, if_pos h]
    have e1 : mustF p0 (c0 D).l un = (0, 0, 0) := must0 un
    have e2 : liveF p0 (c0 D).l m = (0, 0, 0) := live0 m
    have e3 : guardF p0 (c0 D).l (c0 D).js = (0, 0, 0) := guard0
    rw [e1, e2, e3]
    rfl
  · have h2 : boundF p0 (c0 D) = (-1, -1, 9) := by simp [boundF, c0, h]
    rw [h2, if_neg h]
    rfl
theorem sect0_fold : V.agg [u32 0#32, u32 0#32, .vec [u32 0#32], u32 0#32, u32 0#32, .vec [u32 0#32]] = sect0.v := rfl
theorem law20_awake (n : Nat) : RetD (n + 28) k_law20_awake [] (.bool true) := by
  have hsm : SmallP p0 := ⟨by decide, fun l hl => by simp only [p0, List.mem_singleton] at hl; subst hl; decide⟩
  have he := errP_p0
  obtain ⟨D, hD⟩ : ∃ D, D = digP p0 := ⟨_, rfl⟩
  have hDl : D.length = 32 := by rw [hD]; exact shaL_len _
  have hdg := ((pcode_Digest (n + 6) p0 hsm).2 he).run
  have hdg : ∀ h, runF (tD (n + 27)) k_pcode_Digest {} [p0.v] h = some (.tup [digV D, i64 0], h) := by rw [hD]; exact hdg
  obtain ⟨un, m, _, _, hck⟩ := (check_Check (n + 2) p0 (c0 D) hsm hDl (by show 1 < _; omega)).2 he
  rw [check0, if_pos hD] at hck
  have hac := (check_Accepts (n + 1) p0 (c0 D) (0, 0, 0) 0 hDl (by
    obtain ⟨un, m, _, _, hck⟩ := (check_Check (n + 1) p0 (c0 D) hsm hDl (by show 1 < _; omega)).2 he
    rw [check0, if_pos hD] at hck
    exact hck)).run
  obtain ⟨b, hb, _⟩ := getE (l := D) (i := 0) (by omega)
  obtain ⟨D', hD'⟩ : ∃ D', D' = D.set 0 (b + 1#8) := ⟨_, rfl⟩
  have hDl' : D'.length = 32 := by rw [hD']; simpa using hDl
  have hne : D' ≠ digP p0 := by
    rw [← hD, hD']
    intro e
    have := congrArg (fun l => l[0]?) e
    simp only [List.getElem?_set, hb, hDl] at this
    have h2 : b + 1#8 = b := by simp at this
    have h3 := congrArg BitVec.toNat h2
    rw [BitVec.toNat_add] at h3
    have := b.isLt
    simp at h3
    omega
  have hac' := (check_Accepts (n + 1) p0 (c0 D') (-1, -1, 9) 0 hDl' (by
    obtain ⟨un, m, _, _, hck⟩ := (check_Check (n + 1) p0 (c0 D') hsm hDl' (by show 1 < _; omega)).2 he
    rw [check0, if_neg hne] at hck
    exact hck)).run
  have hck := hck.run
  have hcv : ∀ D, (c0 D).v = .agg (cC D (sectsV [sect0]) (.vec [])) := fun _ => rfl
  have hck : ∀ h, runF (tD (n + 27)) k_check_Check {} [p0.v, .agg (cC D (sectsV [sect0]) (.vec []))] h = some (.tup [fltV (0, 0, 0), i64 0], h) := hck
  have hac : ∀ h, runF (tD (n + 27)) k_check_Accepts {} [p0.v, .agg (cC D (sectsV [sect0]) (.vec []))] h = some (.bool true, h) := hac
  have hac' : ∀ h, runF (tD (n + 27)) k_check_Accepts {} [p0.v, .agg (cC D' (sectsV [sect0]) (.vec []))] h = some (.bool false, h) := hac'
  obtain ⟨S, hS⟩ : ∃ S, S = sectsV [sect0] := ⟨_, rfl⟩
  have hSok : S.okCell = true := by rw [hS]; rfl
  rw [← hS] at hck hac hac'
  have hcz : z32L.map u8 ++ [V.nils, V.nils] = cC z32L .nils .nils := rfl
  have hbld : buildV (cC z32L .nils .nils) [(0, 32, digV D), (32, 0, S)] = some (.agg (cC D S .nils)) := by rw [← hcz, ← rep32]; exact buildC hDl hSok
  have hp0 : V.agg [i64 0, i64 0, i64 0, .vec [.vec [.agg [i64 9, i64 0, i64 0, i64 0]]]] = p0.v := rfl
  have hs0 : V.vec [.agg [u32 0#32, u32 0#32, .vec [u32 0#32], u32 0#32, u32 0#32, .vec [u32 0#32]]] = S := by rw [hS]; rfl
  have hr1 : ∀ z, rep 1 z = z := fun z => by simp [rep]
  have b1 : buildV [i64 0, i64 0, i64 0, i64 0] [(0, 0, i64 9)] = some (.agg [i64 9, i64 0, i64 0, i64 0]) := rfl
  have b2 : ∀ x, buildV [i64 0, i64 0, i64 0, .nils] [(3, 0, .vec x)] = some (.agg [i64 0, i64 0, i64 0, .vec x]) := fun _ => rfl
  have b3 : ∀ x y, buildV [u32 0#32, u32 0#32, .nils, u32 0#32, u32 0#32, .nils] [(2, 0, .vec x), (5, 0, .vec y)] = some (.agg [u32 0#32, u32 0#32, .vec x, u32 0#32, u32 0#32, .vec y]) := fun _ _ => rfl
  have b4 : buildV [i64 0, i64 0, i64 0] [] = some (fltV (0, 0, 0)) := rfl
  have a0 : ∀ s1 s2 s3, stV 4 (.ptr 0 0 1) p0.v [⟨1, some [i64 0, i64 0, i64 0, .nils]⟩, s1, s2, s3] = some [⟨1, some [i64 p0.g, i64 p0.l, i64 p0.s, funcsV p0.fs]⟩, s1, s2, s3] := fun _ _ _ => rfl
  have a1 : ∀ s1 s2 s3, frzP 4 (.ptr 0 0 1) [⟨1, some [i64 p0.g, i64 p0.l, i64 p0.s, funcsV p0.fs]⟩, s1, s2, s3] = some (.fz p0.v, [⟨2, none⟩, s1, s2, s3]) := fun _ _ _ => rfl
  have a2 : ∀ s0 s2 s3, stV 32 (.ptr 1 0 1) (digV D) [s0, ⟨1, some (z32L.map u8)⟩, s2, s3] = some [s0, ⟨1, some (D.map u8)⟩, s2, s3] := fun s0 s2 s3 => by
    simp [fits_digV hDl, cells_digV, hDl, z32_drop, z32_len]
  have a3 : ∀ s0 s2 s3, frzP 32 (.ptr 1 0 1) [s0, ⟨1, some (D.map u8)⟩, s2, s3] = some (.fz (digV D), [s0, ⟨2, none⟩, s2, s3]) := fun s0 s2 s3 => by
    simp [hDl, frzL_u8, take32 hDl, take32' hDl, dig_fold]
  have a4 : ∀ s0 s1 s3, stV 34 (.ptr 2 0 1) (.agg (cC D S .nils)) [s0, s1, ⟨1, some (cC z32L .nils .nils)⟩, s3] = some [s0, s1, ⟨1, some (cC D S .nils)⟩, s3] := fun s0 s1 s3 => st_c34 (E := z32L) (x' := .nils) (y' := .nils) hDl rfl hSok rfl (by simp)
  have a5 : ∀ s0 s1 s3, frzC (.ptr 2 33 1) [s0, s1, ⟨1, some (cC D S .nils)⟩, s3] = some [s0, s1, ⟨1, some (cC D S (.vec []))⟩, s3] := fun s0 s1 s3 => by
    rw [frzC_at (cs := cC D S .nils) (v := .nils) (v' := .vec []) (h1 := [s0, s1, ⟨1, some (cC D S .nils)⟩, s3]) (by simp) (cC_33 hDl _ _) rfl (by simp), cC_set33 hDl]
    rfl
  have a6 : ∀ s0 s1 s3, ldV 34 (.ptr 2 0 1) [s0, s1, ⟨1, some (cC D S (.vec []))⟩, s3] = some (.agg (cC D S (.vec []))) := fun s0 s1 s3 => ld_c34 hDl (by simp)
  have a7 : ∀ s0 s1 s3, ldV 34 (.ptr 2 0 1) [s0, s1, ⟨1, some (cC D' S (.vec []))⟩, s3] = some (.agg (cC D' S (.vec []))) := fun s0 s1 s3 => ld_c34 hDl' (by simp)
  have a8 : ∀ s0 s1 s3, ldV 0 (.ptr 2 0 1) [s0, s1, ⟨1, some (cC D S (.vec []))⟩, s3] = some (u8 b) := fun s0 s1 s3 => by
    rw [ldV_ptr, cellsAt_s, cellsAt_s, cellsAt_0, if_pos rfl, Option.bind_some, takeV_one, cC_at hb]; rfl
  have a9 : ∀ s0 s1 s3, stV 0 (.ptr 2 0 1) (u8 (b + 1#8)) [s0, s1, ⟨1, some (cC D S (.vec []))⟩, s3] = some [s0, s1, ⟨1, some (cC D' S (.vec []))⟩, s3] := fun s0 s1 s3 => by
    rw [st_set (cs := cC D S (.vec [])) rfl rfl rfl (by simp) (by rw [cC_len hDl]; omega), cC_set (by omega), ← hD']; rfl
  have a10 : ∀ s0 s1 s2, stV 3 (.ptr 3 0 1) (fltV (0, 0, 0)) [s0, s1, s2, ⟨1, some [i64 0, i64 0, i64 0]⟩] = some [s0, s1, s2, ⟨1, some [i64 0, i64 0, i64 0]⟩] := fun _ _ _ => rfl
  have a11 : ∀ s0 s1 s2, frzP 3 (.ptr 3 0 1) [s0, s1, s2, ⟨1, some [i64 0, i64 0, i64 0]⟩] = some (.fz (fltV (0, 0, 0)), [s0, s1, s2, ⟨2, none⟩]) := fun _ _ _ => rfl
  have l1 : V.int .u8 1 = u8 1#8 := rfl
  have hfq := flt_eq .eql (0, 0, 0) (0, 0, 0)
  refine Ret.of rfl rfl (law20_awake_eq ..) ?_
  simp -implicitDefEqProofs [-ldV_ptr, -stV_ptr, -frzP_ptr, -takeV_succ, law20_awake_B, b1, b2, b3, b4, hr1, fillV, newSl, okE, elems, hp0, a0, a1, hdg, rep32, hcz, a2, a3, ld_digV hDl, hs0, hbld, a4, a5, cmds.faV', a6, hck, a10, a11, hac, a8, l1, u8_add, a9, a7, hac', iaA, hfq, eqRes]
end Mini
end
section
namespace Mini
open Go
set_option linter.unusedSimpArgs false
set_option linter.unusedVariables false
def fewS (s : Sect) : Bool := decide (s.held.length ≤ 100 ∧ s.live.length ≤ 100)
def fewC (c : Cert) : Bool := decide (c.l.length ≤ 40 ∧ c.js.length ≤ 40) && c.l.all fewS
theorem fewC_ok {c : Cert} (h : fewC c = true) : c.l.length ≤ 40 ∧ c.js.length ≤ 40 ∧ ∀ s ∈ c.l, s.held.length ≤ 100 ∧ s.live.length ≤ 100 := by
  simp only [fewC, fewS, Bool.and_eq_true, decide_eq_true_eq, List.all_eq_true] at h
  exact ⟨h.1.1, h.1.2, h.2⟩
theorem ref18_Few (n : Nat) (c : Cert) (hd : c.d.length = 32) : RetD (n + 1) k_ref18_Few [c.v] (.bool (fewC c)) := by
  refine Ret.of (by simp [Cert.noRef]) rfl (ref18_Few_eq ..) ?_
  by_cases h40 : (40 : Int) < c.l.length
  · have : fewC c = false := by simp [fewC]; omega
    rw [this]
    simp -implicitDefEqProofs [-boxV_fz, -faV_fz, ref18_Few_B, Cert.box hd, Cert.fa_l hd, Cert.fa_j hd, h40]
  by_cases j40 : (40 : Int) < c.js.length
  · have : fewC c = false := by simp [fewC]; omega
    rw [this]
    simp -implicitDefEqProofs [-boxV_fz, -faV_fz, ref18_Few_B, Cert.box hd, Cert.fa_l hd, Cert.fa_j hd, h40, j40]
  have hs : fewC c = c.l.all fewS := by
    have : decide (c.l.length ≤ 40 ∧ c.js.length ≤ 40) = true := by simp; omega
    simp [fewC, this]
  rw [hs]
  obtain ⟨b, hb⟩ : ∃ b, b = c.l.all fewS := ⟨_, rfl⟩
  rw [← hb]
  simp -implicitDefEqProofs [-boxV_fz, -faV_fz, ref18_Few_B, Cert.box hd, Cert.fa_l hd, Cert.fa_j hd, h40, j40]
  refine W_up c.l.length (fun i s => At s [(1, .fz c.v), (3, i64 i)] [] ∧ ∀ j (hj : j < c.l.length), j < i → fewS c.l[j] = true) ?_ ?_ (Nat.zero_le _) ⟨by simp, by omega⟩
  · rintro i s hi ⟨hs, hj⟩
    have ha := i64_inc hi (by omega)
    have fs2 : ∀ s : Sect, faV 2 0 (.fz s.v) = some (.fz (setsV s.held)) := fun _ => rfl
    have fs5 : ∀ s : Sect, faV 5 0 (.fz s.v) = some (.fz (setsV s.live)) := fun _ => rfl
    simp only [At_cons, At_nil] at hs
    by_cases h1 : (100 : Int) < (c.l[i]).held.length
    · have : b = false := by rw [hb]; exact all_hit hi (by simp [fewS]; omega)
      rw [this]
      simp -implicitDefEqProofs [-faV_fz, ref18_Few_L0, hs, hi, ia_sects, Cert.fa_l hd, fs2, fs5, h1]
    by_cases h2 : (100 : Int) < (c.l[i]).live.length
    · have : b = false := by rw [hb]; exact all_hit hi (by simp [fewS]; omega)
      rw [this]
      simp -implicitDefEqProofs [-faV_fz, ref18_Few_L0, hs, hi, ia_sects, Cert.fa_l hd, fs2, fs5, h1, h2]
    · simp -implicitDefEqProofs [-faV_fz, ref18_Few_L0, hs, hi, ia_sects, Cert.fa_l hd, fs2, fs5, h1, h2, ha]
      exact all_step hi hj (by simp [fewS]; omega)
  · rintro s ⟨hs, hj⟩
    have : b = true := by rw [hb]; exact all_miss hj
    rw [this]
    simp only [At_cons, At_nil] at hs
    simp -implicitDefEqProofs [-faV_fz, ref18_Few_L0, hs, Cert.fa_l hd]
/-! ### rows of structs -/
theorem elems_flat {α : Type} (f : α → List V) (m : Nat) (hl : ∀ a, (f a).length = m + 1) (l : List α) : elems (m + 1) l.length (l.flatMap f) = l.map fun a => .agg (f a) := by
  induction l with
  | nil => rfl
  | cons a l ih =>
    have h1 : (f a ++ l.flatMap f).take (m + 1) = f a := by rw [List.take_append_of_le_length (by rw [hl]; omega), List.take_of_length_le (by rw [hl]; omega)]
    have h2 : (f a ++ l.flatMap f).drop (m + 1) = l.flatMap f := by rw [← hl a, List.drop_left]
    simp only [List.flatMap_cons, List.length_cons, elems, csz, Nat.add_one_ne_zero, if_false, h1, h2, ih, List.map_cons]
theorem frzL_id {n : Nat} : ∀ (l : List V) (h : Heap), (∀ v ∈ l, ∀ h, frzV n v h = some (v, h)) → frzL (frzV n) l h = some (l, h)
  | [], h, _ => rfl
  | v :: l, h, hv => by
    simp only [frzL, hv v (List.mem_cons_self ..), Option.bind_some, frzL_id l h (fun w hw => hv w (List.mem_cons_of_mem _ hw))]
theorem frzL_flat {α : Type} (f : α → List V) (n : Nat) (hf : ∀ a, ∀ v ∈ f a, ∀ h, frzV n v h = some (v, h)) (l : List α) (h : Heap) : frzL (frzV n) (l.flatMap f) h = some (l.flatMap f, h) := by
  refine frzL_id _ _ fun v hv => ?_
  obtain ⟨a, _, ha⟩ := List.mem_flatMap.1 hv
  exact hf a v ha
theorem flat_length {α : Type} (f : α → List V) (m : Nat) (hl : ∀ a, (f a).length = m) (l : List α) : (l.flatMap f).length = l.length * m := by
  induction l with
  | nil => simp
  | cons a l ih => simp only [List.flatMap_cons, List.length_append, hl, ih, List.length_cons, Nat.add_mul]; omega
theorem frz_rowS {α : Type} (f : α → List V) (m : Nat) (hl : ∀ a, (f a).length = m + 1) (hf : ∀ a, ∀ v ∈ f a, ∀ h, frzV 7 v h = some (v, h)) {l : List α} {k c st : Nat} {h : Heap} (hc : cellsAt h k st = some (l.flatMap f)) :
    frzV 8 (.sl k 0 l.length c (m + 1) st) h = some (.vec (l.map fun a => .agg (f a)), kill h k) := by
  have h1 := flat_length f (m + 1) hl l
  have h2 : (l.flatMap f).take (l.length * (m + 1)) = l.flatMap f := by rw [List.take_of_length_le (by omega)]
  have h3 : okE (m + 1) (l.flatMap f) = true := rfl
  rw [frzV_sl, hc]
  simp only [Option.bind_some, csz, Nat.add_one_ne_zero, if_false, Nat.zero_add, h1, Nat.le_refl, if_true, List.drop_zero, h2, frzL_flat f 7 hf, h3, elems_flat f m hl]
def jC (j : Just) : List V := [i64 j.kind, i64 j.lock]
theorem jC_frz : ∀ (j : Just), ∀ v ∈ jC j, ∀ h, frzV 7 v h = some (v, h) := by
  intro j v hv h
  simp only [jC, List.mem_cons, List.not_mem_nil, or_false] at hv
  rcases hv with rfl | rfl <;> rfl
theorem frz_justs {js : List Just} {k c st : Nat} {h : Heap} (hc : cellsAt h k st = some (js.flatMap jC)) : frzV 8 (.sl k 0 js.length c 2 st) h = some (justsV js, kill h k) := frz_rowS jC 1 (fun _ => rfl) jC_frz hc
theorem src_justs (js : List Just) (h : Heap) : srcV 2 (justsV js) h = some (js.length, js.flatMap jC) := by
  have e : (js.map Just.v).flatMap V.cells = js.flatMap jC := by
    induction js with
    | nil => rfl
    | cons a l ih => simp only [List.map_cons, List.flatMap_cons, ih]; rfl
  simp [srcV, justsV] at e ⊢
  exact e
theorem rep_justs (n : Nat) : rep n [i64 0, i64 0] = (List.replicate n (⟨0, 0⟩ : Just)).flatMap jC := by
  induction n with
  | zero => rfl
  | succ n ih => rw [List.replicate_succ, List.flatMap_cons, ← ih]; rfl
theorem mk_justs {id lim n : Nat} {h : Heap} (hl : n ≤ lim) : mkSl (some id) lim 2 [i64 0, i64 0] (i64 n) (i64 n) h = some (.sl id 0 n n 2 ((hget h id).st + 1), hset h id ⟨(hget h id).st + 1, some ((List.replicate n (⟨0, 0⟩ : Just)).flatMap jC)⟩) := by
  have : (n : Int) ≤ lim := by omega
  simp [mkSl, this, rep_justs]
theorem checkF_shape {p : Prg} {c : Cert} {un : List (BitVec 32)} {m : BitVec 32} (h : shapeF p c = (-1, -1, 1)) : checkF p c un m = (-1, -1, 1) := by
  unfold checkF faultsF
  rw [h]
  rfl
theorem checkF_bound {p : Prg} {c : Cert} {un : List (BitVec 32)} {m : BitVec 32} (h : c.d ≠ digP p) : checkF p c un m = (-1, -1, 1) ∨ checkF p c un m = (-1, -1, 9) := by
  by_cases hs : shapeF p c = (-1, -1, 1)
  · exact .inl (checkF_shape hs)
  · have h1 : shapeF p c = (0, 0, 0) := by
      unfold shapeF at hs ⊢
      split at hs
      · exact absurd rfl hs
      · rename_i hh; rw [if_neg hh]
    have h2 : boundF p c = (-1, -1, 9) := by unfold boundF; rw [if_neg h]
    refine .inr ?_
    unfold checkF faultsF
    rw [h1, h2]
    rfl
end Mini
end
section
namespace Mini
open Go
set_option linter.unusedSimpArgs false
set_option linter.unusedVariables false
@[simp] theorem u8_xor (a b : BitVec 8) : intV .xor (u8 a) (u8 b) = some (u8 (a ^^^ b)) := by
  show some (V.int .u8 (IntKind.u8.wrap ((BitVec.ofInt 8 a.toNat ^^^ BitVec.ofInt 8 b.toNat).toNat))) = _
  rw [u8_bits, u8_bits, wrap_u8]
  simp [u8]
theorem app_rowsS {id lim sz k i st m : Nat} {x : V} {cs new : List V} {h : Heap} (hs : srcV sz x h = some (m, new)) (ho : new.all V.okCell = true) (hm : 0 < m) (hc : cellsAt h k st = some cs) (hl : cs.length = i * csz sz) (hlim : i + m ≤ lim) :
    appV (some id) lim sz (.sl k 0 i i sz st) x h = some (.sl k 0 (i + m) (i + m) sz (st + 1), hset h k ⟨st + 1, some (cs ++ new)⟩) := by
  have hm' : ¬ m = 0 := by omega
  unfold appV
  rw [hs]
  simp only [Option.bind_some, ho, if_true, hc, hlim, hl, and_self, hm', if_false]
theorem jC_ok (js : List Just) : (js.flatMap jC).all V.okCell = true := by
  induction js with
  | nil => rfl
  | cons j js ih => rw [List.flatMap_cons, List.all_append, ih]; rfl
theorem run_awake20 (n : Nat) (h : Heap) : runF (tD (n + 28)) k_law20_awake {} [] h = some (.bool true, h) := (law20_awake n).run h
theorem law20_CheckFirst (n : Nat) (p : Prg) (c : Cert) (more : Bool) (hd : c.d.length = 32) : RetD (n + 29) k_law20_CheckFirst [p.v, c.v, .bool more] (.bool true) := by
  refine Ret.of (by simp [Cert.noRef]) rfl (law20_CheckFirst_eq ..) ?_
  have haw := run_awake20 n
  have hsm' : ∀ h, runF (tD (n + 28)) k_ref05_Small {} [p.v] h = some (.bool (smallP p), h) := (ref05_Small (n + 27) p).run
  have hfe' : ∀ h, runF (tD (n + 28)) k_ref18_Few {} [c.v] h = some (.bool (fewC c), h) := (ref18_Few (n + 27) c hd).run
  cases hsp : smallP p
  · simp -implicitDefEqProofs [-boxV_fz, law20_CheckFirst_B, Prg.box, Cert.box hd, Cert.fits hd, haw, hsm', hsp]
  cases hfc : fewC c
  · simp -implicitDefEqProofs [-boxV_fz, law20_CheckFirst_B, Prg.box, Cert.box hd, Cert.fits hd, haw, hsm', hsp, hfe', hfc]
  obtain ⟨hsm, hN, hNl⟩ := smallP_ok hsp
  obtain ⟨hl40, hj40, _⟩ := fewC_ok hfc
  obtain ⟨D, hDl, hdg, hD1, hD2⟩ := run_Digest (n + 7) p hsm []
  have hdg : ∀ h, runF (tD (n + 28)) k_pcode_Digest {} [p.v] h = some (.tup [digV D, i64 (errP p)], h) := by
    intro h
    obtain ⟨D', _, e, h1, h2⟩ := run_Digest (n + 7) p hsm h
    have : D' = D := by
      by_cases he : errP p = 0
      · rw [h1 he, hD1 he]
      · rw [h2 he, hD2 he]
    rw [this] at e
    exact e
  have hcz : z32L.map u8 ++ [V.nils, V.nils] = cC z32L .nils .nils := rfl
  have g0 : ∀ a b c d e f g i, stV 32 (.ptr 0 0 1) (digV D) [⟨1, some (z32L.map u8)⟩, a, b, c, d, e, f, g, i] = some [⟨1, some (D.map u8)⟩, a, b, c, d, e, f, g, i] := fun a b c d e f g i => by
    simp [fits_digV hDl, cells_digV, hDl, z32_drop, z32_len]
  have g0' : ∀ a b c d e f g i, frzP 32 (.ptr 0 0 1) [⟨1, some (D.map u8)⟩, a, b, c, d, e, f, g, i] = some (.fz (digV D), [⟨2, none⟩, a, b, c, d, e, f, g, i]) := fun a b c d e f g i => by
    simp [hDl, frzL_u8, take32 hDl, take32' hDl, dig_fold]
  by_cases he : errP p = 0
  case neg =>
    have d0 := eq_false he
    simp -implicitDefEqProofs [-boxV_fz, -stV_ptr, -frzP_ptr, law20_CheckFirst_B, Prg.box, Cert.box hd, Cert.fits hd, haw, hsm', hsp, hfe', hfc, hdg, rep32, g0, g0', d0]
  have hD := hD1 he
  obtain ⟨hg1, _, _⟩ := errP_zero he
  obtain ⟨S, hS⟩ : ∃ S, S = sectsV c.l := ⟨_, rfl⟩
  have hSok : S.okCell = true := by rw [hS]; rfl
  have hcv : c.v = .agg (cC c.d S (justsV c.js)) := by rw [hS]; rfl
  have gfa : faV 33 0 (.fz c.v) = some (.fz (justsV c.js)) := Cert.fa_j hd
  have gfp : faV 0 0 (.fz p.v) = some (.fz (i64 p.g)) := rfl
  have gff : ∀ f : Int × Int × Int, faV 0 0 (.fz (fltV f)) = some (.fz (i64 f.1)) ∧ faV 1 0 (.fz (fltV f)) = some (.fz (i64 f.2.1)) := fun _ => ⟨rfl, rfl⟩
  have gff1 := fun f => (gff f).1
  have gff2 := fun f => (gff f).2
  have gld : ∀ h, ldV 34 (.fz c.v) h = some c.v := Cert.ld hd
  have gldp : ∀ h, ldV 4 (.fz p.v) h = some p.v := fun _ => rfl
  have g1 : ∀ a b c' d e f g i, stV 34 (.ptr 1 0 1) c.v [a, ⟨1, some (cC z32L .nils .nils)⟩, b, c', d, e, f, g, i] = some [a, ⟨1, some (cC c.d S (justsV c.js))⟩, b, c', d, e, f, g, i] := fun a b c' d e f g i => by
    rw [hcv]; exact st_c34 (E := z32L) (x' := .nils) (y' := .nils) hd rfl hSok rfl (by simp)
  have hfill : fillV (rep 0 [.int .i64 0, .int .i64 0]) [] = some [] := rfl
  have g2 : ∀ a b c d e f g i, newSl (some 2) 0 2 [] [a, b, ⟨0, none⟩, c, d, e, f, g, i] = some (.sl 2 0 0 0 2 1, [a, b, ⟨1, some []⟩, c, d, e, f, g, i]) := fun _ _ _ _ _ _ _ _ => rfl
  have g3 : ∃ st2, ∀ a b c' d e f g i, appV (some 3) 4398046511104 2 (.sl 2 0 0 0 2 1) (justsV c.js) [a, b, ⟨1, some []⟩, c', d, e, f, g, i] = some (.sl 2 0 c.js.length c.js.length 2 st2, [a, b, ⟨st2, some (c.js.flatMap jC)⟩, c', d, e, f, g, i]) := by
    cases hj : c.js with
    | nil => exact ⟨1, fun _ _ _ _ _ _ _ _ => rfl⟩
    | cons j js =>
      refine ⟨2, fun a b c' d e f g i => ?_⟩
      rw [← hj]
      have := app_rowsS (id := 3) (lim := 4398046511104) (sz := 2) (k := 2) (i := 0) (st := 1) (cs := []) (src_justs c.js [a, b, ⟨1, some []⟩, c', d, e, f, g, i]) (jC_ok _) (by rw [hj]; simp) rfl rfl (by omega)
      rw [this]
      simp
  obtain ⟨st2, g3⟩ := g3
  have g4 : ∀ a b c' d e f g i x y, x.okCell = true → stV 0 (.ptr 1 33 1) x [a, ⟨1, some (cC c.d S y)⟩, b, c', d, e, f, g, i] = some [a, ⟨1, some (cC c.d S x)⟩, b, c', d, e, f, g, i] := fun a b c' d e f g i x y hx => by
    have hf : fitsV 0 x = true := by cases x <;> first | rfl | (simp [V.okCell] at hx)
    have hcx : x.cells = [x] := by cases x <;> first | rfl | (simp [V.okCell] at hx)
    rw [st_set (cs := cC c.d S y) hf hx hcx (by simp) (by rw [cC_len hd]; omega), cC_set33 hd]; rfl
  have g4' := fun a b c' d e f g i k o l cp sz st y => g4 a b c' d e f g i (.sl k o l cp sz st) y rfl
  have g6 : ∀ a b c' d e f g i J, ldV 34 (.ptr 1 0 1) [a, ⟨1, some (cC c.d S J)⟩, b, c', d, e, f, g, i] = some (.agg (cC c.d S J)) := fun a b c' d e f g i J => ld_c34 hd (by simp)
  have g7 : ∀ a b c d e f g i (F : Int × Int × Int), stV 3 (.ptr 6 0 1) (fltV F) [a, b, c, d, e, f, ⟨1, some [i64 0, i64 0, i64 0]⟩, g, i] = some [a, b, c, d, e, f, ⟨1, some [i64 F.1, i64 F.2.1, i64 F.2.2]⟩, g, i] := fun _ _ _ _ _ _ _ _ _ => rfl
  have g7' : ∀ a b c d e f g i (F : Int × Int × Int), frzP 3 (.ptr 6 0 1) [a, b, c, d, e, f, ⟨1, some [i64 F.1, i64 F.2.1, i64 F.2.2]⟩, g, i] = some (.fz (fltV F), [a, b, c, d, e, f, ⟨2, none⟩, g, i]) := fun _ _ _ _ _ _ _ _ _ => rfl
  have g8 : ∀ a b c' d e f g i, stV 34 (.ptr 7 0 1) c.v [a, b, c', d, e, f, g, ⟨1, some (cC z32L .nils .nils)⟩, i] = some [a, b, c', d, e, f, g, ⟨1, some (cC c.d S (justsV c.js))⟩, i] := fun a b c' d e f g i => by
    rw [hcv]; exact st_c34 (E := z32L) (x' := .nils) (y' := .nils) hd rfl hSok rfl (by simp)
  have g8' : ∀ a b c' d e f g i, stV 32 (.ptr 7 0 1) (digV D) [a, b, c', d, e, f, g, ⟨1, some (cC c.d S (justsV c.js))⟩, i] = some [a, b, c', d, e, f, g, ⟨1, some (cC D S (justsV c.js))⟩, i] := fun a b c' d e f g i => by
    have e1 : List.drop 32 (cC c.d S (justsV c.js)) = [S, justsV c.js] := by
      unfold cC; rw [List.drop_append_of_le_length (by simp; omega), List.drop_of_length_le (by simp; omega)]; rfl
    simp [fits_digV hDl, cells_digV, hDl, cC_len hd, e1]
    rfl
  obtain ⟨b5, hb5, _⟩ := getE (l := D) (i := 5) (by omega)
  obtain ⟨D', hD'⟩ : ∃ D', D' = D.set 5 (b5 ^^^ 1#8) := ⟨_, rfl⟩
  have hDl' : D'.length = 32 := by rw [hD']; simpa using hDl
  have hne : D' ≠ digP p := by
    rw [← hD, hD']
    intro e
    have := congrArg (fun l => l[5]?) e
    simp only [List.getElem?_set, hb5, hDl] at this
    have h2 : b5 ^^^ 1#8 = b5 := by simpa using this
    have h3 := congrArg (fun x => x.getLsbD 0) h2
    simp at h3
  have g9 : ∀ a b c' d e f g i, ldV 0 (.ptr 7 5 1) [a, b, c', d, e, f, g, ⟨1, some (cC D S (justsV c.js))⟩, i] = some (u8 b5) := fun a b c' d e f g i => by
    rw [ldV_ptr, cellsAt_s, cellsAt_s, cellsAt_s, cellsAt_s, cellsAt_s, cellsAt_s, cellsAt_s, cellsAt_0, if_pos rfl, Option.bind_some, takeV_one, cC_at hb5]; rfl
  have g9' : ∀ a b c' d e f g i, stV 0 (.ptr 7 5 1) (u8 (b5 ^^^ 1#8)) [a, b, c', d, e, f, g, ⟨1, some (cC D S (justsV c.js))⟩, i] = some [a, b, c', d, e, f, g, ⟨1, some (cC D' S (justsV c.js))⟩, i] := fun a b c' d e f g i => by
    rw [st_set (cs := cC D S (justsV c.js)) rfl rfl rfl (by simp) (by rw [cC_len hDl]; omega), cC_set (by omega), ← hD']; rfl
  have g10 : ∀ a b c' d e f g i, ldV 34 (.ptr 7 0 1) [a, b, c', d, e, f, g, ⟨1, some (cC D' S (justsV c.js))⟩, i] = some (.agg (cC D' S (justsV c.js))) := fun a b c' d e f g i => ld_c34 hDl' (by simp)
  have g11 : ∀ a b c d e f g i (F : Int × Int × Int), stV 3 (.ptr 8 0 1) (fltV F) [a, b, c, d, e, f, g, i, ⟨1, some [i64 0, i64 0, i64 0]⟩] = some [a, b, c, d, e, f, g, i, ⟨1, some [i64 F.1, i64 F.2.1, i64 F.2.2]⟩] := fun _ _ _ _ _ _ _ _ _ => rfl
  have g11' : ∀ a b c d e f g i (F : Int × Int × Int), frzP 3 (.ptr 8 0 1) [a, b, c, d, e, f, g, i, ⟨1, some [i64 F.1, i64 F.2.1, i64 F.2.2]⟩] = some (.fz (fltV F), [a, b, c, d, e, f, g, i, ⟨2, none⟩]) := fun _ _ _ _ _ _ _ _ _ => rfl
  have l1 : V.int .u8 1 = u8 1#8 := rfl
  have hfq := fun a b => flt_eq .neq a b
  have hb1 : buildV [i64 0, i64 0, i64 0] [(0, 0, i64 (-1)), (1, 0, i64 (-1)), (2, 0, i64 1)] = some (fltV (-1, -1, 1)) := rfl
  have hck : ∀ js : List Just, ∃ f, (js.length ≠ p.g.toNat → f = (-1, -1, 1)) ∧ ∀ h, runF (tD (n + 28)) k_check_Check {} [p.v, .agg (cC c.d S (justsV js))] h = some (.tup [fltV f, i64 0], h) := by
    intro js
    obtain ⟨un, m, _, _, hr⟩ := (check_Check (n + 3) p ⟨c.d, c.l, js⟩ hsm hd (by show c.l.length < _; omega)).2 he
    refine ⟨_, fun hjs => checkF_shape ?_, by rw [hS]; exact hr.run⟩
    unfold shapeF
    rw [if_pos (.inr (by show (js.length : Int) ≠ p.g; omega))]
  have hck2 : ∃ f, (f = (-1, -1, 1) ∨ f = (-1, -1, 9)) ∧ ∀ h, runF (tD (n + 28)) k_check_Check {} [p.v, .agg (cC D' S (justsV c.js))] h = some (.tup [fltV f, i64 0], h) := by
    obtain ⟨un, m, _, _, hr⟩ := (check_Check (n + 3) p ⟨D', c.l, c.js⟩ hsm hDl' (by show c.l.length < _; omega)).2 he
    exact ⟨_, checkF_bound hne, by rw [hS]; exact hr.run⟩
  obtain ⟨f2, hf2, hck2⟩ := hck2
  have hf2' : f2.1 = -1 ∧ f2.2.1 = -1 ∧ (f2.2.2 = 1 ∨ f2.2.2 = 9) := by
    rcases hf2 with rfl | rfl
    · exact ⟨rfl, rfl, .inl rfl⟩
    · exact ⟨rfl, rfl, .inr rfl⟩
  obtain ⟨z1, z2, z3⟩ := hf2'
  have z1 := eq_true z1
  have z2 := eq_true z2
  cases more
  · by_cases hpos : 0 < p.g
    · obtain ⟨k, hk, _⟩ := natI (N := 17) hg1.1 (by omega)
      have hk0 : 0 < k := by omega
      obtain ⟨f1, hf1, hck1⟩ := hck (List.replicate (k - 1) ⟨0, 0⟩)
      have hf1 := hf1 (by simp; omega)
      have dpos := eq_true hpos
      have hsub : intV .sub (i64 p.g) (i64 1) = some (i64 ((k - 1 : Nat) : Int)) := by
        have e : (k : Int) - 1 = ((k - 1 : Nat) : Int) := by omega
        rw [hk, i64_sub (by omega) (by omega), e]
      have gmk : ∀ a b c d e f g i, mkSl (some 5) 4398046511104 2 [i64 0, i64 0] (i64 ((k - 1 : Nat) : Int)) (i64 ((k - 1 : Nat) : Int)) [a, b, c, d, e, ⟨0, none⟩, f, g, i] = some (.sl 5 0 (k - 1) (k - 1) 2 1, [a, b, c, d, e, ⟨1, some ((List.replicate (k - 1) (⟨0, 0⟩ : Just)).flatMap jC)⟩, f, g, i]) := fun a b c d e f g i => by
        rw [mk_justs (by omega)]; rfl
      have g5 : ∀ a b c' d e f g, frzC (.ptr 1 33 1) [a, ⟨1, some (cC c.d S (.sl 5 0 (k - 1) (k - 1) 2 1))⟩, b, c', d, ⟨1, some ((List.replicate (k - 1) (⟨0, 0⟩ : Just)).flatMap jC)⟩, e, f, g] = some [a, ⟨1, some (cC c.d S (justsV (List.replicate (k - 1) ⟨0, 0⟩)))⟩, b, c', d, ⟨2, none⟩, e, f, g] := fun a b c' d e f g => by
        have hfr := frz_justs (js := List.replicate (k - 1) (⟨0, 0⟩ : Just)) (k := 5) (c := k - 1) (st := 1) (h := [a, ⟨1, some (cC c.d S (.sl 5 0 (k - 1) (k - 1) 2 1))⟩, b, c', d, ⟨1, some ((List.replicate (k - 1) (⟨0, 0⟩ : Just)).flatMap jC)⟩, e, f, g]) (by simp)
        rw [List.length_replicate] at hfr
        rw [frzC_at (cs := cC c.d S (.sl 5 0 (k - 1) (k - 1) 2 1)) (by simp) (cC_33 hd _ _) hfr (by simp), cC_set33 hd]
        rfl
      obtain ⟨R, hR⟩ : ∃ R, R = List.replicate (k - 1) (⟨0, 0⟩ : Just) := ⟨_, rfl⟩
      obtain ⟨k1, hk1⟩ : ∃ k1, k1 = k - 1 := ⟨_, rfl⟩
      rw [← hR] at hck1 gmk g5
      rw [← hk1] at gmk g5 hsub
      have hq1 : aggEq .neq 3 [(0, 0), (1, 0), (2, 0)] (fltV f1) (fltV (-1, -1, 1)) = some (.bool false) := by rw [hfq, hf1]; rfl
      rcases z3 with z3 | z3
      · have z3 := eq_true z3
        simp -implicitDefEqProofs [-boxV_fz, -faV_fz, -stV_ptr, -ldV_ptr, -frzP_ptr, law20_CheckFirst_B, Prg.box, Cert.box hd, Cert.fits hd, haw, hsm', hsp, hfe', hfc, hdg, rep32, g0, g0', he, gld, gldp, hcz, g1, hfill, g2, gfa, g3, g4', gfp, hsub, gmk, dpos, cmds.faV', g5, g6, hck1, g7, g7', hb1, hb1, hq1, g8, ld_digV hDl, g8', iaA, g9, l1, g9', g10, hck2, g11, g11', gff1, gff2, flt_fa, z1, z2, z3]
      · have z4 := eq_false (show ¬ f2.2.2 = 1 by omega)
        have z3 := eq_true z3
        simp -implicitDefEqProofs [-boxV_fz, -faV_fz, -stV_ptr, -ldV_ptr, -frzP_ptr, law20_CheckFirst_B, Prg.box, Cert.box hd, Cert.fits hd, haw, hsm', hsp, hfe', hfc, hdg, rep32, g0, g0', he, gld, gldp, hcz, g1, hfill, g2, gfa, g3, g4', gfp, hsub, gmk, dpos, cmds.faV', g5, g6, hck1, g7, g7', hb1, hb1, hq1, g8, ld_digV hDl, g8', iaA, g9, l1, g9', g10, hck2, g11, g11', gff1, gff2, flt_fa, z1, z2, z3, z4]
    · obtain ⟨f1, _, hck1⟩ := hck c.js
      have dpos := eq_false hpos
      have g5 : ∀ a c' d e f g i, frzC (.ptr 1 33 1) [a, ⟨1, some (cC c.d S (.sl 2 0 c.js.length c.js.length 2 st2))⟩, ⟨st2, some (c.js.flatMap jC)⟩, c', d, e, f, g, i] = some [a, ⟨1, some (cC c.d S (justsV c.js))⟩, ⟨st2 + 1, none⟩, c', d, e, f, g, i] := fun a c' d e f g i => by
        have hfr := frz_justs (js := c.js) (k := 2) (c := c.js.length) (st := st2) (h := [a, ⟨1, some (cC c.d S (.sl 2 0 c.js.length c.js.length 2 st2))⟩, ⟨st2, some (c.js.flatMap jC)⟩, c', d, e, f, g, i]) (by simp)
        rw [frzC_at (cs := cC c.d S (.sl 2 0 c.js.length c.js.length 2 st2)) (by simp) (cC_33 hd _ _) hfr (by simp), cC_set33 hd]
        rfl
      rcases z3 with z3 | z3
      · have z3 := eq_true z3
        simp -implicitDefEqProofs [-boxV_fz, -faV_fz, -stV_ptr, -ldV_ptr, -frzP_ptr, law20_CheckFirst_B, Prg.box, Cert.box hd, Cert.fits hd, haw, hsm', hsp, hfe', hfc, hdg, rep32, g0, g0', he, gld, gldp, hcz, g1, hfill, g2, gfa, g3, g4', gfp, dpos, cmds.faV', g5, g6, hck1, g7, g7', hb1,  g8, ld_digV hDl, g8', iaA, g9, l1, g9', g10, hck2, g11, g11', gff1, gff2, flt_fa, z1, z2, z3]
      · have z4 := eq_false (show ¬ f2.2.2 = 1 by omega)
        have z3 := eq_true z3
        simp -implicitDefEqProofs [-boxV_fz, -faV_fz, -stV_ptr, -ldV_ptr, -frzP_ptr, law20_CheckFirst_B, Prg.box, Cert.box hd, Cert.fits hd, haw, hsm', hsp, hfe', hfc, hdg, rep32, g0, g0', he, gld, gldp, hcz, g1, hfill, g2, gfa, g3, g4', gfp, dpos, cmds.faV', g5, g6, hck1, g7, g7', hb1,  g8, ld_digV hDl, g8', iaA, g9, l1, g9', g10, hck2, g11, g11', gff1, gff2, flt_fa, z1, z2, z3, z4]
  · obtain ⟨f1, hf1, hck1⟩ := hck (List.replicate (p.g.toNat + 1) ⟨0, 0⟩)
    have hf1 := hf1 (by simp)
    obtain ⟨k, hk, _⟩ := natI (N := 17) hg1.1 (by omega)
    have hadd : intV .add (i64 p.g) (i64 1) = some (i64 ((k + 1 : Nat) : Int)) := by rw [i64_add (by omega) (by omega), hk]; rfl
    have hkt : p.g.toNat = k := by omega
    rw [hkt] at hck1
    have gmk : ∀ a b c d e f g i, mkSl (some 4) 4398046511104 2 [i64 0, i64 0] (i64 ((k + 1 : Nat) : Int)) (i64 ((k + 1 : Nat) : Int)) [a, b, c, d, ⟨0, none⟩, e, f, g, i] = some (.sl 4 0 (k + 1) (k + 1) 2 1, [a, b, c, d, ⟨1, some ((List.replicate (k + 1) (⟨0, 0⟩ : Just)).flatMap jC)⟩, e, f, g, i]) := fun a b c d e f g i => by
      rw [mk_justs (by omega)]; rfl
    have g5 : ∀ a b c' d e f g, frzC (.ptr 1 33 1) [a, ⟨1, some (cC c.d S (.sl 4 0 (k + 1) (k + 1) 2 1))⟩, b, c', ⟨1, some ((List.replicate (k + 1) (⟨0, 0⟩ : Just)).flatMap jC)⟩, d, e, f, g] = some [a, ⟨1, some (cC c.d S (justsV (List.replicate (k + 1) ⟨0, 0⟩)))⟩, b, c', ⟨2, none⟩, d, e, f, g] := fun a b c' d e f g => by
      have hfr := frz_justs (js := List.replicate (k + 1) (⟨0, 0⟩ : Just)) (k := 4) (c := k + 1) (st := 1) (h := [a, ⟨1, some (cC c.d S (.sl 4 0 (k + 1) (k + 1) 2 1))⟩, b, c', ⟨1, some ((List.replicate (k + 1) (⟨0, 0⟩ : Just)).flatMap jC)⟩, d, e, f, g]) (by simp)
      rw [List.length_replicate] at hfr
      rw [frzC_at (cs := cC c.d S (.sl 4 0 (k + 1) (k + 1) 2 1)) (by simp) (cC_33 hd _ _) hfr (by simp), cC_set33 hd]
      rfl
    obtain ⟨R, hR⟩ : ∃ R, R = List.replicate (k + 1) (⟨0, 0⟩ : Just) := ⟨_, rfl⟩
    obtain ⟨k1, hk1⟩ : ∃ k1, k1 = k + 1 := ⟨_, rfl⟩
    rw [← hR] at hck1 gmk g5
    rw [← hk1] at gmk g5 hadd
    have hq1 : aggEq .neq 3 [(0, 0), (1, 0), (2, 0)] (fltV f1) (fltV (-1, -1, 1)) = some (.bool false) := by rw [hfq, hf1]; rfl
    rcases z3 with z3 | z3
    · have z3 := eq_true z3
      simp -implicitDefEqProofs [-boxV_fz, -faV_fz, -stV_ptr, -ldV_ptr, -frzP_ptr, law20_CheckFirst_B, Prg.box, Cert.box hd, Cert.fits hd, haw, hsm', hsp, hfe', hfc, hdg, rep32, g0, g0', he, gld, gldp, hcz, g1, hfill, g2, gfa, g3, g4', gfp, hadd, gmk, cmds.faV', g5, g6, hck1, g7, g7', hb1, hq1, g8, ld_digV hDl, g8', iaA, g9, l1, g9', g10, hck2, g11, g11', gff1, gff2, flt_fa, z1, z2, z3]
    · have z4 := eq_false (show ¬ f2.2.2 = 1 by omega)
      have z3 := eq_true z3
      simp -implicitDefEqProofs [-boxV_fz, -faV_fz, -stV_ptr, -ldV_ptr, -frzP_ptr, law20_CheckFirst_B, Prg.box, Cert.box hd, Cert.fits hd, haw, hsm', hsp, hfe', hfc, hdg, rep32, g0, g0', he, gld, gldp, hcz, g1, hfill, g2, gfa, g3, g4', gfp, hadd, gmk, cmds.faV', g5, g6, hck1, g7, g7', hb1, hq1, g8, ld_digV hDl, g8', iaA, g9, l1, g9', g10, hck2, g11, g11', gff1, gff2, flt_fa, z1, z2, z3, z4]
end Mini
end
section
namespace Mini
open Go
set_option linter.unusedSimpArgs false
set_option linter.unusedVariables false
/-! ### the certificate that tells nothing -/
def lessS (F : List Node) : Sect := ⟨0#32, 0#32, List.replicate F.length 0#32, 511#32, 511#32, List.replicate F.length 511#32⟩
def lessL (p : Prg) : List Sect := p.fs.map lessS
def lessJ (p : Prg) : List Just := List.replicate p.g.toNat ⟨0, 0⟩
def lessC (p : Prg) : Cert := ⟨digP p, lessL p, lessJ p⟩
def touchN (x : Node) : Bool := decide (x.kind = 1) || decide (x.kind = 2)
def touchesP (p : Prg) : Bool := p.fs.any fun F => F.any touchN
theorem inS_zero (x : BitVec 32) : inS 0#32 x = true := by simp [inS]
theorem rep_get0 (n i : Nat) : (List.replicate n 0#32)[i]?.getD 0#32 = 0#32 := by
  rw [List.getElem?_replicate]
  split <;> rfl
theorem rep_get511 {n i : Nat} (h : i < n) : (List.replicate n 511#32)[i]?.getD 0#32 = 511#32 := by
  rw [List.getElem?_replicate, if_pos h]
  rfl
theorem inS_511 {x : BitVec 32} (h : ∀ i, x.getLsbD i = true → i < 9) : inS x 511#32 = true := by
  have : x &&& ~~~511#32 = 0#32 := by
    apply BitVec.eq_of_getLsbD_eq
    intro i hi
    simp only [BitVec.getLsbD_and, BitVec.getLsbD_not, BitVec.getLsbD_zero]
    cases hx : x.getLsbD i
    · rfl
    · have h9 := h i hx
      have : ∀ j < 9, (511#32).getLsbD j = true := by decide
      simp [this i h9]
  exact decide_eq_true this
theorem one_lt9 {a : Int} {i : Nat} (h : (one a).getLsbD i = true) : (i : Int) = a := by
  unfold one at h
  split at h
  · rename_i ha
    rw [BitVec.getLsbD_shiftLeft] at h
    simp at h
    omega
  · simp at h
theorem less_shaped (p : Prg) : shaped p (lessL p) = true := by
  simp only [shaped, Bool.and_eq_true, decide_eq_true_eq, List.all_eq_true, List.mem_range, shapedAt]
  refine ⟨by simp [lessL], fun i hi => ?_⟩
  have hi' : i < p.fs.length := by simpa [lessL] using hi
  simp [lessL, hi', lessS]
theorem less_get {p : Prg} {f : Nat} {F : List Node} (hF : p.fs[f]? = some F) : (lessL p)[f]? = some (lessS F) := by simp [lessL, hF]
theorem less_must {p : Prg} (un : List (BitVec 32)) (h3 : ∀ l ∈ p.fs, 0 < l.length ∧ l.length ≤ 64 ∧ ∀ x ∈ l, mayN p x l.length = true) : mustF p (lessL p) un = (0, 0, 0) := by
  have key : ∀ f < (lessL p).length, mustAt ⟨p, lessL p, un, begunP p ||| one 0⟩ f = none := by
    intro f hf
    have hf' : f < p.fs.length := by simpa [lessL] using hf
    obtain ⟨F, hF, hm⟩ := getE hf'
    have hs := less_get hF
    have hb : ∀ i < F.length, badH ⟨p, lessL p, un, begunP p ||| one 0⟩ f i = none := by
      intro i hi
      obtain ⟨x, hx, hxm⟩ := getE hi
      have hmay := (h3 F hm).2.2 x hxm
      have : nodeH ⟨p, lessL p, un, begunP p ||| one 0⟩ f i = 0 := by
        simp only [nodeH, List.getD_eq_getElem?_getD, hF, hs, Option.getD_some, hx]
        have e1 : (lessS F).held[i]?.getD 0#32 = 0#32 := rep_get0 _ _
        have e2 : ∀ t : Int, (lessS F).held[t.toNat]?.getD 0#32 = 0#32 := fun t => rep_get0 _ _
        have e3 : (lessS F).exit = 0#32 := rfl
        have e4 : x.kind = 7 → ((lessL p)[x.arg.toNat]?.getD default).entry = 0#32 := by
          intro h7
          obtain ⟨a1, a2⟩ := may_arg hmay (.inl h7)
          obtain ⟨k, hk, hkl⟩ := natI a1 a2
          obtain ⟨G, hG, _⟩ := getE (l := p.fs) (i := k) (by omega)
          rw [hk]
          simp [less_get hG]
          rfl
        rw [if_neg (fun h => by rw [e4 h.1, inS_zero] at h; simp at h), if_neg (fun h => by rw [e3, inS_zero] at h; simp at h), if_pos]
        rw [List.all_eq_true]
        intro t _
        rw [e2, inS_zero]
      simp [badH, this]
    have hfun : (funH ⟨p, lessL p, un, begunP p ||| one 0⟩ f).2 = 0 := by
      simp only [funH, List.getD_eq_getElem?_getD, hs, hF, Option.getD_some]
      have e0 : (lessS F).entry = 0#32 := rfl
      have e1 : (lessS F).held[0]?.getD 0#32 = 0#32 := rep_get0 _ _
      rw [e0, e1, inS_zero, firstN_miss hb]
      simp
    simp [mustAt, hfun]
  unfold mustF
  rw [less_shaped, if_neg (by simp), firstN_miss key]
  rfl
theorem less_live {p : Prg} (m : BitVec 32) (hs0 : 0 ≤ p.s ∧ p.s ≤ 8) (h3 : ∀ l ∈ p.fs, 0 < l.length ∧ l.length ≤ 64 ∧ ∀ x ∈ l, mayN p x l.length = true) : liveF p (lessL p) m = (0, 0, 0) := by
  have key : ∀ f < (lessL p).length, liveAt ⟨p, lessL p, m⟩ f = none := by
    intro f hf
    have hf' : f < p.fs.length := by simpa [lessL] using hf
    obtain ⟨F, hF, hm⟩ := getE hf'
    have hs := less_get hF
    obtain ⟨k1, k2, k3⟩ := h3 F hm
    have hb : ∀ i < F.length, liveN ⟨p, lessL p, m⟩ f i = none := by
      intro i hi
      obtain ⟨x, hx, hxm⟩ := getE hi
      have hmay := k3 x hxm
      have : nodeL ⟨p, lessL p, m⟩ f i = 0 := by
        simp only [nodeL, hF, hs, Option.getD_some, hx]
        have e1 : (lessS F).live[i]?.getD 0#32 = 511#32 := rep_get511 hi
        have e3 : (lessS F).lexit = 511#32 := rfl
        have e4 : x.kind = 7 ∨ x.kind = 5 → ((lessL p)[x.arg.toNat]?.getD default).lentry = 511#32 ∧ ((lessL p)[x.arg.toNat]?.getD default).lexit = 511#32 := by
          intro h7
          obtain ⟨a1, a2⟩ := may_arg hmay h7
          obtain ⟨k, hk, hkl⟩ := natI a1 a2
          obtain ⟨G, hG, _⟩ := getE (l := p.fs) (i := k) (by omega)
          rw [hk]
          simp [less_get hG]
          exact ⟨rfl, rfl⟩
        have e511 : inS 511#32 511#32 = true := by decide
        rw [e1, if_neg (fun h => by rw [(e4 (.inl h.1)).1, e511] at h; simp at h), if_neg (fun h => by rw [e3, e511] at h; simp at h), if_neg, if_pos]
        · rw [List.all_eq_true]
          intro t ht
          obtain ⟨t0, t1⟩ := may_succ hmay k1 t ht
          obtain ⟨k, hk, hkl⟩ := natI t0 t1
          have e5 : (lessS F).live[t.toNat]?.getD 0#32 = 511#32 := by rw [hk]; exact rep_get511 (by simpa using hkl)
          unfold okL
          rw [e5]
          refine inS_511 fun j hj => ?_
          have b511 : ∀ j, (511#32).getLsbD j = true → j < 9 := by
            intro j hj
            by_cases h32 : j < 32
            · have : ∀ j < 32, (511#32).getLsbD j = true → j < 9 := by decide
              exact this j h32 hj
            · rw [BitVec.getLsbD_of_ge _ _ (by omega)] at hj
              simp at hj
          unfold behindL at hj
          split at hj
          · rename_i h5
            have ha : 0 ≤ x.alt ∧ x.alt < max p.s 1 := by
              have := hmay
              simp [mayN, fieldsN, h5, within] at this
              omega
            split at hj
            · simp only [BitVec.getLsbD_or, Bool.or_eq_true] at hj
              rcases hj with (hj | hj) | hj
              · exact b511 j hj
              · have := one_lt9 hj; omega
              · have : (j : Int) = p.s := one_lt9 hj
                omega
            · simp only [BitVec.getLsbD_or, Bool.or_eq_true] at hj
              rcases hj with hj | hj
              · exact b511 j hj
              · have := one_lt9 hj; omega
          · split at hj
            · simp only [BitVec.getLsbD_and, Bool.and_eq_true] at hj
              exact b511 j hj.1
            · split at hj
              · rename_i h7
                simp only [exitL, h7, if_true] at hj
                rw [(e4 (.inl h7)).2] at hj
                exact b511 j hj
              · exact b511 j hj
        · rintro ⟨h5, h⟩
          rw [(e4 (.inr h5)).1] at h
          have : ∀ k : Nat, k ≤ 8 → hasS 511#32 (k : Int) = true := by decide
          obtain ⟨k, hk⟩ := Int.eq_ofNat_of_zero_le hs0.1
          have h8 := this k (by omega)
          rw [← hk] at h8
          rw [h8] at h
          simp at h
      simp [liveN, this]
    simp only [liveAt, hs, hF, Option.getD_some]
    have e1 : (lessS F).live[0]?.getD 0#32 = 511#32 := rep_get511 k1
    have e2 : (lessS F).lentry = 511#32 := rfl
    have e511 : inS 511#32 511#32 = true := by decide
    rw [e1, e2, e511, firstN_miss hb]
    simp
  unfold liveF
  rw [less_shaped, if_neg (by simp), firstN_miss key]
  rfl
theorem less_guard {p : Prg} (hg : 0 ≤ p.g) (h3 : ∀ l ∈ p.fs, 0 < l.length ∧ l.length ≤ 64 ∧ ∀ x ∈ l, mayN p x l.length = true) : okF3 (guardF p (lessL p) (lessJ p)) = !touchesP p := by
  have hj : ((lessJ p).length : Int) = p.g := by simp [lessJ]; omega
  have hr : firstN (rightN (lessJ p) p.l) (lessJ p).length 0 = none := firstN_miss fun i hi => by
    have : (lessJ p)[i]?.getD default = ⟨0, 0⟩ := by
      unfold lessJ
      rw [List.getElem?_replicate]
      split <;> rfl
    simp [rightN, this, rightJ]
  have hok : ∀ (f : Nat) F, p.fs[f]? = some F → ∀ (i : Nat) x, F[i]? = some x → okG (lessL p) (lessJ p) f i x = !touchN x := by
    intro f F hF i x hx
    have hi := (List.getElem?_eq_some_iff.1 hx).1
    have hs := less_get hF
    have e1 : (lessS F).live[i]?.getD 0#32 = 511#32 := rep_get511 hi
    have e2 : soloS (lessS F) i = false := by
      have : (lessS F).live.getD i 0#32 = 511#32 := by rw [List.getD_eq_getElem?_getD]; exact e1
      simp only [soloS, Int.toNat_natCast, this]
      simp
    have e3 : (lessJ p)[x.arg.toNat]?.getD default = ⟨0, 0⟩ := by
      unfold lessJ
      rw [List.getElem?_replicate]
      split <;> rfl
    simp only [okG, hs, Option.getD_some, e1, e2, e3]
    by_cases h1 : x.kind = 1
    · simp [h1, touchN, holdsJ]
    · by_cases h2 : x.kind = 2 <;> simp [h1, h2, touchN, holdsJ]
  unfold guardF
  rw [less_shaped, if_neg (by simp [hj]), hr]
  simp only
  cases ht : touchesP p
  · have : firstN (fun f => firstN (guardN p (lessL p) (lessJ p) f) (p.fs[f]?.getD []).length 0) p.fs.length 0 = none := firstN_miss fun f hf => by
      obtain ⟨F, hF, hm⟩ := getE hf
      rw [hF]
      refine firstN_miss fun i hi => ?_
      obtain ⟨x, hx, hxm⟩ := getE hi
      have hnt : touchN x = false := by
        cases h : touchN x
        · rfl
        · have : touchesP p = true := List.any_eq_true.2 ⟨F, hm, List.any_eq_true.2 ⟨x, hxm, h⟩⟩
          rw [ht] at this
          exact absurd this (by simp)
      have hx' : F[i]?.getD default = x := by
        have : F[i]? = some x := hx
        rw [this]; rfl
      simp only [guardN, hF, Option.getD_some, hx']
      rw [hok f F hF i x hx, hnt]
      rfl
    rw [this]
    rfl
  · cases hfn : firstN (fun f => firstN (guardN p (lessL p) (lessJ p) f) (p.fs[f]?.getD []).length 0) p.fs.length 0 with
    | none =>
      obtain ⟨F, hm, h⟩ := List.any_eq_true.1 ht
      obtain ⟨x, hxm, hx⟩ := List.any_eq_true.1 h
      obtain ⟨f, hf, rfl⟩ := List.getElem_of_mem hm
      obtain ⟨i, hi, rfl⟩ := List.getElem_of_mem hxm
      have hF : p.fs[f]? = some p.fs[f] := by simp
      have hX : p.fs[f][i]? = some p.fs[f][i] := by simp
      have h1 := firstN_none hfn f (by omega) (by omega)
      rw [hF] at h1
      have h2 := firstN_none h1 i (by omega) (by simpa using hi)
      simp only [guardN, hF, Option.getD_some, hX] at h2
      rw [hok f _ hF i _ hX, hx] at h2
      simp at h2
    | some r =>
      obtain ⟨f, _, _, _, h1⟩ := firstN_some hfn
      obtain ⟨i, _, _, _, h2⟩ := firstN_some h1
      unfold guardN at h2
      split at h2
      · simp at h2
      · have := Option.some.inj h2
        subst this
        rfl
theorem less_ok {p : Prg} (un : List (BitVec 32)) (m : BitVec 32) (he : errP p = 0) : okF3 (checkF p (lessC p) un m) = !touchesP p := by
  obtain ⟨⟨g0, _, _, _, s0, s8, _, _⟩, h3, _⟩ := errP_zero he
  have hj : ((lessC p).js.length : Int) = p.g := by show ((lessJ p).length : Int) = _; simp [lessJ]; omega
  have h1 : shapeF p (lessC p) = (0, 0, 0) := by
    unfold shapeF
    have : shaped p (lessC p).l = true := less_shaped p
    rw [if_neg (by simp [this, hj])]
  have h2 : boundF p (lessC p) = (0, 0, 0) := by simp [boundF, lessC]
  have e1 : mustF p (lessC p).l un = (0, 0, 0) := less_must un h3
  have e2 : liveF p (lessC p).l m = (0, 0, 0) := less_live m ⟨s0, s8⟩ h3
  have e3 : okF3 (guardF p (lessC p).l (lessC p).js) = !touchesP p := less_guard g0 h3
  unfold checkF faultsF
  rw [h1, h2, e1, e2, ← e3]
  obtain ⟨r, hr⟩ : ∃ r, r = guardF p (lessC p).l (lessC p).js := ⟨_, rfl⟩
  rw [← hr]
  unfold firstF okF3
  by_cases h : r.2.2 = 0
  · simp [h]
  · simp [h]
end Mini
end
section
namespace Mini
open Go
set_option linter.unusedSimpArgs false
set_option linter.unusedVariables false
theorem okc_fits {x : V} (hx : x.okCell = true) : fitsV 0 x = true ∧ x.cells = [x] ∧ x.isAgg = false := by cases x <;> first | exact ⟨rfl, rfl, rfl⟩ | (simp [V.okCell] at hx)
theorem promC_at {cs : List V} {k off st id sz : Nat} {h : Heap} (hc : cellsAt h k st = some cs) (ho : cs[off]? = some .nils) (hk : k ≠ id) :
    promC (.ptr k off st) id sz h = some (hset (newS id [] h) k ⟨st, some (cs.set off (slTo id 0 sz h))⟩) := by
  obtain ⟨h2, _⟩ := List.getElem?_eq_some_iff.1 ho
  have := put_map (fun v : V => v) (l := cs) (i := off) (a := slTo id 0 sz h) h2
  simp only [List.map_id_fun', id_eq] at this
  simp only [promC, hc, Option.bind_some, ho, if_neg hk, this]
theorem frz_row0 {α : Type} (f : α → V) (hf : ∀ x h, frzV 7 (f x) h = some (f x, h)) (ha : ∀ x, (f x).isAgg = false) {l : List α} {k c st : Nat} {h : Heap} (hc : cellsAt h k st = some (l.map f)) :
    frzV 8 (.sl k 0 l.length c 0 st) h = some (.vec (l.map f), kill h k) := by
  have ho : okE 0 (l.map f) = true := by simp [okE, ha]
  have : (l.map f).take l.length = l.map f := by rw [List.take_of_length_le (by simp)]
  rw [frzV_sl, hc]
  simp [frzL_map f 7 hf, elems_map, ho, this]
theorem src_one {x : V} (hx : x.okCell = true) (h : Heap) : srcV 0 (.vec [x]) h = some (1, [x]) := by
  obtain ⟨h1, h2, h3⟩ := okc_fits hx
  simp [srcV, h1, h2]
/-- A section's cells. -/
def sC (x y : V) : List V := [u32 0#32, u32 0#32, x, u32 511#32, u32 511#32, y]
theorem less_L1 (n : Nat) (p : Prg) (f : Nat) (F : List Node) (hF : p.fs[f]? = some F) (hFl : F.length ≤ 100) (t : Bool) (b : Nat) {N : St → Prop} {X : Out → Prop} {s : St}
    (z0 z1 z2 z4 z5 z6 z7 z8 z9 z10 : Slot)
    (hI : ∃ a a', At s [(1, .fz p.v), (5, .ptr 2 0 1), (6, .bool t), (7, i64 f), (8, .ptr 3 0 b), (9, i64 0)] [z0, z1, z2, ⟨b, some (sC (.sl 11 0 0 0 0 a) (.sl 12 0 0 0 0 a'))⟩, z4, z5, z6, z7, z8, z9, z10, ⟨a, some []⟩, ⟨a', some []⟩])
    (hX : ∀ s a a', At s [(1, .fz p.v), (5, .ptr 2 0 1), (6, .bool (t || F.any touchN)), (7, i64 f), (8, .ptr 3 0 b)] [z0, z1, z2, ⟨b, some (sC (.sl 11 0 F.length F.length 0 a) (.sl 12 0 F.length F.length 0 a'))⟩, z4, z5, z6, z7, z8, z9, z10, ⟨a, some ((List.replicate F.length 0#32).map u32)⟩, ⟨a', some ((List.replicate F.length 511#32).map u32)⟩] → X (.exit 2 s)) :
    W (lpC (law20_CheckLess_L1 n) s) N X := by
  refine W_up F.length (fun i s => ∃ a a', At s [(1, .fz p.v), (5, .ptr 2 0 1), (6, .bool (t || (F.take i).any touchN)), (7, i64 f), (8, .ptr 3 0 b), (9, i64 i)] [z0, z1, z2, ⟨b, some (sC (.sl 11 0 i i 0 a) (.sl 12 0 i i 0 a'))⟩, z4, z5, z6, z7, z8, z9, z10, ⟨a, some ((List.replicate i 0#32).map u32)⟩, ⟨a', some ((List.replicate i 511#32).map u32)⟩]) ?_ ?_ (Nat.zero_le _) (by
    obtain ⟨a, a', h⟩ := hI
    exact ⟨a, a', by simpa using h⟩)
  · rintro i s hi ⟨a, a', hs⟩
    have ha := i64_inc hi (by omega)
    obtain ⟨x, hx, hxm⟩ := getE hi
    have hany : (t || (F.take (i + 1)).any touchN) = ((t || (F.take i).any touchN) || touchN x) := by
      have : F.take (i + 1) = F.take i ++ [x] := by rw [List.take_add_one, hx]; rfl
      rw [this, List.any_append]
      simp [Bool.or_assoc]
    rw [hany]
    obtain ⟨T, hT⟩ : ∃ T, T = (t || (F.take i).any touchN) := ⟨_, rfl⟩
    rw [← hT] at hs ⊢
    have hr1 : ∀ c : BitVec 32, (List.replicate i c).map u32 ++ [u32 c] = (List.replicate (i + 1) c).map u32 := fun c => by
      rw [← List.map_singleton, ← List.map_append, List.replicate_succ']
    obtain ⟨R, hR⟩ : ∃ R, R = (List.replicate i 0#32).map u32 := ⟨_, rfl⟩
    obtain ⟨Q, hQ⟩ : ∃ Q, Q = (List.replicate i 511#32).map u32 := ⟨_, rfl⟩
    have hRl : R.length = i * csz 0 := by rw [hR]; simp
    have hQl : Q.length = i * csz 0 := by rw [hQ]; simp
    have m1 : ∀ x y c d, ldV 0 (.ptr 3 2 b) [z0, z1, z2, ⟨b, some (sC (.sl 11 0 x x 0 c) y)⟩, z4, z5, z6, z7, z8, z9, z10, ⟨d, some R⟩, ⟨a', some Q⟩] = some (.sl 11 0 x x 0 c) := fun _ _ _ _ => by simp [sC]
    have m2 : ∀ y, appV (some 4) 17592186044416 0 (.sl 11 0 i i 0 a) (.vec [u32 0#32]) [z0, z1, z2, y, z4, z5, z6, z7, z8, z9, z10, ⟨a, some R⟩, ⟨a', some Q⟩] =
        some (.sl 11 0 (i + 1) (i + 1) 0 (a + 1), [z0, z1, z2, y, z4, z5, z6, z7, z8, z9, z10, ⟨a + 1, some (R ++ [u32 0#32])⟩, ⟨a', some Q⟩]) := fun y => by
      rw [app_rowsS (id := 4) (m := 1) (src_one rfl _) rfl (by omega) (by simp) hRl (by omega)]
      simp
    have m3 : ∀ x y x' c1 c2, x'.okCell = true → stV 0 (.ptr 3 2 b) x' [z0, z1, z2, ⟨b, some (sC x y)⟩, z4, z5, z6, z7, z8, z9, z10, c1, c2] = some [z0, z1, z2, ⟨b, some (sC x' y)⟩, z4, z5, z6, z7, z8, z9, z10, c1, c2] := fun x y x' c1 c2 hx => by
      obtain ⟨h1, h2, h3⟩ := okc_fits hx
      rw [st_set (cs := sC x y) h1 hx h2 (by simp) (by simp [sC])]
      simp [sC]
    have m4 : ∀ x y c1 c2, y.okCell = true → ldV 0 (.ptr 3 5 b) [z0, z1, z2, ⟨b, some (sC x y)⟩, z4, z5, z6, z7, z8, z9, z10, c1, c2] = some y := fun x y c1 c2 hy => by
      obtain ⟨h1, h2, h3⟩ := okc_fits hy
      simp [sC, h3]
    have m5 : ∀ y w, appV (some 5) 17592186044416 0 (.sl 12 0 i i 0 a') (.vec [u32 511#32]) [z0, z1, z2, y, z4, z5, z6, z7, z8, z9, z10, w, ⟨a', some Q⟩] =
        some (.sl 12 0 (i + 1) (i + 1) 0 (a' + 1), [z0, z1, z2, y, z4, z5, z6, z7, z8, z9, z10, w, ⟨a' + 1, some (Q ++ [u32 511#32])⟩]) := fun y w => by
      rw [app_rowsS (id := 5) (m := 1) (src_one rfl _) rfl (by omega) (by simp) hQl (by omega)]
      simp
    have m6 : ∀ x y y' c1 c2, y'.okCell = true → stV 0 (.ptr 3 5 b) y' [z0, z1, z2, ⟨b, some (sC x y)⟩, z4, z5, z6, z7, z8, z9, z10, c1, c2] = some [z0, z1, z2, ⟨b, some (sC x y')⟩, z4, z5, z6, z7, z8, z9, z10, c1, c2] := fun x y y' c1 c2 hx => by
      obtain ⟨h1, h2, h3⟩ := okc_fits hx
      rw [st_set (cs := sC x y) h1 hx h2 (by simp) (by simp [sC])]
      simp [sC]
    have q0 : ∀ h, (((fillV (rep 1 [u32 0#32]) [(0, 0, u32 0#32)]).bind fun cs => newSl none 1 0 cs h)) = some (.vec [u32 0#32], h) := fun _ => rfl
    have q1 : ∀ h, (((fillV (rep 1 [u32 0#32]) [(0, 0, V.int .u32 511)]).bind fun cs => newSl none 1 0 cs h)) = some (.vec [u32 511#32], h) := fun _ => rfl
    rw [← hr1, ← hr1, ← hR, ← hQ]
    rw [← hR, ← hQ] at hs
    simp at hs
    cases T
    · by_cases h1 : x.kind = 1
      · have d1 := eq_true h1
        simp -implicitDefEqProofs [-ldV_ptr, -stV_ptr, law20_CheckLess_L1, hs, hi, ia_funcsE hF, ia_nodesE hx, q0, q1, m1, m2, m3, m4, m5, m6, d1, ha, touchN]
      · have d1 := eq_false h1
        by_cases h2 : x.kind = 2
        · have d2 := eq_true h2
          simp -implicitDefEqProofs [-ldV_ptr, -stV_ptr, law20_CheckLess_L1, hs, hi, ia_funcsE hF, ia_nodesE hx, q0, q1, m1, m2, m3, m4, m5, m6, d1, d2, ha, touchN]
        · have d2 := eq_false h2
          simp -implicitDefEqProofs [-ldV_ptr, -stV_ptr, law20_CheckLess_L1, hs, hi, ia_funcsE hF, ia_nodesE hx, q0, q1, m1, m2, m3, m4, m5, m6, d1, d2, ha, touchN]
    · simp -implicitDefEqProofs [-ldV_ptr, -stV_ptr, law20_CheckLess_L1, hs, hi, ia_funcsE hF, ia_nodesE hx, q0, q1, m1, m2, m3, m4, m5, m6, ha, touchN]
  · rintro s ⟨a, a', hs⟩
    rw [List.take_length] at hs
    have hx := hX
    obtain ⟨R, hR⟩ : ∃ R, R = (List.replicate F.length 0#32).map u32 := ⟨_, rfl⟩
    obtain ⟨Q, hQ⟩ : ∃ Q, Q = (List.replicate F.length 511#32).map u32 := ⟨_, rfl⟩
    rw [← hR, ← hQ] at hs
    simp at hs
    simp -implicitDefEqProofs [-ldV_ptr, -stV_ptr, law20_CheckLess_L1, hs, ia_funcsE hF]
    refine hX _ a a' ?_
    rw [← hR, ← hQ]
    simp
def sectC (F : List Node) : List V := sC (setsV (List.replicate F.length 0#32)) (setsV (List.replicate F.length 511#32))
theorem sectC_fold (F : List Node) : V.agg (sectC F) = (lessS F).v := rfl
theorem sectC_frz : ∀ (F : List Node), ∀ v ∈ sectC F, ∀ h, frzV 7 v h = some (v, h) := by
  intro F v hv h
  simp only [sectC, sC, List.mem_cons, List.not_mem_nil, or_false] at hv
  rcases hv with rfl | rfl | rfl | rfl | rfl | rfl <;> rfl
theorem less_sects (p : Prg) : V.vec (p.fs.map fun F => .agg (sectC F)) = sectsV (lessL p) := by
  simp only [sectsV, lessL, List.map_map]
  rfl
theorem src_sect (F : List Node) (h : Heap) : srcV 6 (.vec [.agg (sectC F)]) h = some (1, sectC F) := by
  simp [srcV, sectC, sC]
/-- Heap at the outer loop's head. -/
def HO (D : List (BitVec 8)) (J x : V) (z0 z1 z3 z4 z5 z6 z7 z8 z9 z10 z11 z12 : Slot) : Heap := [z0, z1, ⟨1, some (cC D x J)⟩, z3, z4, z5, z6, z7, z8, z9, z10, z11, z12]
theorem less_L0 (n : Nat) (p : Prg) (D : List (BitVec 8)) (hD : D.length = 32) (J : V) (hJ : J.okCell = true) (h3 : ∀ l ∈ p.fs, l.length ≤ 100) (hN : p.fs.length ≤ 100) {N : St → Prop} {X : Out → Prop} {s : St}
    (z0 z1 z4 z5 z6 z7 z8 z9 : Slot) (a0 : Nat)
    (hI : ∃ z3 z11 z12, At s [(1, .fz p.v), (5, .ptr 2 0 1), (6, .bool false), (7, i64 0)] [z0, z1, ⟨1, some (cC D (.sl 10 0 0 0 6 a0) J)⟩, z3, z4, z5, z6, z7, z8, z9, ⟨a0, some []⟩, z11, z12])
    (hX : ∀ s a z3 z11 z12, At s [(1, .fz p.v), (5, .ptr 2 0 1), (6, .bool (touchesP p))] [z0, z1, ⟨1, some (cC D (.sl 10 0 p.fs.length p.fs.length 6 a) J)⟩, z3, z4, z5, z6, z7, z8, z9, ⟨a, some (p.fs.flatMap sectC)⟩, z11, z12] → X (.exit 0 s)) :
    W (lpC (law20_CheckLess_L0 n) s) N X := by
  refine W_up p.fs.length (fun f s => ∃ a z3 z11 z12, At s [(1, .fz p.v), (5, .ptr 2 0 1), (6, .bool ((p.fs.take f).any fun F => F.any touchN)), (7, i64 f)] [z0, z1, ⟨1, some (cC D (.sl 10 0 f f 6 a) J)⟩, z3, z4, z5, z6, z7, z8, z9, ⟨a, some ((p.fs.take f).flatMap sectC)⟩, z11, z12]) ?_ ?_ (Nat.zero_le _) (by
    obtain ⟨z3, z11, z12, h⟩ := hI
    exact ⟨a0, z3, z11, z12, by simpa using h⟩)
  · rintro f s hf ⟨a, z3, z11, z12, hs⟩
    have ha := i64_inc hf (by omega)
    obtain ⟨F, hF, hFm⟩ := getE hf
    have hFl := h3 F hFm
    have htake : p.fs.take (f + 1) = p.fs.take f ++ [F] := by rw [List.take_add_one, hF]; rfl
    have hany : ((p.fs.take (f + 1)).any fun F => F.any touchN) = (((p.fs.take f).any fun F => F.any touchN) || F.any touchN) := by rw [htake, List.any_append]; simp
    have hfl : (p.fs.take (f + 1)).flatMap sectC = (p.fs.take f).flatMap sectC ++ sectC F := by rw [htake, List.flatMap_append]; simp
    have hTl : ((p.fs.take f).flatMap sectC).length = f * csz 6 := by
      rw [flat_length sectC 6 (fun _ => rfl)]
      simp
      omega
    rw [hany, hfl]
    obtain ⟨T, hT⟩ : ∃ T, T = ((p.fs.take f).any fun F => F.any touchN) := ⟨_, rfl⟩
    obtain ⟨R, hR⟩ : ∃ R, R = (p.fs.take f).flatMap sectC := ⟨_, rfl⟩
    rw [← hT, ← hR] at hs ⊢
    rw [← hR] at hTl
    clear hT hR hany hfl htake
    obtain ⟨t3, c3⟩ := z3
    obtain ⟨t11, c11⟩ := z11
    obtain ⟨t12, c12⟩ := z12
    have o0 : buildV [u32 0#32, u32 0#32, .nils, u32 0#32, u32 0#32, .nils] [(3, 0, V.int .u32 511), (4, 0, V.int .u32 511)] = some (.agg (sC .nils .nils)) := rfl
    have o1 : ∀ x y z, allocV (some 3) 6 [u32 0#32, u32 0#32, .nils, u32 0#32, u32 0#32, .nils] [z0, z1, x, ⟨t3, c3⟩, z4, z5, z6, z7, z8, z9, y, ⟨t11, c11⟩, z] = some (.ptr 3 0 (t3 + 1), [z0, z1, x, ⟨t3 + 1, some [u32 0#32, u32 0#32, .nils, u32 0#32, u32 0#32, .nils]⟩, z4, z5, z6, z7, z8, z9, y, ⟨t11, c11⟩, z]) := fun _ _ _ => rfl
    obtain ⟨b, hb⟩ : ∃ b, b = t3 + 1 := ⟨_, rfl⟩
    rw [← hb] at o1
    have o2 : ∀ x y z w, stV 6 (.ptr 3 0 b) (.agg (sC .nils .nils)) [z0, z1, x, ⟨b, some [u32 0#32, u32 0#32, .nils, u32 0#32, u32 0#32, .nils]⟩, z4, z5, z6, z7, z8, z9, y, z, w] = some [z0, z1, x, ⟨b, some (sC .nils .nils)⟩, z4, z5, z6, z7, z8, z9, y, z, w] := fun x y z w => by
      simp [sC]
    have o4 : ∀ x y z w, promC (.ptr 3 2 b) 11 0 [z0, z1, x, ⟨b, some (sC .nils y)⟩, z4, z5, z6, z7, z8, z9, z, ⟨t11, c11⟩, w] = some [z0, z1, x, ⟨b, some (sC (.sl 11 0 0 0 0 (t11 + 1)) y)⟩, z4, z5, z6, z7, z8, z9, z, ⟨t11 + 1, some []⟩, w] := fun x y z w => by
      rw [promC_at (cs := sC .nils y) (by simp) rfl (by omega)]
      rfl
    have o5 : ∀ x y z w, promC (.ptr 3 5 b) 12 0 [z0, z1, x, ⟨b, some (sC y .nils)⟩, z4, z5, z6, z7, z8, z9, z, w, ⟨t12, c12⟩] = some [z0, z1, x, ⟨b, some (sC y (.sl 12 0 0 0 0 (t12 + 1)))⟩, z4, z5, z6, z7, z8, z9, z, w, ⟨t12 + 1, some []⟩] := fun x y z w => by
      rw [promC_at (cs := sC y .nils) (by simp) rfl (by omega)]
      rfl
    obtain ⟨l0, hl0⟩ : ∃ l, l = List.replicate F.length 0#32 := ⟨_, rfl⟩
    obtain ⟨l5, hl5⟩ : ∃ l, l = List.replicate F.length 511#32 := ⟨_, rfl⟩
    have hl0l : l0.length = F.length := by rw [hl0]; simp
    have hl5l : l5.length = F.length := by rw [hl5]; simp
    have hsc : sectC F = sC (setsV l0) (setsV l5) := by rw [hl0, hl5]; rfl
    have o7 : ∀ a1 x y w v, frzC (.ptr 3 2 b) [z0, z1, x, ⟨b, some (sC (.sl 11 0 F.length F.length 0 a1) y)⟩, z4, z5, z6, z7, z8, z9, w, ⟨a1, some (l0.map u32)⟩, v] = some [z0, z1, x, ⟨b, some (sC (setsV l0) y)⟩, z4, z5, z6, z7, z8, z9, w, ⟨a1 + 1, none⟩, v] := fun a1 x y w v => by
      have hfr := frz_row0 u32 (fun _ _ => rfl) (fun _ => rfl) (l := l0) (k := 11) (c := F.length) (st := a1) (h := [z0, z1, x, ⟨b, some (sC (.sl 11 0 F.length F.length 0 a1) y)⟩, z4, z5, z6, z7, z8, z9, w, ⟨a1, some (l0.map u32)⟩, v]) (by simp)
      rw [hl0l] at hfr
      rw [frzC_at (cs := sC (.sl 11 0 F.length F.length 0 a1) y) (by simp) rfl hfr (by simp)]
      rfl
    have o8 : ∀ a1 x y w v, frzC (.ptr 3 5 b) [z0, z1, x, ⟨b, some (sC y (.sl 12 0 F.length F.length 0 a1))⟩, z4, z5, z6, z7, z8, z9, w, v, ⟨a1, some (l5.map u32)⟩] = some [z0, z1, x, ⟨b, some (sC y (setsV l5))⟩, z4, z5, z6, z7, z8, z9, w, v, ⟨a1 + 1, none⟩] := fun a1 x y w v => by
      have hfr := frz_row0 u32 (fun _ _ => rfl) (fun _ => rfl) (l := l5) (k := 12) (c := F.length) (st := a1) (h := [z0, z1, x, ⟨b, some (sC y (.sl 12 0 F.length F.length 0 a1))⟩, z4, z5, z6, z7, z8, z9, w, v, ⟨a1, some (l5.map u32)⟩]) (by simp)
      rw [hl5l] at hfr
      rw [frzC_at (cs := sC y (.sl 12 0 F.length F.length 0 a1)) (by simp) rfl hfr (by simp)]
      rfl
    have o9 : ∀ x y z u, ldV 0 (.ptr 2 32 1) [z0, z1, ⟨1, some (cC D (.sl 10 0 f f 6 a) J)⟩, x, z4, z5, z6, z7, z8, z9, y, z, u] = some (.sl 10 0 f f 6 a) := fun x y z u => by
      rw [ldV_ptr, cellsAt_s, cellsAt_s, cellsAt_0, if_pos rfl, Option.bind_some, takeV_one, cC_32 hD]; rfl
    have o10 : ∀ x y z u, ldV 6 (.ptr 3 0 b) [z0, z1, x, ⟨b, some (sC (setsV l0) (setsV l5))⟩, z4, z5, z6, z7, z8, z9, y, z, u] = some (.agg (sectC F)) := fun x y z u => by
      rw [hsc]
      simp [sC]
    have o11 : ∀ h, ((fillV (rep 1 [u32 0#32, u32 0#32, V.nils, u32 0#32, u32 0#32, V.nils]) [(0, 6, .agg (sectC F))]).bind fun cs => newSl none 1 6 cs h) = some (.vec [.agg (sectC F)], h) := fun h => by
      rw [hsc]
      rfl
    have o12 : ∀ x y u v, appV (some 6) 1099511627776 6 (.sl 10 0 f f 6 a) (.vec [.agg (sectC F)]) [z0, z1, x, y, z4, z5, z6, z7, z8, z9, ⟨a, some R⟩, u, v] = some (.sl 10 0 (f + 1) (f + 1) 6 (a + 1), [z0, z1, x, y, z4, z5, z6, z7, z8, z9, ⟨a + 1, some (R ++ sectC F)⟩, u, v]) := fun x y u v => by
      rw [app_rowsS (id := 6) (m := 1) (src_sect F _) rfl (by omega) (by simp) hTl (by omega)]
      simp
    have o13 : ∀ x x' y z u v, x'.okCell = true → stV 0 (.ptr 2 32 1) x' [z0, z1, ⟨1, some (cC D x J)⟩, y, z4, z5, z6, z7, z8, z9, z, u, v] = some [z0, z1, ⟨1, some (cC D x' J)⟩, y, z4, z5, z6, z7, z8, z9, z, u, v] := fun x x' y z u v hx => by
      obtain ⟨h1, h2, h3⟩ := okc_fits hx
      rw [st_set (cs := cC D x J) h1 hx h2 (by simp) (by rw [cC_len hD]; omega), cC_set32 hD]
      simp
    have hok : ∀ k st c, (V.sl k 0 (f + 1) (f + 1) c st).okCell = true := fun _ _ _ => rfl
    simp at hs
    simp -implicitDefEqProofs [-ldV_ptr, -stV_ptr, -takeV_succ, -allocV, law20_CheckLess_L0, hs, hf, o0, o1, o2, cmds.faV', o4, o5]
    refine less_L1 n p f F hF hFl T b z0 z1 ⟨1, some (cC D (.sl 10 0 f f 6 a) J)⟩ z4 z5 z6 z7 z8 z9 ⟨a, some R⟩ ⟨t11 + 1, t12 + 1, by simp⟩ ?_
    rintro s a1 a2 hs2
    rw [← hl0, ← hl5] at hs2
    simp at hs2
    simp -implicitDefEqProofs [-ldV_ptr, -stV_ptr, -takeV_succ, -allocV, hs2, cmds.faV', o7, o8, o9, o10, o11, o12, o13, hok, ha]
  · rintro s ⟨a, z3, z11, z12, hs⟩
    rw [List.take_length] at hs
    obtain ⟨R, hR⟩ : ∃ R, R = p.fs.flatMap sectC := ⟨_, rfl⟩
    rw [← hR] at hs
    have hT : (p.fs.any fun F => F.any touchN) = touchesP p := rfl
    rw [hT] at hs
    simp at hs
    simp -implicitDefEqProofs [-ldV_ptr, -stV_ptr, law20_CheckLess_L0, hs]
    refine hX _ a z3 z11 z12 ?_
    rw [← hR]
    simp
end Mini
end
section
namespace Mini
open Go
set_option linter.unusedSimpArgs false
set_option linter.unusedVariables false
theorem buildC33 {D : List (BitVec 8)} (hD : D.length = 32) {x : V} (hx : x.okCell = true) : buildV (rep 32 [V.int .u8 0] ++ [.nils, .nils]) [(0, 32, digV D), (33, 0, x)] = some (.agg (cC D .nils x)) := by
  obtain ⟨hf, hcx, _⟩ := okc_fits hx
  rw [rep32]
  have e1 : putCells (z32L.map u8 ++ [V.nils, V.nils]) 0 (digV D).cells = cC D .nils .nils := by
    rw [cells_digV]
    have : List.drop 32 (z32L.map u8 ++ [V.nils, V.nils]) = [.nils, .nils] := rfl
    simp [cC, hD, this]
  have e2 : putCells (cC D .nils .nils) 33 [x] = cC D .nils x := by
    have := put_map (fun v : V => v) (l := cC D .nils .nils) (i := 33) (a := x) (by rw [cC_len hD]; omega)
    simp only [List.map_id_fun', id_eq] at this
    rw [this, cC_set33 hD]
  have hl : (z32L.map u8 ++ [V.nils, V.nils]).length = 34 := rfl
  have ho : (digV D).cells.all V.okCell = true := by rw [cells_digV]; simp
  simp only [buildV, fits_digV hD, ho, Bool.true_and, csz, Nat.zero_add, hl, e1, hf, hcx, List.all_cons, hx, List.all_nil, cC_len hD, e2]
  simp
theorem law20_CheckLess (n : Nat) (p : Prg) : RetD (n + 29) k_law20_CheckLess [p.v] (.bool true) := by
  refine Ret.of rfl rfl (law20_CheckLess_eq ..) ?_
  have haw := run_awake20 n
  have hsm' : ∀ h, runF (tD (n + 28)) k_ref05_Small {} [p.v] h = some (.bool (smallP p), h) := (ref05_Small (n + 27) p).run
  cases hsp : smallP p
  · simp -implicitDefEqProofs [-boxV_fz, law20_CheckLess_B, Prg.box, haw, hsm', hsp]
  obtain ⟨hsm, hN, hNl⟩ := smallP_ok hsp
  obtain ⟨D, hDl, hdg, hD1, hD2⟩ := run_Digest (n + 7) p hsm []
  have hdg : ∀ h, runF (tD (n + 28)) k_pcode_Digest {} [p.v] h = some (.tup [digV D, i64 (errP p)], h) := by
    intro h
    obtain ⟨D', _, e, h1, h2⟩ := run_Digest (n + 7) p hsm h
    have : D' = D := by
      by_cases he : errP p = 0
      · rw [h1 he, hD1 he]
      · rw [h2 he, hD2 he]
    rw [this] at e
    exact e
  have hcz : z32L.map u8 ++ [V.nils, V.nils] = cC z32L .nils .nils := rfl
  have gldp : ∀ h, ldV 4 (.fz p.v) h = some p.v := fun _ => rfl
  have gfp : faV 0 0 (.fz p.v) = some (.fz (i64 p.g)) := rfl
  have g0 : ∀ h : Heap, stV 32 (.ptr 0 0 1) (digV D) (⟨1, some (z32L.map u8)⟩ :: h) = some (⟨1, some (D.map u8)⟩ :: h) := fun h => by
    simp [fits_digV hDl, cells_digV, hDl, z32_drop, z32_len]
  have g0' : ∀ h : Heap, frzP 32 (.ptr 0 0 1) (⟨1, some (D.map u8)⟩ :: h) = some (.fz (digV D), ⟨2, none⟩ :: h) := fun h => by
    simp [hDl, frzL_u8, take32 hDl, take32' hDl, dig_fold]
  by_cases he : errP p = 0
  case neg =>
    have d0 := eq_false he
    have hDz : D = z32L := hD2 he
    have hbz : buildV (z32L.map u8) [] = some (digV z32L) := rfl
    have hq : aggEq .eql 32 (eqN 32 0) (digV D) (digV z32L) = some (.bool true) := by
      rw [digV_eq .eql hDl z32_len, hDz]; rfl
    simp -implicitDefEqProofs [-boxV_fz, -ldV_ptr, -stV_ptr, -frzP_ptr, law20_CheckLess_B, Prg.box, haw, hsm', hsp, hdg, rep32, g0, g0', d0, ld_digV hDl, hbz, hq]
  have hD := hD1 he
  obtain ⟨hg1, hfs, _⟩ := errP_zero he
  obtain ⟨g, hg, hg16⟩ := natI (N := 17) hg1.1 (by omega)
  obtain ⟨un, m, _, _, hr⟩ := (check_Check (n + 2) p (lessC p) hsm (by show (digP p).length = 32; rw [← hD]; exact hDl) (by show (lessL p).length < _; simp [lessL]; omega)).2 he
  have hac := (check_Accepts (n + 2) p (lessC p) _ 0 (by show (digP p).length = 32; rw [← hD]; exact hDl) hr).run
  rw [less_ok un m he] at hac
  have hac : ∀ h, runF (tD (n + 28)) k_check_Accepts {} [p.v, .agg (cC D (sectsV (lessL p)) (justsV (List.replicate g ⟨0, 0⟩)))] h = some (.bool (!touchesP p), h) := by
    have e : V.agg (cC D (sectsV (lessL p)) (justsV (List.replicate g ⟨0, 0⟩))) = (lessC p).v := by
      rw [hD]
      have : p.g.toNat = g := by omega
      show _ = V.agg (cC (digP p) (sectsV (lessL p)) (justsV (lessJ p)))
      rw [lessJ, this]
    intro h
    rw [e]
    exact hac h
  obtain ⟨JL, hJL⟩ : ∃ J, J = List.replicate g (⟨0, 0⟩ : Just) := ⟨_, rfl⟩
  have hJLl : JL.length = g := by rw [hJL]; simp
  have gmk : ∀ a b, mkSl (some 1) 4398046511104 2 [i64 0, i64 0] (i64 p.g) (i64 p.g) (a :: ⟨0, none⟩ :: b) = some (.sl 1 0 g g 2 1, a :: ⟨1, some (JL.flatMap jC)⟩ :: b) := fun a b => by
    rw [hg, mk_justs (by omega), hJL]; rfl
  rw [← hJL] at hac
  have hb : buildV (z32L.map u8 ++ [V.nils, V.nils]) [(0, 32, digV D), (33, 0, .sl 1 0 g g 2 1)] = some (.agg (cC D .nils (.sl 1 0 g g 2 1))) := by
    have := buildC33 hDl (x := .sl 1 0 g g 2 1) rfl
    rw [rep32] at this
    exact this
  rw [hcz] at hb
  have g1 : ∀ a b c, stV 34 (.ptr 2 0 1) (.agg (cC D .nils (.sl 1 0 g g 2 1))) (a :: b :: ⟨1, some (cC z32L .nils .nils)⟩ :: c) = some (a :: b :: ⟨1, some (cC D .nils (.sl 1 0 g g 2 1))⟩ :: c) := fun a b c => by
    exact st_c34 (E := z32L) (x' := .nils) (y' := .nils) hDl rfl rfl rfl (by simp)
  have g2 : ∀ a c, frzC (.ptr 2 33 1) (a :: ⟨1, some (JL.flatMap jC)⟩ :: ⟨1, some (cC D .nils (.sl 1 0 g g 2 1))⟩ :: c) = some (a :: ⟨2, none⟩ :: ⟨1, some (cC D .nils (justsV JL))⟩ :: c) := fun a c => by
    have hfr := frz_justs (js := JL) (k := 1) (c := g) (st := 1) (h := a :: ⟨1, some (JL.flatMap jC)⟩ :: ⟨1, some (cC D .nils (.sl 1 0 g g 2 1))⟩ :: c) (by simp)
    rw [hJLl] at hfr
    rw [frzC_at (cs := cC D .nils (.sl 1 0 g g 2 1)) (by simp) (cC_33 hDl _ _) hfr (by simp), cC_set33 hDl]
    rfl
  have g3 : ∀ a b z3 z4 z5 z6 z7 z8 z9 z11 z12, promC (.ptr 2 32 1) 10 6 [a, b, ⟨1, some (cC D .nils (justsV JL))⟩, z3, z4, z5, z6, z7, z8, z9, ⟨0, none⟩, z11, z12] = some [a, b, ⟨1, some (cC D (.sl 10 0 0 0 6 1) (justsV JL))⟩, z3, z4, z5, z6, z7, z8, z9, ⟨1, some []⟩, z11, z12] := fun a b z3 z4 z5 z6 z7 z8 z9 z11 z12 => by
    rw [promC_at (cs := cC D .nils (justsV JL)) (by simp) (cC_32 hDl _ _) (by omega), cC_set32 hDl]
    rfl
  have g4 : ∀ st a b z3 z4 z5 z6 z7 z8 z9 z11 z12, frzC (.ptr 2 32 1) [a, b, ⟨1, some (cC D (.sl 10 0 p.fs.length p.fs.length 6 st) (justsV JL))⟩, z3, z4, z5, z6, z7, z8, z9, ⟨st, some (p.fs.flatMap sectC)⟩, z11, z12] = some [a, b, ⟨1, some (cC D (sectsV (lessL p)) (justsV JL))⟩, z3, z4, z5, z6, z7, z8, z9, ⟨st + 1, none⟩, z11, z12] := fun st a b z3 z4 z5 z6 z7 z8 z9 z11 z12 => by
    have hfr := frz_rowS sectC 5 (fun _ => rfl) sectC_frz (l := p.fs) (k := 10) (c := p.fs.length) (st := st) (h := [a, b, ⟨1, some (cC D (.sl 10 0 p.fs.length p.fs.length 6 st) (justsV JL))⟩, z3, z4, z5, z6, z7, z8, z9, ⟨st, some (p.fs.flatMap sectC)⟩, z11, z12]) (by simp)
    rw [frzC_at (cs := cC D (.sl 10 0 p.fs.length p.fs.length 6 st) (justsV JL)) (by simp) (cC_32 hDl _ _) hfr (by simp), cC_set32 hDl, less_sects]
    rfl
  have g5 : ∀ a b c x y, ldV 34 (.ptr 2 0 1) (a :: b :: ⟨1, some (cC D x y)⟩ :: c) = some (.agg (cC D x y)) := fun a b c x y => ld_c34 hDl (by simp)
  simp -implicitDefEqProofs [-boxV_fz, -faV_fz, -ldV_ptr, -stV_ptr, -frzP_ptr, law20_CheckLess_B, Prg.box, haw, hsm', hsp, hdg, rep32, g0, g0', he, ld_digV hDl, gfp, gldp, gmk, hb, hcz, g1, cmds.faV', g2, g3, okF, fpP, disjL]
  refine less_L0 (n + 28) p D hDl (justsV JL) rfl hNl (by omega) ⟨2, none⟩ ⟨2, none⟩ ⟨0, none⟩ ⟨0, none⟩ ⟨0, none⟩ ⟨0, none⟩ ⟨0, none⟩ ⟨0, none⟩ 1 ?_ ?_
  · exact ⟨⟨0, none⟩, ⟨0, none⟩, ⟨0, none⟩, by simp⟩
  rintro s st z3 z11 z12 hs
  obtain ⟨R, hR⟩ : ∃ R, R = p.fs.flatMap sectC := ⟨_, rfl⟩
  rw [← hR] at hs g4
  simp at hs
  cases htt : touchesP p <;> rw [htt] at hs hac <;> simp -implicitDefEqProofs [-boxV_fz, -faV_fz, -ldV_ptr, -stV_ptr, -frzP_ptr, hs, cmds.faV', g4, g5, gldp, hac]
end Mini
end
/- How a call's arguments, and listed variables, read as values of the small machine; the world when a call begins. -/
section
set_option linter.unusedVariables false
set_option linter.unusedSimpArgs false
namespace Mini
open Go Go.ChangeShapes Go.WideShapes
/-- No slot is used. -/
def sg0 : Sg := ⟨fun _ => ⟨0, none⟩, fun _ => False⟩
theorem frz0 {w : World} {b : Nat} (h : b < w.heap.size) : Frz sg0 w b := ⟨h, fun _ _ e => by simp [sg0] at e, fun h => h⟩
theorem hrel0 (w : World) : HRel sg0 [] w :=
  ⟨fun k => by simp [sg0], fun k => by simp [sg0, SlotRel], fun _ _ _ _ _ e => by simp [sg0] at e, fun _ h => h.elim, fun _ _ _ e => by simp [sg0] at e⟩
abbrev FR (w : World) := FRel (Frz sg0 w) w
/-- Cells by cells. -/
def FC (w : World) (l : List V) (cs : List Value) : Prop := l.length = cs.length ∧ ∀ i (h : i < l.length) (h' : i < cs.length), FR w (l[i]) (cs[i])
theorem FC.nil {w : World} : FC w [] [] := ⟨rfl, fun i h => by simp at h⟩
theorem FC.one {w : World} {v : V} {x : Value} (h : FR w v x) : FC w [v] [x] := ⟨rfl, fun i h1 h2 => by
  have : i = 0 := by simpa using h1
  subst this
  exact h⟩
theorem FC.append {w : World} {l m : List V} {cs ds : List Value} (h : FC w l cs) (g : FC w m ds) : FC w (l ++ m) (cs ++ ds) := by
  refine ⟨by simp [h.1, g.1], fun i h1 h2 => ?_⟩
  by_cases hi : i < l.length
  · have hi' : i < cs.length := by rw [← h.1]; exact hi
    rw [List.getElem_append_left hi, List.getElem_append_left hi']
    exact h.2 i hi hi'
  · have hl := h.1
    simp only [List.length_append] at h1 h2
    rw [List.getElem_append_right (by omega), List.getElem_append_right (by omega)]
    have := g.2 (i - l.length) (by omega) (by omega)
    simpa [hl] using this
section
variable {P : Program}
/-- What cells of a type read as: of whatever world. -/
def RC (P : Program) (t : TypeId) (p : List V → Prop) : Prop := ∀ (H : Type) (enc : TypeId × Value → H) (w : World) (fuel : Nat) (cs : List Value) (x : DataW H × List MemPlace),
  DataW.trod enc P w 0 (fun _ => true) true fuel t cs = some x → ∃ l, p l ∧ FC w l cs
theorem RC.mono {t : TypeId} {p q : List V → Prop} (h : RC P t p) (hq : ∀ l, p l → q l) : RC P t q := fun H enc w fuel cs x e =>
  let ⟨l, hl, hf⟩ := h H enc w fuel cs x e
  ⟨l, hq l hl, hf⟩
theorem rc_int {t : TypeId} {k : IntKind} (ht : P.underlying t = some (.int k)) : RC P t (fun l => ∃ n, (Lit.int k n).wf = true ∧ l = [.int k n]) := fun H enc w fuel cs x e => by
  obtain ⟨n, rfl, rfl, hw⟩ := DataW.trod_int ht e
  exact ⟨_, ⟨n, hw, rfl⟩, .one (.int _ _)⟩
theorem rc_bool {t : TypeId} (ht : P.underlying t = some .bool) : RC P t (fun l => ∃ b, l = [.bool b]) := fun H enc w fuel cs x e => by
  cases fuel with
  | zero => simp [DataW.trod] at e
  | succ n =>
    unfold DataW.trod at e
    rw [ht] at e
    split at e
    case h_1 _ b _ => exact ⟨_, ⟨b, rfl⟩, .one (.bool _)⟩
    all_goals simp_all
theorem rc_str {t : TypeId} (ht : P.underlying t = some .string) : RC P t (fun l => ∃ s : ByteArray, s.size ≤ maxLen ∧ l = [.str s]) := fun H enc w fuel cs x e => by
  obtain ⟨s, rfl, rfl, hs⟩ := DataW.trod_string ht e
  exact ⟨_, ⟨s, hs, rfl⟩, .one (.str _)⟩
/-- Fields from off on, of N cells. -/
def RS (P : Program) (fs : List Field) (off N : Nat) (p : List V → Prop) : Prop := ∀ (H : Type) (enc : TypeId × Value → H) (w : World) (fuel : Nat) (cs : List Value), cs.length = N →
  (∀ f ∈ fs, ∃ x, DataW.trod enc P w 0 (fun _ => true) true fuel f.type ((cs.drop f.offset).take (P.cellsOf f.type)) = some x) → ∃ l, p l ∧ FC w l (cs.drop off)
theorem rs_nil {N : Nat} : RS P [] N N (fun l => l = []) := fun H enc w fuel cs hl _ => ⟨[], rfl, by rw [List.drop_of_length_le (by omega)]; exact .nil⟩
theorem rs_cons {f : Field} {fs : List Field} {off N n : Nat} {p q : List V → Prop} (ho : f.offset = off) (hn : P.cellsOf f.type = n) (h : RC P f.type p) (g : RS P fs (off + n) N q) :
    RS P (f :: fs) off N (fun l => ∃ a b, p a ∧ q b ∧ l = a ++ b) := fun H enc w fuel cs hl hx => by
  obtain ⟨x, e⟩ := hx f (by simp)
  obtain ⟨a, ha, fa⟩ := h H enc w fuel _ x e
  obtain ⟨b, hb, fb⟩ := g H enc w fuel cs hl fun f' hf => hx f' (by simp [hf])
  refine ⟨a ++ b, ⟨a, b, ha, hb, rfl⟩, ?_⟩
  rw [ho, hn] at fa
  have : cs.drop off = (cs.drop off).take n ++ cs.drop (off + n) := by rw [← List.drop_drop, List.take_append_drop]
  rw [this]
  exact fa.append fb
theorem rc_struct {t : TypeId} {fs : Array Field} {N : Nat} {p : List V → Prop} (ht : P.underlying t = some (.struct fs)) (hN : P.cellsOf t = N) (h : RS P fs.toList 0 N p) : RC P t p := fun H enc w fuel cs x e => by
  obtain ⟨xs, n, rfl, rfl, hl, hlen, hf⟩ := DataW.trod_struct ht e
  have := h H enc w n cs (by rw [hl, hN]) fun f hm => by
    obtain ⟨i, hi, rfl⟩ := List.getElem_of_mem hm
    have hi' : i < fs.size := by simpa using hi
    have e := hf i fs[i] (by simp [hi'])
    rw [List.getElem?_eq_getElem (by omega)] at e
    exact ⟨_, by simpa using e⟩
  simpa using this
/-- An array of one-cell elements. -/
theorem rc_array {t e : TypeId} {m : Nat} {S : Type} {g : S → V} {Q : S → Prop} (ht : P.underlying t = some (.array m e)) (hm : P.cellsOf t = m) (he : P.cellsOf e = 1) (h : RC P e (fun l => ∃ s, Q s ∧ l = [g s])) :
    RC P t (fun l => ∃ ss : List S, ss.length = m ∧ (∀ s ∈ ss, Q s) ∧ l = ss.map g) := fun H enc w fuel cs x e => by
  obtain ⟨xs, n, rfl, rfl, hl, hlen, hf⟩ := DataW.trod_array ht e
  rw [he] at hf
  rw [hm] at hl
  have : ∀ k, k ≤ m → ∃ ss : List S, ss.length = k ∧ (∀ s ∈ ss, Q s) ∧ FC w (ss.map g) (cs.take k) := by
    intro k
    induction k with
    | zero => exact fun _ => ⟨[], rfl, fun _ h => by simp at h, .nil⟩
    | succ k ih =>
      intro hk
      obtain ⟨ss, h1, h2, h3⟩ := ih (by omega)
      have ek := hf k (by omega)
      rw [List.getElem?_eq_getElem (by omega), Nat.mul_one] at ek
      obtain ⟨l, ⟨s, hq, rfl⟩, fl⟩ := h H enc w n _ _ ek
      refine ⟨ss ++ [s], by simp [h1], fun s' hs' => ?_, ?_⟩
      · rcases List.mem_append.1 hs' with hs' | hs'
        · exact h2 s' hs'
        · rw [List.mem_singleton.1 hs']; exact hq
      · have e2 : cs.take (k + 1) = cs.take k ++ (cs.drop k).take 1 := by rw [List.take_add]
        rw [e2, List.map_append]
        exact h3.append fl
  obtain ⟨ss, h1, h2, h3⟩ := this m (Nat.le_refl _)
  rw [List.take_of_length_le (by omega)] at h3
  exact ⟨_, ⟨ss, h1, h2, rfl⟩, h3⟩
/-- A slice. -/
theorem rc_slice {t e : TypeId} {n : Nat} {S : Type} {g : S → V} {Q : S → Prop} (ht : P.underlying t = some (.slice e)) (hn : P.cellsOf e = n) (hpos : 0 < n) (hg : ∀ s, Q s → (g s).cells.length = n)
    (h : RC P e (fun l => ∃ s, Q s ∧ l = (g s).cells)) : RC P t (fun l => ∃ ss : List S, ss.length ≤ maxLen ∧ (∀ s ∈ ss, Q s) ∧ l = [.vec (ss.map g)]) := fun H enc w fuel cs x ex => by
  rcases Go.Deep.open_slice ht ex with ⟨rfl, _⟩ | ⟨a, len, cap, m, k, D, Pl, rfl, _, hlc, hcm, hm, rfl, hx⟩
  · exact ⟨_, ⟨[], by simp, fun _ h => by simp at h, rfl⟩, .one (.vec0 _ _)⟩
  have hmc : m = cap := hm
  subst hmc
  by_cases h0 : len = 0
  · subst h0
    exact ⟨_, ⟨[], by simp, fun _ h => by simp at h, rfl⟩, .one (.vec0 _ _)⟩
  have key : ∀ i, i < len → ∃ (y : S × List Value), Q y.1 ∧ y.2.length = n ∧ (∀ j, j < n → w.cell? ((a.add (i * n)).add j) = y.2[j]?) ∧ FC w (g y.1).cells y.2 := by
    intro i hi
    obtain ⟨cs', h1, h2⟩ := hx i (by omega)
    rw [hn] at h1
    obtain ⟨_, hl, hc⟩ := World.cells?_some h1
    obtain ⟨l, ⟨s, hq, rfl⟩, fl⟩ := h H enc w _ _ _ h2
    exact ⟨(s, cs'), hq, hl, hc, fl⟩
  obtain ⟨y0, hq0, hl0, hc0, fl0⟩ := key 0 (by omega)
  haveI : Inhabited (S × List Value) := ⟨y0⟩
  obtain ⟨f, hf⟩ := Go.Deep.choose_lt key
  obtain ⟨b, o, spot⟩ := a
  have c0 := (hf 0 (by omega)).2.2.1 0 hpos
  rw [List.getElem?_eq_getElem (by rw [(hf 0 (by omega)).2.1]; omega)] at c0
  have hspot : spot = none := by simpa [Addr.add] using World.cell?_spot c0
  subst hspot
  have hb : b < w.heap.size := by
    have : w.cell? ⟨b, o, none⟩ = some ((f 0).2[0]'(by rw [(hf 0 (by omega)).2.1]; omega)) := by simpa [Addr.add] using c0
    unfold World.cell? at this
    split at this
    · rename_i hh
      exact (Array.getElem?_eq_some_iff.1 hh).1
    · simp at this
  refine ⟨_, ⟨(List.range len).map fun i => (f i).1, by simpa using Nat.le_trans hlc hcm, fun s hs => ?_, rfl⟩, .one ?_⟩
  · obtain ⟨i, hi, rfl⟩ := List.mem_map.1 hs
    exact (hf i (by simpa using hi)).1
  · have hl : (((List.range len).map fun i => (f i).1).map g).length = len := by simp
    have := FRel.vec (fr := Frz sg0 w) (w := w) (((List.range len).map fun i => (f i).1).map g) b o m n (fun i j => (f i).2.getD j undef) (frz0 hb) (by rw [hl]; exact hlc) (fun i hi => by
        have hi' : i < len := by simpa using hi
        simpa using hg _ (hf i hi').1) (fun i j hi hj => by
        have hi' : i < len := by simpa using hi
        have := (hf i hi').2.2.1 j hj
        rw [add_plain, add_plain, List.getElem?_eq_getElem (by rw [(hf i hi').2.1]; exact hj)] at this
        rw [← Nat.add_assoc, this, List.getD_eq_getElem?_getD, List.getElem?_eq_getElem (by rw [(hf i hi').2.1]; exact hj)]
        rfl) (fun i hi j hj => by
        have hi' : i < len := by simpa using hi
        have fl := (hf i hi').2.2.2
        have hj' : j < (g (f i).1).cells.length := by simpa using hj
        have hj2 : j < (f i).2.length := by rw [← fl.1]; exact hj'
        have := fl.2 j hj' hj2
        rw [List.getD_eq_getElem?_getD, List.getElem?_eq_getElem hj2]
        simpa using this)
    rw [hl] at this
    exact this
/-- An argument that is a struct. -/
theorem arg_struct {H : Type} {enc : TypeId × Value → H} {W : World} {r : Go.Reach} {b0 : Nat} {t : TypeId} {fs : Array Field} {v : Value} {d : DataW H} {ps : List MemPlace} {p : List V → Prop} (hr : RC P t p)
    (ht : P.underlying t = some (.struct fs)) (hval : Value.okWide P W r b0 t v) (h : DataW.Trod enc P W 0 (fun _ => true) true t v d ps) : ∃ l, p l ∧ FR W (.agg l) v := by
  obtain ⟨fuel, e⟩ := h
  obtain ⟨l, hl, hf⟩ := hr H enc W fuel _ _ e
  unfold Value.okWide at hval
  rw [ht] at hval
  obtain ⟨cs, rfl, _, _⟩ := hval
  refine ⟨l, hl, .agg _ _ (by simpa [Value.cells] using hf.1) fun i hi => ?_⟩
  have hi' : i < cs.size := by have := hf.1; simp [Value.cells] at this; omega
  have := hf.2 i hi (by simpa [Value.cells] using hi')
  simpa [Value.cells] using this
/-- An argument of one cell. -/
theorem arg_one {H : Type} {enc : TypeId × Value → H} {W : World} {r : Go.Reach} {b0 : Nat} {t : TypeId} {v : Value} {d : DataW H} {ps : List MemPlace} {p : List V → Prop} (hr : RC P t p)
    (hv : v.cells = #[v]) (h : DataW.Trod enc P W 0 (fun _ => true) true t v d ps) : ∃ l x, p l ∧ l = [x] ∧ FR W x v := by
  obtain ⟨fuel, e⟩ := h
  obtain ⟨l, hl, hf⟩ := hr H enc W fuel _ _ e
  rw [hv] at hf
  obtain ⟨h1, h2⟩ := hf
  match l, h1 with
  | [x], _ => exact ⟨_, x, hl, rfl, h2 0 (by simp) (by simp)⟩
/-! ### listed variables -/
/-- A listed table of whole numbers. -/
theorem var_ints {H : Type} {enc : TypeId × Value → H} {W : World} {spare : Nat → Bool} {held : Bool} {name : String} {g t t' e m : Nat} {k : IntKind} {cs : Array Value} {fuel : Nat} {p : List MemPlace} {ls : List Int}
    (hv : W.var? P name = some cs) (hg : P.globalNamed name = some g) (ht : P.underlying t = some (.array m e)) (he : P.underlying e = some (.int k)) (h1 : P.cellsOf e = 1)
    (h : DataW.trod enc P W 0 spare held fuel t cs.toList = some (.agg (ls.map fun n => .lit (.int k n)), p)) : FR W (.fz (.agg (ls.map (V.int k)))) (.pointer (some ⟨g, 0, none⟩)) := by
  obtain ⟨xs, n, rfl, hx, hl, hlen, hf⟩ := DataW.trod_array ht h
  rw [h1] at hf
  simp only [Prod.mk.injEq, DataW.agg.injEq] at hx
  have hx1 := hx.1
  have hlm : ls.length = m := by
    have := congrArg List.length hx1
    simp at this
    omega
  have cell : ∀ j (hj : j < ls.length), W.cell? ⟨g, j, none⟩ = some (.int k ls[j]) := by
    intro j hj
    have ej := hf j (by omega)
    rw [List.getElem?_eq_getElem (by omega), Nat.mul_one] at ej
    obtain ⟨q, e1, e2, _⟩ := DataW.trod_int he ej
    have hq : ls[j] = q := by
      have : (ls.map fun n => (DataW.lit (.int k n) : DataW H))[j]'(by simpa using hj) = (xs.map (·.1))[j]'(by simp; omega) := by simp only [hx1]
      simp [e2] at this
      exact this
    rw [World.var?_cell hg hv j, hq]
    have : (cs.toList.drop j)[0]? = some (.int k q) := by
      have h3 : ((cs.toList.drop j).take 1)[0]? = some (.int k q) := by rw [e1]; rfl
      rw [List.getElem?_take] at h3
      simpa using h3
    simpa using this
  by_cases h0 : ls.length = 0
  · have : ls = [] := List.eq_nil_of_length_eq_zero h0
    subst this
    have hb : g < W.heap.size := by
      simp only [World.var?, hg, Option.bind_some] at hv
      split at hv
      · rename_i hh
        exact (Array.getElem?_eq_some_iff.1 hh).1
      · simp at hv
    exact .fz _ g 0 (fun _ => undef) (frz0 hb) (fun j hj => by simp [V.cells] at hj) (fun j hj => by simp [V.cells] at hj)
  · have hb : g < W.heap.size := by
      have := cell 0 (by omega)
      unfold World.cell? at this
      split at this
      · rename_i hh
        exact (Array.getElem?_eq_some_iff.1 hh).1
      · simp at this
    exact .fz _ g 0 (fun j => .int k (ls.getD j 0)) (frz0 hb) (fun j hj => by
      have hj' : j < ls.length := by simpa [V.cells] using hj
      rw [Nat.zero_add, cell j hj', List.getD_eq_getElem?_getD, List.getElem?_eq_getElem hj']
      rfl) (fun j hj => by
      have hj' : j < ls.length := by simpa [V.cells] using hj
      simp only [V.cells, List.getElem_map]
      rw [List.getD_eq_getElem?_getD, List.getElem?_eq_getElem hj']
      exact .int _ _)
/-! ### a whole call -/
theorem calls_of_ret {G : Nat → V} {An : Nat → Ann} (hm : P.follows .mixedOrders = true) {n f : Nat} {args : List V} {b : Bool} (R : Ret P G An n f args (.bool b)) {W : World} {xs : Array Value}
    (hG : ∀ g, FR W (G g) (.pointer (some ⟨g, 0, none⟩))) (hl : args.length = xs.size) (ha : ∀ i (h : i < args.length) (h' : i < xs.size), FR W (args[i]) (xs[i])) :
    Calls P f xs W fun e W' => e = .returned (.bool b) ∧ Go.RowKit.Below W.heap.size W W' := by
  obtain ⟨_, hv, h', e⟩ := R
  unfold dn at e
  obtain ⟨F, hF, e⟩ := Option.bind_eq_some_iff.1 e
  refine ((den_sound P G An hm n f F hF).run args [] _ h' e sg0 W xs (hrel0 W) hG ⟨hl, fun i h h' => .frz (ha i h h')⟩).mono ?_
  rintro en W' ⟨x, σ', rfl, hx, _, hr⟩
  rw [hr.bool_inv]
  exact ⟨rfl, ⟨hx.os, hx.tape, hx.output, hx.size, fun k hk => hx.block k hk fun _ _ e => by simp [sg0] at e⟩⟩
end
end Mini
end
