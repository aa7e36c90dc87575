/- A part of the proof: S20, S21, Read. -/
import Derived.Test.YtpfekfkkcjfimaaDoorMini3
import Derived.Test.YtpfekfkkcjfimaaDoorMini1
import Derived.ChangeShapes
import Derived.Deep.Slices
import Derived.OpenShut
section
namespace Mini
open Go
set_option linter.unusedSimpArgs false
set_option linter.unusedVariables false
def fewS (s : Sect) : Bool := decide (s.held.length ≤ 100 ∧ s.live.length ≤ 100)
def fewC (c : Cert) : Bool := decide (c.l.length ≤ 40 ∧ c.js.length ≤ 40) && c.l.all fewS
theorem fewC_ok {c : Cert} (h : fewC c = true) : c.l.length ≤ 40 ∧ c.js.length ≤ 40 ∧ ∀ s ∈ c.l, s.held.length ≤ 100 ∧ s.live.length ≤ 100 := by
  simp only [fewC, fewS, Bool.and_eq_true, decide_eq_true_eq, List.all_eq_true] at h
  exact ⟨h.1.1, h.1.2, h.2⟩
theorem ref18_Few (n : Nat) (c : Cert) (hd : c.d.length = 32) : RetD (n + 1) k_ref18_Few [c.v] (.bool (fewC c)) := by
  refine Ret.of (by simp [Cert.noRef]) rfl (ref18_Few_eq ..) ?_
  by_cases h40 : (40 : Int) < c.l.length
  · have : fewC c = false := by simp [fewC]; omega
    rw [this]
    simp -implicitDefEqProofs [-boxV_fz, -faV_fz, ref18_Few_B, Cert.box hd, Cert.fa_l hd, Cert.fa_j hd, h40]
  by_cases j40 : (40 : Int) < c.js.length
  · have : fewC c = false := by simp [fewC]; omega
    rw [this]
    simp -implicitDefEqProofs [-boxV_fz, -faV_fz, ref18_Few_B, Cert.box hd, Cert.fa_l hd, Cert.fa_j hd, h40, j40]
  have hs : fewC c = c.l.all fewS := by
    have : decide (c.l.length ≤ 40 ∧ c.js.length ≤ 40) = true := by simp; omega
    simp [fewC, this]
  rw [hs]
  obtain ⟨b, hb⟩ : ∃ b, b = c.l.all fewS := ⟨_, rfl⟩
  rw [← hb]
  simp -implicitDefEqProofs [-boxV_fz, -faV_fz, ref18_Few_B, Cert.box hd, Cert.fa_l hd, Cert.fa_j hd, h40, j40]
  refine W_up c.l.length (fun i s => At s [(1, .fz c.v), (3, i64 i)] [] ∧ ∀ j (hj : j < c.l.length), j < i → fewS c.l[j] = true) ?_ ?_ (Nat.zero_le _) ⟨by simp, by omega⟩
  · rintro i s hi ⟨hs, hj⟩
    have ha := i64_inc hi (by omega)
    have fs2 : ∀ s : Sect, faV 2 0 (.fz s.v) = some (.fz (setsV s.held)) := fun _ => rfl
    have fs5 : ∀ s : Sect, faV 5 0 (.fz s.v) = some (.fz (setsV s.live)) := fun _ => rfl
    simp only [At_cons, At_nil] at hs
    by_cases h1 : (100 : Int) < (c.l[i]).held.length
    · have : b = false := by rw [hb]; exact all_hit hi (by simp [fewS]; omega)
      rw [this]
      simp -implicitDefEqProofs [-faV_fz, ref18_Few_L0, hs, hi, ia_sects, Cert.fa_l hd, fs2, fs5, h1]
    by_cases h2 : (100 : Int) < (c.l[i]).live.length
    · have : b = false := by rw [hb]; exact all_hit hi (by simp [fewS]; omega)
      rw [this]
      simp -implicitDefEqProofs [-faV_fz, ref18_Few_L0, hs, hi, ia_sects, Cert.fa_l hd, fs2, fs5, h1, h2]
    · simp -implicitDefEqProofs [-faV_fz, ref18_Few_L0, hs, hi, ia_sects, Cert.fa_l hd, fs2, fs5, h1, h2, ha]
      exact all_step hi hj (by simp [fewS]; omega)
  · rintro s ⟨hs, hj⟩
    have : b = true := by rw [hb]; exact all_miss hj
    rw [this]
    simp only [At_cons, At_nil] at hs
    simp -implicitDefEqProofs [-faV_fz, ref18_Few_L0, hs, Cert.fa_l hd]
/-! ### rows of structs -/
theorem elems_flat {α : Type} (f : α → List V) (m : Nat) (hl : ∀ a, (f a).length = m + 1) (l : List α) : elems (m + 1) l.length (l.flatMap f) = l.map fun a => .agg (f a) := by
  induction l with
  | nil => rfl
  | cons a l ih =>
    have h1 : (f a ++ l.flatMap f).take (m + 1) = f a := by rw [List.take_append_of_le_length (by rw [hl]; omega), List.take_of_length_le (by rw [hl]; omega)]
    have h2 : (f a ++ l.flatMap f).drop (m + 1) = l.flatMap f := by rw [← hl a, List.drop_left]
    simp only [List.flatMap_cons, List.length_cons, elems, csz, Nat.add_one_ne_zero, if_false, h1, h2, ih, List.map_cons]
theorem frzL_id {n : Nat} : ∀ (l : List V) (h : Heap), (∀ v ∈ l, ∀ h, frzV n v h = some (v, h)) → frzL (frzV n) l h = some (l, h)
  | [], h, _ => rfl
  | v :: l, h, hv => by
    simp only [frzL, hv v (List.mem_cons_self ..), Option.bind_some, frzL_id l h (fun w hw => hv w (List.mem_cons_of_mem _ hw))]
theorem frzL_flat {α : Type} (f : α → List V) (n : Nat) (hf : ∀ a, ∀ v ∈ f a, ∀ h, frzV n v h = some (v, h)) (l : List α) (h : Heap) : frzL (frzV n) (l.flatMap f) h = some (l.flatMap f, h) := by
  refine frzL_id _ _ fun v hv => ?_
  obtain ⟨a, _, ha⟩ := List.mem_flatMap.1 hv
  exact hf a v ha
theorem flat_length {α : Type} (f : α → List V) (m : Nat) (hl : ∀ a, (f a).length = m) (l : List α) : (l.flatMap f).length = l.length * m := by
  induction l with
  | nil => simp
  | cons a l ih => simp only [List.flatMap_cons, List.length_append, hl, ih, List.length_cons, Nat.add_mul]; omega
theorem frz_rowS {α : Type} (f : α → List V) (m : Nat) (hl : ∀ a, (f a).length = m + 1) (hf : ∀ a, ∀ v ∈ f a, ∀ h, frzV 7 v h = some (v, h)) {l : List α} {k c st : Nat} {h : Heap} (hc : cellsAt h k st = some (l.flatMap f)) :
    frzV 8 (.sl k 0 l.length c (m + 1) st) h = some (.vec (l.map fun a => .agg (f a)), kill h k) := by
  have h1 := flat_length f (m + 1) hl l
  have h2 : (l.flatMap f).take (l.length * (m + 1)) = l.flatMap f := by rw [List.take_of_length_le (by omega)]
  have h3 : okE (m + 1) (l.flatMap f) = true := rfl
  rw [frzV_sl, hc]
  simp only [Option.bind_some, csz, Nat.add_one_ne_zero, if_false, Nat.zero_add, h1, Nat.le_refl, if_true, List.drop_zero, h2, frzL_flat f 7 hf, h3, elems_flat f m hl]
def jC (j : Just) : List V := [i64 j.kind, i64 j.lock]
theorem jC_frz : ∀ (j : Just), ∀ v ∈ jC j, ∀ h, frzV 7 v h = some (v, h) := by
  intro j v hv h
  simp only [jC, List.mem_cons, List.not_mem_nil, or_false] at hv
  rcases hv with rfl | rfl <;> rfl
theorem frz_justs {js : List Just} {k c st : Nat} {h : Heap} (hc : cellsAt h k st = some (js.flatMap jC)) : frzV 8 (.sl k 0 js.length c 2 st) h = some (justsV js, kill h k) := frz_rowS jC 1 (fun _ => rfl) jC_frz hc
theorem src_justs (js : List Just) (h : Heap) : srcV 2 (justsV js) h = some (js.length, js.flatMap jC) := by
  have e : (js.map Just.v).flatMap V.cells = js.flatMap jC := by
    induction js with
    | nil => rfl
    | cons a l ih => simp only [List.map_cons, List.flatMap_cons, ih]; rfl
  simp [srcV, justsV] at e ⊢
  exact e
theorem rep_justs (n : Nat) : rep n [i64 0, i64 0] = (List.replicate n (⟨0, 0⟩ : Just)).flatMap jC := by
  induction n with
  | zero => rfl
  | succ n ih => rw [List.replicate_succ, List.flatMap_cons, ← ih]; rfl
theorem mk_justs {id lim n : Nat} {h : Heap} (hl : n ≤ lim) : mkSl (some id) lim 2 [i64 0, i64 0] (i64 n) (i64 n) h = some (.sl id 0 n n 2 ((hget h id).st + 1), hset h id ⟨(hget h id).st + 1, some ((List.replicate n (⟨0, 0⟩ : Just)).flatMap jC)⟩) := by
  have : (n : Int) ≤ lim := by omega
  simp [mkSl, this, rep_justs]
theorem checkF_shape {p : Prg} {c : Cert} {un : List (BitVec 32)} {m : BitVec 32} (h : shapeF p c = (-1, -1, 1)) : checkF p c un m = (-1, -1, 1) := by
  unfold checkF faultsF
  rw [h]
  rfl
theorem checkF_bound {p : Prg} {c : Cert} {un : List (BitVec 32)} {m : BitVec 32} (h : c.d ≠ digP p) : checkF p c un m = (-1, -1, 1) ∨ checkF p c un m = (-1, -1, 9) := by
  by_cases hs : shapeF p c = (-1, -1, 1)
  · exact .inl (checkF_shape hs)
  · have h1 : shapeF p c = (0, 0, 0) := by
      unfold shapeF at hs ⊢
      split at hs
      · exact absurd rfl hs
      · rename_i hh; rw [if_neg hh]
    have h2 : boundF p c = (-1, -1, 9) := by unfold boundF; rw [if_neg h]
    refine .inr ?_
    unfold checkF faultsF
    rw [h1, h2]
    rfl
end Mini
end
section
namespace Mini
open Go
set_option linter.unusedSimpArgs false
set_option linter.unusedVariables false
@[simp] theorem u8_xor (a b : BitVec 8) : intV .xor (u8 a) (u8 b) = some (u8 (a ^^^ b)) := by
  show some (V.int .u8 (IntKind.u8.wrap ((BitVec.ofInt 8 a.toNat ^^^ BitVec.ofInt 8 b.toNat).toNat))) = _
  rw [u8_bits, u8_bits, wrap_u8]
  simp [u8]
theorem app_rowsS {id lim sz k i st m : Nat} {x : V} {cs new : List V} {h : Heap} (hs : srcV sz x h = some (m, new)) (ho : new.all V.okCell = true) (hm : 0 < m) (hc : cellsAt h k st = some cs) (hl : cs.length = i * csz sz) (hlim : i + m ≤ lim) :
    appV (some id) lim sz (.sl k 0 i i sz st) x h = some (.sl k 0 (i + m) (i + m) sz (st + 1), hset h k ⟨st + 1, some (cs ++ new)⟩) := by
  have hm' : ¬ m = 0 := by omega
  unfold appV
  rw [hs]
  simp only [Option.bind_some, ho, if_true, hc, hlim, hl, and_self, hm', if_false]
theorem jC_ok (js : List Just) : (js.flatMap jC).all V.okCell = true := by
  induction js with
  | nil => rfl
  | cons j js ih => rw [List.flatMap_cons, List.all_append, ih]; rfl
theorem run_awake20 (n : Nat) (h : Heap) : runF (tD (n + 28)) k_law20_awake {} [] h = some (.bool true, h) := (law20_awake n).run h
theorem law20_CheckFirst (n : Nat) (p : Prg) (c : Cert) (more : Bool) (hd : c.d.length = 32) : RetD (n + 29) k_law20_CheckFirst [p.v, c.v, .bool more] (.bool true) := by
  refine Ret.of (by simp [Cert.noRef]) rfl (law20_CheckFirst_eq ..) ?_
  have haw := run_awake20 n
  have hsm' : ∀ h, runF (tD (n + 28)) k_ref05_Small {} [p.v] h = some (.bool (smallP p), h) := (ref05_Small (n + 27) p).run
  have hfe' : ∀ h, runF (tD (n + 28)) k_ref18_Few {} [c.v] h = some (.bool (fewC c), h) := (ref18_Few (n + 27) c hd).run
  cases hsp : smallP p
  · simp -implicitDefEqProofs [-boxV_fz, law20_CheckFirst_B, Prg.box, Cert.box hd, Cert.fits hd, haw, hsm', hsp]
  cases hfc : fewC c
  · simp -implicitDefEqProofs [-boxV_fz, law20_CheckFirst_B, Prg.box, Cert.box hd, Cert.fits hd, haw, hsm', hsp, hfe', hfc]
  obtain ⟨hsm, hN, hNl⟩ := smallP_ok hsp
  obtain ⟨hl40, hj40, _⟩ := fewC_ok hfc
  obtain ⟨D, hDl, hdg, hD1, hD2⟩ := run_Digest (n + 7) p hsm []
  have hdg : ∀ h, runF (tD (n + 28)) k_pcode_Digest {} [p.v] h = some (.tup [digV D, i64 (errP p)], h) := by
    intro h
    obtain ⟨D', _, e, h1, h2⟩ := run_Digest (n + 7) p hsm h
    have : D' = D := by
      by_cases he : errP p = 0
      · rw [h1 he, hD1 he]
      · rw [h2 he, hD2 he]
    rw [this] at e
    exact e
  have hcz : z32L.map u8 ++ [V.nils, V.nils] = cC z32L .nils .nils := rfl
  have g0 : ∀ a b c d e f g i, stV 32 (.ptr 0 0 1) (digV D) [⟨1, some (z32L.map u8)⟩, a, b, c, d, e, f, g, i] = some [⟨1, some (D.map u8)⟩, a, b, c, d, e, f, g, i] := fun a b c d e f g i => by
    simp [fits_digV hDl, cells_digV, hDl, z32_drop, z32_len]
  have g0' : ∀ a b c d e f g i, frzP 32 (.ptr 0 0 1) [⟨1, some (D.map u8)⟩, a, b, c, d, e, f, g, i] = some (.fz (digV D), [⟨2, none⟩, a, b, c, d, e, f, g, i]) := fun a b c d e f g i => by
    simp [hDl, frzL_u8, take32 hDl, take32' hDl, dig_fold]
  by_cases he : errP p = 0
  case neg =>
    have d0 := eq_false he
    simp -implicitDefEqProofs [-boxV_fz, -stV_ptr, -frzP_ptr, law20_CheckFirst_B, Prg.box, Cert.box hd, Cert.fits hd, haw, hsm', hsp, hfe', hfc, hdg, rep32, g0, g0', d0]
  have hD := hD1 he
  obtain ⟨hg1, _, _⟩ := errP_zero he
  obtain ⟨S, hS⟩ : ∃ S, S = sectsV c.l := ⟨_, rfl⟩
  have hSok : S.okCell = true := by rw [hS]; rfl
  have hcv : c.v = .agg (cC c.d S (justsV c.js)) := by rw [hS]; rfl
  have gfa : faV 33 0 (.fz c.v) = some (.fz (justsV c.js)) := Cert.fa_j hd
  have gfp : faV 0 0 (.fz p.v) = some (.fz (i64 p.g)) := rfl
  have gff : ∀ f : Int × Int × Int, faV 0 0 (.fz (fltV f)) = some (.fz (i64 f.1)) ∧ faV 1 0 (.fz (fltV f)) = some (.fz (i64 f.2.1)) := fun _ => ⟨rfl, rfl⟩
  have gff1 := fun f => (gff f).1
  have gff2 := fun f => (gff f).2
  have gld : ∀ h, ldV 34 (.fz c.v) h = some c.v := Cert.ld hd
  have gldp : ∀ h, ldV 4 (.fz p.v) h = some p.v := fun _ => rfl
  have g1 : ∀ a b c' d e f g i, stV 34 (.ptr 1 0 1) c.v [a, ⟨1, some (cC z32L .nils .nils)⟩, b, c', d, e, f, g, i] = some [a, ⟨1, some (cC c.d S (justsV c.js))⟩, b, c', d, e, f, g, i] := fun a b c' d e f g i => by
    rw [hcv]; exact st_c34 (E := z32L) (x' := .nils) (y' := .nils) hd rfl hSok rfl (by simp)
  have hfill : fillV (rep 0 [.int .i64 0, .int .i64 0]) [] = some [] := rfl
  have g2 : ∀ a b c d e f g i, newSl (some 2) 0 2 [] [a, b, ⟨0, none⟩, c, d, e, f, g, i] = some (.sl 2 0 0 0 2 1, [a, b, ⟨1, some []⟩, c, d, e, f, g, i]) := fun _ _ _ _ _ _ _ _ => rfl
  have g3 : ∃ st2, ∀ a b c' d e f g i, appV (some 3) 4398046511104 2 (.sl 2 0 0 0 2 1) (justsV c.js) [a, b, ⟨1, some []⟩, c', d, e, f, g, i] = some (.sl 2 0 c.js.length c.js.length 2 st2, [a, b, ⟨st2, some (c.js.flatMap jC)⟩, c', d, e, f, g, i]) := by
    cases hj : c.js with
    | nil => exact ⟨1, fun _ _ _ _ _ _ _ _ => rfl⟩
    | cons j js =>
      refine ⟨2, fun a b c' d e f g i => ?_⟩
      rw [← hj]
      have := app_rowsS (id := 3) (lim := 4398046511104) (sz := 2) (k := 2) (i := 0) (st := 1) (cs := []) (src_justs c.js [a, b, ⟨1, some []⟩, c', d, e, f, g, i]) (jC_ok _) (by rw [hj]; simp) rfl rfl (by omega)
      rw [this]
      simp
  obtain ⟨st2, g3⟩ := g3
  have g4 : ∀ a b c' d e f g i x y, x.okCell = true → stV 0 (.ptr 1 33 1) x [a, ⟨1, some (cC c.d S y)⟩, b, c', d, e, f, g, i] = some [a, ⟨1, some (cC c.d S x)⟩, b, c', d, e, f, g, i] := fun a b c' d e f g i x y hx => by
    have hf : fitsV 0 x = true := by cases x <;> first | rfl | (simp [V.okCell] at hx)
    have hcx : x.cells = [x] := by cases x <;> first | rfl | (simp [V.okCell] at hx)
    rw [st_set (cs := cC c.d S y) hf hx hcx (by simp) (by rw [cC_len hd]; omega), cC_set33 hd]; rfl
  have g4' := fun a b c' d e f g i k o l cp sz st y => g4 a b c' d e f g i (.sl k o l cp sz st) y rfl
  have g6 : ∀ a b c' d e f g i J, ldV 34 (.ptr 1 0 1) [a, ⟨1, some (cC c.d S J)⟩, b, c', d, e, f, g, i] = some (.agg (cC c.d S J)) := fun a b c' d e f g i J => ld_c34 hd (by simp)
  have g7 : ∀ a b c d e f g i (F : Int × Int × Int), stV 3 (.ptr 6 0 1) (fltV F) [a, b, c, d, e, f, ⟨1, some [i64 0, i64 0, i64 0]⟩, g, i] = some [a, b, c, d, e, f, ⟨1, some [i64 F.1, i64 F.2.1, i64 F.2.2]⟩, g, i] := fun _ _ _ _ _ _ _ _ _ => rfl
  have g7' : ∀ a b c d e f g i (F : Int × Int × Int), frzP 3 (.ptr 6 0 1) [a, b, c, d, e, f, ⟨1, some [i64 F.1, i64 F.2.1, i64 F.2.2]⟩, g, i] = some (.fz (fltV F), [a, b, c, d, e, f, ⟨2, none⟩, g, i]) := fun _ _ _ _ _ _ _ _ _ => rfl
  have g8 : ∀ a b c' d e f g i, stV 34 (.ptr 7 0 1) c.v [a, b, c', d, e, f, g, ⟨1, some (cC z32L .nils .nils)⟩, i] = some [a, b, c', d, e, f, g, ⟨1, some (cC c.d S (justsV c.js))⟩, i] := fun a b c' d e f g i => by
    rw [hcv]; exact st_c34 (E := z32L) (x' := .nils) (y' := .nils) hd rfl hSok rfl (by simp)
  have g8' : ∀ a b c' d e f g i, stV 32 (.ptr 7 0 1) (digV D) [a, b, c', d, e, f, g, ⟨1, some (cC c.d S (justsV c.js))⟩, i] = some [a, b, c', d, e, f, g, ⟨1, some (cC D S (justsV c.js))⟩, i] := fun a b c' d e f g i => by
    have e1 : List.drop 32 (cC c.d S (justsV c.js)) = [S, justsV c.js] := by
      unfold cC; rw [List.drop_append_of_le_length (by simp; omega), List.drop_of_length_le (by simp; omega)]; rfl
    simp [fits_digV hDl, cells_digV, hDl, cC_len hd, e1]
    rfl
  obtain ⟨b5, hb5, _⟩ := getE (l := D) (i := 5) (by omega)
  obtain ⟨D', hD'⟩ : ∃ D', D' = D.set 5 (b5 ^^^ 1#8) := ⟨_, rfl⟩
  have hDl' : D'.length = 32 := by rw [hD']; simpa using hDl
  have hne : D' ≠ digP p := by
    rw [← hD, hD']
    intro e
    have := congrArg (fun l => l[5]?) e
    simp only [List.getElem?_set, hb5, hDl] at this
    have h2 : b5 ^^^ 1#8 = b5 := by simpa using this
    have h3 := congrArg (fun x => x.getLsbD 0) h2
    simp at h3
  have g9 : ∀ a b c' d e f g i, ldV 0 (.ptr 7 5 1) [a, b, c', d, e, f, g, ⟨1, some (cC D S (justsV c.js))⟩, i] = some (u8 b5) := fun a b c' d e f g i => by
    rw [ldV_ptr, cellsAt_s, cellsAt_s, cellsAt_s, cellsAt_s, cellsAt_s, cellsAt_s, cellsAt_s, cellsAt_0, if_pos rfl, Option.bind_some, takeV_one, cC_at hb5]; rfl
  have g9' : ∀ a b c' d e f g i, stV 0 (.ptr 7 5 1) (u8 (b5 ^^^ 1#8)) [a, b, c', d, e, f, g, ⟨1, some (cC D S (justsV c.js))⟩, i] = some [a, b, c', d, e, f, g, ⟨1, some (cC D' S (justsV c.js))⟩, i] := fun a b c' d e f g i => by
    rw [st_set (cs := cC D S (justsV c.js)) rfl rfl rfl (by simp) (by rw [cC_len hDl]; omega), cC_set (by omega), ← hD']; rfl
  have g10 : ∀ a b c' d e f g i, ldV 34 (.ptr 7 0 1) [a, b, c', d, e, f, g, ⟨1, some (cC D' S (justsV c.js))⟩, i] = some (.agg (cC D' S (justsV c.js))) := fun a b c' d e f g i => ld_c34 hDl' (by simp)
  have g11 : ∀ a b c d e f g i (F : Int × Int × Int), stV 3 (.ptr 8 0 1) (fltV F) [a, b, c, d, e, f, g, i, ⟨1, some [i64 0, i64 0, i64 0]⟩] = some [a, b, c, d, e, f, g, i, ⟨1, some [i64 F.1, i64 F.2.1, i64 F.2.2]⟩] := fun _ _ _ _ _ _ _ _ _ => rfl
  have g11' : ∀ a b c d e f g i (F : Int × Int × Int), frzP 3 (.ptr 8 0 1) [a, b, c, d, e, f, g, i, ⟨1, some [i64 F.1, i64 F.2.1, i64 F.2.2]⟩] = some (.fz (fltV F), [a, b, c, d, e, f, g, i, ⟨2, none⟩]) := fun _ _ _ _ _ _ _ _ _ => rfl
  have l1 : V.int .u8 1 = u8 1#8 := rfl
  have hfq := fun a b => flt_eq .neq a b
  have hb1 : buildV [i64 0, i64 0, i64 0] [(0, 0, i64 (-1)), (1, 0, i64 (-1)), (2, 0, i64 1)] = some (fltV (-1, -1, 1)) := rfl
  have hck : ∀ js : List Just, ∃ f, (js.length ≠ p.g.toNat → f = (-1, -1, 1)) ∧ ∀ h, runF (tD (n + 28)) k_check_Check {} [p.v, .agg (cC c.d S (justsV js))] h = some (.tup [fltV f, i64 0], h) := by
    intro js
    obtain ⟨un, m, _, _, hr⟩ := (check_Check (n + 3) p ⟨c.d, c.l, js⟩ hsm hd (by show c.l.length < _; omega)).2 he
    refine ⟨_, fun hjs => checkF_shape ?_, by rw [hS]; exact hr.run⟩
    unfold shapeF
    rw [if_pos (.inr (by show (js.length : Int) ≠ p.g; omega))]
  have hck2 : ∃ f, (f = (-1, -1, 1) ∨ f = (-1, -1, 9)) ∧ ∀ h, runF (tD (n + 28)) k_check_Check {} [p.v, .agg (cC D' S (justsV c.js))] h = some (.tup [fltV f, i64 0], h) := by
    obtain ⟨un, m, _, _, hr⟩ := (check_Check (n + 3) p ⟨D', c.l, c.js⟩ hsm hDl' (by show c.l.length < _; omega)).2 he
    exact ⟨_, checkF_bound hne, by rw [hS]; exact hr.run⟩
  obtain ⟨f2, hf2, hck2⟩ := hck2
  have hf2' : f2.1 = -1 ∧ f2.2.1 = -1 ∧ (f2.2.2 = 1 ∨ f2.2.2 = 9) := by
    rcases hf2 with rfl | rfl
    · exact ⟨rfl, rfl, .inl rfl⟩
    · exact ⟨rfl, rfl, .inr rfl⟩
  obtain ⟨z1, z2, z3⟩ := hf2'
  have z1 := eq_true z1
  have z2 := eq_true z2
  cases more
  · by_cases hpos : 0 < p.g
    · obtain ⟨k, hk, _⟩ := natI (N := 17) hg1.1 (by omega)
      have hk0 : 0 < k := by omega
      obtain ⟨f1, hf1, hck1⟩ := hck (List.replicate (k - 1) ⟨0, 0⟩)
      have hf1 := hf1 (by simp; omega)
      have dpos := eq_true hpos
      have hsub : intV .sub (i64 p.g) (i64 1) = some (i64 ((k - 1 : Nat) : Int)) := by
        have e : (k : Int) - 1 = ((k - 1 : Nat) : Int) := by omega
        rw [hk, i64_sub (by omega) (by omega), e]
      have gmk : ∀ a b c d e f g i, mkSl (some 5) 4398046511104 2 [i64 0, i64 0] (i64 ((k - 1 : Nat) : Int)) (i64 ((k - 1 : Nat) : Int)) [a, b, c, d, e, ⟨0, none⟩, f, g, i] = some (.sl 5 0 (k - 1) (k - 1) 2 1, [a, b, c, d, e, ⟨1, some ((List.replicate (k - 1) (⟨0, 0⟩ : Just)).flatMap jC)⟩, f, g, i]) := fun a b c d e f g i => by
        rw [mk_justs (by omega)]; rfl
      have g5 : ∀ a b c' d e f g, frzC (.ptr 1 33 1) [a, ⟨1, some (cC c.d S (.sl 5 0 (k - 1) (k - 1) 2 1))⟩, b, c', d, ⟨1, some ((List.replicate (k - 1) (⟨0, 0⟩ : Just)).flatMap jC)⟩, e, f, g] = some [a, ⟨1, some (cC c.d S (justsV (List.replicate (k - 1) ⟨0, 0⟩)))⟩, b, c', d, ⟨2, none⟩, e, f, g] := fun a b c' d e f g => by
        have hfr := frz_justs (js := List.replicate (k - 1) (⟨0, 0⟩ : Just)) (k := 5) (c := k - 1) (st := 1) (h := [a, ⟨1, some (cC c.d S (.sl 5 0 (k - 1) (k - 1) 2 1))⟩, b, c', d, ⟨1, some ((List.replicate (k - 1) (⟨0, 0⟩ : Just)).flatMap jC)⟩, e, f, g]) (by simp)
        rw [List.length_replicate] at hfr
        rw [frzC_at (cs := cC c.d S (.sl 5 0 (k - 1) (k - 1) 2 1)) (by simp) (cC_33 hd _ _) hfr (by simp), cC_set33 hd]
        rfl
      obtain ⟨R, hR⟩ : ∃ R, R = List.replicate (k - 1) (⟨0, 0⟩ : Just) := ⟨_, rfl⟩
      obtain ⟨k1, hk1⟩ : ∃ k1, k1 = k - 1 := ⟨_, rfl⟩
      rw [← hR] at hck1 gmk g5
      rw [← hk1] at gmk g5 hsub
      have hq1 : aggEq .neq 3 [(0, 0), (1, 0), (2, 0)] (fltV f1) (fltV (-1, -1, 1)) = some (.bool false) := by rw [hfq, hf1]; rfl
      rcases z3 with z3 | z3
      · have z3 := eq_true z3
        simp -implicitDefEqProofs [-boxV_fz, -faV_fz, -stV_ptr, -ldV_ptr, -frzP_ptr, law20_CheckFirst_B, Prg.box, Cert.box hd, Cert.fits hd, haw, hsm', hsp, hfe', hfc, hdg, rep32, g0, g0', he, gld, gldp, hcz, g1, hfill, g2, gfa, g3, g4', gfp, hsub, gmk, dpos, cmds.faV', g5, g6, hck1, g7, g7', hb1, hb1, hq1, g8, ld_digV hDl, g8', iaA, g9, l1, g9', g10, hck2, g11, g11', gff1, gff2, flt_fa, z1, z2, z3]
      · have z4 := eq_false (show ¬ f2.2.2 = 1 by omega)
        have z3 := eq_true z3
        simp -implicitDefEqProofs [-boxV_fz, -faV_fz, -stV_ptr, -ldV_ptr, -frzP_ptr, law20_CheckFirst_B, Prg.box, Cert.box hd, Cert.fits hd, haw, hsm', hsp, hfe', hfc, hdg, rep32, g0, g0', he, gld, gldp, hcz, g1, hfill, g2, gfa, g3, g4', gfp, hsub, gmk, dpos, cmds.faV', g5, g6, hck1, g7, g7', hb1, hb1, hq1, g8, ld_digV hDl, g8', iaA, g9, l1, g9', g10, hck2, g11, g11', gff1, gff2, flt_fa, z1, z2, z3, z4]
    · obtain ⟨f1, _, hck1⟩ := hck c.js
      have dpos := eq_false hpos
      have g5 : ∀ a c' d e f g i, frzC (.ptr 1 33 1) [a, ⟨1, some (cC c.d S (.sl 2 0 c.js.length c.js.length 2 st2))⟩, ⟨st2, some (c.js.flatMap jC)⟩, c', d, e, f, g, i] = some [a, ⟨1, some (cC c.d S (justsV c.js))⟩, ⟨st2 + 1, none⟩, c', d, e, f, g, i] := fun a c' d e f g i => by
        have hfr := frz_justs (js := c.js) (k := 2) (c := c.js.length) (st := st2) (h := [a, ⟨1, some (cC c.d S (.sl 2 0 c.js.length c.js.length 2 st2))⟩, ⟨st2, some (c.js.flatMap jC)⟩, c', d, e, f, g, i]) (by simp)
        rw [frzC_at (cs := cC c.d S (.sl 2 0 c.js.length c.js.length 2 st2)) (by simp) (cC_33 hd _ _) hfr (by simp), cC_set33 hd]
        rfl
      rcases z3 with z3 | z3
      · have z3 := eq_true z3
        simp -implicitDefEqProofs [-boxV_fz, -faV_fz, -stV_ptr, -ldV_ptr, -frzP_ptr, law20_CheckFirst_B, Prg.box, Cert.box hd, Cert.fits hd, haw, hsm', hsp, hfe', hfc, hdg, rep32, g0, g0', he, gld, gldp, hcz, g1, hfill, g2, gfa, g3, g4', gfp, dpos, cmds.faV', g5, g6, hck1, g7, g7', hb1,  g8, ld_digV hDl, g8', iaA, g9, l1, g9', g10, hck2, g11, g11', gff1, gff2, flt_fa, z1, z2, z3]
      · have z4 := eq_false (show ¬ f2.2.2 = 1 by omega)
        have z3 := eq_true z3
        simp -implicitDefEqProofs [-boxV_fz, -faV_fz, -stV_ptr, -ldV_ptr, -frzP_ptr, law20_CheckFirst_B, Prg.box, Cert.box hd, Cert.fits hd, haw, hsm', hsp, hfe', hfc, hdg, rep32, g0, g0', he, gld, gldp, hcz, g1, hfill, g2, gfa, g3, g4', gfp, dpos, cmds.faV', g5, g6, hck1, g7, g7', hb1,  g8, ld_digV hDl, g8', iaA, g9, l1, g9', g10, hck2, g11, g11', gff1, gff2, flt_fa, z1, z2, z3, z4]
  · obtain ⟨f1, hf1, hck1⟩ := hck (List.replicate (p.g.toNat + 1) ⟨0, 0⟩)
    have hf1 := hf1 (by simp)
    obtain ⟨k, hk, _⟩ := natI (N := 17) hg1.1 (by omega)
    have hadd : intV .add (i64 p.g) (i64 1) = some (i64 ((k + 1 : Nat) : Int)) := by rw [i64_add (by omega) (by omega), hk]; rfl
    have hkt : p.g.toNat = k := by omega
    rw [hkt] at hck1
    have gmk : ∀ a b c d e f g i, mkSl (some 4) 4398046511104 2 [i64 0, i64 0] (i64 ((k + 1 : Nat) : Int)) (i64 ((k + 1 : Nat) : Int)) [a, b, c, d, ⟨0, none⟩, e, f, g, i] = some (.sl 4 0 (k + 1) (k + 1) 2 1, [a, b, c, d, ⟨1, some ((List.replicate (k + 1) (⟨0, 0⟩ : Just)).flatMap jC)⟩, e, f, g, i]) := fun a b c d e f g i => by
      rw [mk_justs (by omega)]; rfl
    have g5 : ∀ a b c' d e f g, frzC (.ptr 1 33 1) [a, ⟨1, some (cC c.d S (.sl 4 0 (k + 1) (k + 1) 2 1))⟩, b, c', ⟨1, some ((List.replicate (k + 1) (⟨0, 0⟩ : Just)).flatMap jC)⟩, d, e, f, g] = some [a, ⟨1, some (cC c.d S (justsV (List.replicate (k + 1) ⟨0, 0⟩)))⟩, b, c', ⟨2, none⟩, d, e, f, g] := fun a b c' d e f g => by
      have hfr := frz_justs (js := List.replicate (k + 1) (⟨0, 0⟩ : Just)) (k := 4) (c := k + 1) (st := 1) (h := [a, ⟨1, some (cC c.d S (.sl 4 0 (k + 1) (k + 1) 2 1))⟩, b, c', ⟨1, some ((List.replicate (k + 1) (⟨0, 0⟩ : Just)).flatMap jC)⟩, d, e, f, g]) (by simp)
      rw [List.length_replicate] at hfr
      rw [frzC_at (cs := cC c.d S (.sl 4 0 (k + 1) (k + 1) 2 1)) (by simp) (cC_33 hd _ _) hfr (by simp), cC_set33 hd]
      rfl
    obtain ⟨R, hR⟩ : ∃ R, R = List.replicate (k + 1) (⟨0, 0⟩ : Just) := ⟨_, rfl⟩
    obtain ⟨k1, hk1⟩ : ∃ k1, k1 = k + 1 := ⟨_, rfl⟩
    rw [← hR] at hck1 gmk g5
    rw [← hk1] at gmk g5 hadd
    have hq1 : aggEq .neq 3 [(0, 0), (1, 0), (2, 0)] (fltV f1) (fltV (-1, -1, 1)) = some (.bool false) := by rw [hfq, hf1]; rfl
    rcases z3 with z3 | z3
    · have z3 := eq_true z3
      simp -implicitDefEqProofs [-boxV_fz, -faV_fz, -stV_ptr, -ldV_ptr, -frzP_ptr, law20_CheckFirst_B, Prg.box, Cert.box hd, Cert.fits hd, haw, hsm', hsp, hfe', hfc, hdg, rep32, g0, g0', he, gld, gldp, hcz, g1, hfill, g2, gfa, g3, g4', gfp, hadd, gmk, cmds.faV', g5, g6, hck1, g7, g7', hb1, hq1, g8, ld_digV hDl, g8', iaA, g9, l1, g9', g10, hck2, g11, g11', gff1, gff2, flt_fa, z1, z2, z3]
    · have z4 := eq_false (show ¬ f2.2.2 = 1 by omega)
      have z3 := eq_true z3
      simp -implicitDefEqProofs [-boxV_fz, -faV_fz, -stV_ptr, -ldV_ptr, -frzP_ptr, law20_CheckFirst_B, Prg.box, Cert.box hd, Cert.fits hd, haw, hsm', hsp, hfe', hfc, hdg, rep32, g0, g0', he, gld, gldp, hcz, g1, hfill, g2, gfa, g3, g4', gfp, hadd, gmk, cmds.faV', g5, g6, hck1, g7, g7', hb1, hq1, g8, ld_digV hDl, g8', iaA, g9, l1, g9', g10, hck2, g11, g11', gff1, gff2, flt_fa, z1, z2, z3, z4]
end Mini
end
/- How a call's arguments, and listed variables, read as values of the small machine; the world when a call begins. -/
section
set_option linter.unusedVariables false
set_option linter.unusedSimpArgs false
namespace Mini
open Go Go.ChangeShapes Go.WideShapes
/-- No slot is used. -/
def sg0 : Sg := ⟨fun _ => ⟨0, none⟩, fun _ => False⟩
theorem frz0 {w : World} {b : Nat} (h : b < w.heap.size) : Frz sg0 w b := ⟨h, fun _ _ e => by simp [sg0] at e, fun h => h⟩
theorem hrel0 (w : World) : HRel sg0 [] w :=
  ⟨fun k => by simp [sg0], fun k => by simp [sg0, SlotRel], fun _ _ _ _ _ e => by simp [sg0] at e, fun _ h => h.elim, fun _ _ _ e => by simp [sg0] at e⟩
abbrev FR (w : World) := FRel (Frz sg0 w) w
/-- Cells by cells. -/
def FC (w : World) (l : List V) (cs : List Value) : Prop := l.length = cs.length ∧ ∀ i (h : i < l.length) (h' : i < cs.length), FR w (l[i]) (cs[i])
theorem FC.nil {w : World} : FC w [] [] := ⟨rfl, fun i h => by simp at h⟩
theorem FC.one {w : World} {v : V} {x : Value} (h : FR w v x) : FC w [v] [x] := ⟨rfl, fun i h1 h2 => by
  have : i = 0 := by simpa using h1
  subst this
  exact h⟩
theorem FC.append {w : World} {l m : List V} {cs ds : List Value} (h : FC w l cs) (g : FC w m ds) : FC w (l ++ m) (cs ++ ds) := by
  refine ⟨by simp [h.1, g.1], fun i h1 h2 => ?_⟩
  by_cases hi : i < l.length
  · have hi' : i < cs.length := by rw [← h.1]; exact hi
    rw [List.getElem_append_left hi, List.getElem_append_left hi']
    exact h.2 i hi hi'
  · have hl := h.1
    simp only [List.length_append] at h1 h2
    rw [List.getElem_append_right (by omega), List.getElem_append_right (by omega)]
    have := g.2 (i - l.length) (by omega) (by omega)
    simpa [hl] using this
section
variable {P : Program}
/-- What cells of a type read as: of whatever world. -/
def RC (P : Program) (t : TypeId) (p : List V → Prop) : Prop := ∀ (H : Type) (enc : TypeId × Value → H) (w : World) (fuel : Nat) (cs : List Value) (x : DataW H × List MemPlace),
  DataW.trod enc P w 0 (fun _ => true) true fuel t cs = some x → ∃ l, p l ∧ FC w l cs
theorem RC.mono {t : TypeId} {p q : List V → Prop} (h : RC P t p) (hq : ∀ l, p l → q l) : RC P t q := fun H enc w fuel cs x e =>
  let ⟨l, hl, hf⟩ := h H enc w fuel cs x e
  ⟨l, hq l hl, hf⟩
theorem rc_int {t : TypeId} {k : IntKind} (ht : P.underlying t = some (.int k)) : RC P t (fun l => ∃ n, (Lit.int k n).wf = true ∧ l = [.int k n]) := fun H enc w fuel cs x e => by
  obtain ⟨n, rfl, rfl, hw⟩ := DataW.trod_int ht e
  exact ⟨_, ⟨n, hw, rfl⟩, .one (.int _ _)⟩
theorem rc_bool {t : TypeId} (ht : P.underlying t = some .bool) : RC P t (fun l => ∃ b, l = [.bool b]) := fun H enc w fuel cs x e => by
  cases fuel with
  | zero => simp [DataW.trod] at e
  | succ n =>
    unfold DataW.trod at e
    rw [ht] at e
    split at e
    case h_1 _ b _ => exact ⟨_, ⟨b, rfl⟩, .one (.bool _)⟩
    all_goals simp_all
theorem rc_str {t : TypeId} (ht : P.underlying t = some .string) : RC P t (fun l => ∃ s : ByteArray, s.size ≤ maxLen ∧ l = [.str s]) := fun H enc w fuel cs x e => by
  obtain ⟨s, rfl, rfl, hs⟩ := DataW.trod_string ht e
  exact ⟨_, ⟨s, hs, rfl⟩, .one (.str _)⟩
/-- Fields from off on, of N cells. -/
def RS (P : Program) (fs : List Field) (off N : Nat) (p : List V → Prop) : Prop := ∀ (H : Type) (enc : TypeId × Value → H) (w : World) (fuel : Nat) (cs : List Value), cs.length = N →
  (∀ f ∈ fs, ∃ x, DataW.trod enc P w 0 (fun _ => true) true fuel f.type ((cs.drop f.offset).take (P.cellsOf f.type)) = some x) → ∃ l, p l ∧ FC w l (cs.drop off)
theorem rs_nil {N : Nat} : RS P [] N N (fun l => l = []) := fun H enc w fuel cs hl _ => ⟨[], rfl, by rw [List.drop_of_length_le (by omega)]; exact .nil⟩
theorem rs_cons {f : Field} {fs : List Field} {off N n : Nat} {p q : List V → Prop} (ho : f.offset = off) (hn : P.cellsOf f.type = n) (h : RC P f.type p) (g : RS P fs (off + n) N q) :
    RS P (f :: fs) off N (fun l => ∃ a b, p a ∧ q b ∧ l = a ++ b) := fun H enc w fuel cs hl hx => by
  obtain ⟨x, e⟩ := hx f (by simp)
  obtain ⟨a, ha, fa⟩ := h H enc w fuel _ x e
  obtain ⟨b, hb, fb⟩ := g H enc w fuel cs hl fun f' hf => hx f' (by simp [hf])
  refine ⟨a ++ b, ⟨a, b, ha, hb, rfl⟩, ?_⟩
  rw [ho, hn] at fa
  have : cs.drop off = (cs.drop off).take n ++ cs.drop (off + n) := by rw [← List.drop_drop, List.take_append_drop]
  rw [this]
  exact fa.append fb
theorem rc_struct {t : TypeId} {fs : Array Field} {N : Nat} {p : List V → Prop} (ht : P.underlying t = some (.struct fs)) (hN : P.cellsOf t = N) (h : RS P fs.toList 0 N p) : RC P t p := fun H enc w fuel cs x e => by
  obtain ⟨xs, n, rfl, rfl, hl, hlen, hf⟩ := DataW.trod_struct ht e
  have := h H enc w n cs (by rw [hl, hN]) fun f hm => by
    obtain ⟨i, hi, rfl⟩ := List.getElem_of_mem hm
    have hi' : i < fs.size := by simpa using hi
    have e := hf i fs[i] (by simp [hi'])
    rw [List.getElem?_eq_getElem (by omega)] at e
    exact ⟨_, by simpa using e⟩
  simpa using this
/-- An array of one-cell elements. -/
theorem rc_array {t e : TypeId} {m : Nat} {S : Type} {g : S → V} {Q : S → Prop} (ht : P.underlying t = some (.array m e)) (hm : P.cellsOf t = m) (he : P.cellsOf e = 1) (h : RC P e (fun l => ∃ s, Q s ∧ l = [g s])) :
    RC P t (fun l => ∃ ss : List S, ss.length = m ∧ (∀ s ∈ ss, Q s) ∧ l = ss.map g) := fun H enc w fuel cs x e => by
  obtain ⟨xs, n, rfl, rfl, hl, hlen, hf⟩ := DataW.trod_array ht e
  rw [he] at hf
  rw [hm] at hl
  have : ∀ k, k ≤ m → ∃ ss : List S, ss.length = k ∧ (∀ s ∈ ss, Q s) ∧ FC w (ss.map g) (cs.take k) := by
    intro k
    induction k with
    | zero => exact fun _ => ⟨[], rfl, fun _ h => by simp at h, .nil⟩
    | succ k ih =>
      intro hk
      obtain ⟨ss, h1, h2, h3⟩ := ih (by omega)
      have ek := hf k (by omega)
      rw [List.getElem?_eq_getElem (by omega), Nat.mul_one] at ek
      obtain ⟨l, ⟨s, hq, rfl⟩, fl⟩ := h H enc w n _ _ ek
      refine ⟨ss ++ [s], by simp [h1], fun s' hs' => ?_, ?_⟩
      · rcases List.mem_append.1 hs' with hs' | hs'
        · exact h2 s' hs'
        · rw [List.mem_singleton.1 hs']; exact hq
      · have e2 : cs.take (k + 1) = cs.take k ++ (cs.drop k).take 1 := by rw [List.take_add]
        rw [e2, List.map_append]
        exact h3.append fl
  obtain ⟨ss, h1, h2, h3⟩ := this m (Nat.le_refl _)
  rw [List.take_of_length_le (by omega)] at h3
  exact ⟨_, ⟨ss, h1, h2, rfl⟩, h3⟩
/-- A slice. -/
theorem rc_slice {t e : TypeId} {n : Nat} {S : Type} {g : S → V} {Q : S → Prop} (ht : P.underlying t = some (.slice e)) (hn : P.cellsOf e = n) (hpos : 0 < n) (hg : ∀ s, Q s → (g s).cells.length = n)
    (h : RC P e (fun l => ∃ s, Q s ∧ l = (g s).cells)) : RC P t (fun l => ∃ ss : List S, ss.length ≤ maxLen ∧ (∀ s ∈ ss, Q s) ∧ l = [.vec (ss.map g)]) := fun H enc w fuel cs x ex => by
  rcases Go.Deep.open_slice ht ex with ⟨rfl, _⟩ | ⟨a, len, cap, m, k, D, Pl, rfl, _, hlc, hcm, hm, rfl, hx⟩
  · exact ⟨_, ⟨[], by simp, fun _ h => by simp at h, rfl⟩, .one (.vec0 _ _)⟩
  have hmc : m = cap := hm
  subst hmc
  by_cases h0 : len = 0
  · subst h0
    exact ⟨_, ⟨[], by simp, fun _ h => by simp at h, rfl⟩, .one (.vec0 _ _)⟩
  have key : ∀ i, i < len → ∃ (y : S × List Value), Q y.1 ∧ y.2.length = n ∧ (∀ j, j < n → w.cell? ((a.add (i * n)).add j) = y.2[j]?) ∧ FC w (g y.1).cells y.2 := by
    intro i hi
    obtain ⟨cs', h1, h2⟩ := hx i (by omega)
    rw [hn] at h1
    obtain ⟨_, hl, hc⟩ := World.cells?_some h1
    obtain ⟨l, ⟨s, hq, rfl⟩, fl⟩ := h H enc w _ _ _ h2
    exact ⟨(s, cs'), hq, hl, hc, fl⟩
  obtain ⟨y0, hq0, hl0, hc0, fl0⟩ := key 0 (by omega)
  haveI : Inhabited (S × List Value) := ⟨y0⟩
  obtain ⟨f, hf⟩ := Go.Deep.choose_lt key
  obtain ⟨b, o, spot⟩ := a
  have c0 := (hf 0 (by omega)).2.2.1 0 hpos
  rw [List.getElem?_eq_getElem (by rw [(hf 0 (by omega)).2.1]; omega)] at c0
  have hspot : spot = none := by simpa [Addr.add] using World.cell?_spot c0
  subst hspot
  have hb : b < w.heap.size := by
    have : w.cell? ⟨b, o, none⟩ = some ((f 0).2[0]'(by rw [(hf 0 (by omega)).2.1]; omega)) := by simpa [Addr.add] using c0
    unfold World.cell? at this
    split at this
    · rename_i hh
      exact (Array.getElem?_eq_some_iff.1 hh).1
    · simp at this
  refine ⟨_, ⟨(List.range len).map fun i => (f i).1, by simpa using Nat.le_trans hlc hcm, fun s hs => ?_, rfl⟩, .one ?_⟩
  · obtain ⟨i, hi, rfl⟩ := List.mem_map.1 hs
    exact (hf i (by simpa using hi)).1
  · have hl : (((List.range len).map fun i => (f i).1).map g).length = len := by simp
    have := FRel.vec (fr := Frz sg0 w) (w := w) (((List.range len).map fun i => (f i).1).map g) b o m n (fun i j => (f i).2.getD j undef) (frz0 hb) (by rw [hl]; exact hlc) (fun i hi => by
        have hi' : i < len := by simpa using hi
        simpa using hg _ (hf i hi').1) (fun i j hi hj => by
        have hi' : i < len := by simpa using hi
        have := (hf i hi').2.2.1 j hj
        rw [add_plain, add_plain, List.getElem?_eq_getElem (by rw [(hf i hi').2.1]; exact hj)] at this
        rw [← Nat.add_assoc, this, List.getD_eq_getElem?_getD, List.getElem?_eq_getElem (by rw [(hf i hi').2.1]; exact hj)]
        rfl) (fun i hi j hj => by
        have hi' : i < len := by simpa using hi
        have fl := (hf i hi').2.2.2
        have hj' : j < (g (f i).1).cells.length := by simpa using hj
        have hj2 : j < (f i).2.length := by rw [← fl.1]; exact hj'
        have := fl.2 j hj' hj2
        rw [List.getD_eq_getElem?_getD, List.getElem?_eq_getElem hj2]
        simpa using this)
    rw [hl] at this
    exact this
/-- An argument that is a struct. -/
theorem arg_struct {H : Type} {enc : TypeId × Value → H} {W : World} {r : Go.Reach} {b0 : Nat} {t : TypeId} {fs : Array Field} {v : Value} {d : DataW H} {ps : List MemPlace} {p : List V → Prop} (hr : RC P t p)
    (ht : P.underlying t = some (.struct fs)) (hval : Value.okWide P W r b0 t v) (h : DataW.Trod enc P W 0 (fun _ => true) true t v d ps) : ∃ l, p l ∧ FR W (.agg l) v := by
  obtain ⟨fuel, e⟩ := h
  obtain ⟨l, hl, hf⟩ := hr H enc W fuel _ _ e
  unfold Value.okWide at hval
  rw [ht] at hval
  obtain ⟨cs, rfl, _, _⟩ := hval
  refine ⟨l, hl, .agg _ _ (by simpa [Value.cells] using hf.1) fun i hi => ?_⟩
  have hi' : i < cs.size := by have := hf.1; simp [Value.cells] at this; omega
  have := hf.2 i hi (by simpa [Value.cells] using hi')
  simpa [Value.cells] using this
/-- An argument of one cell. -/
theorem arg_one {H : Type} {enc : TypeId × Value → H} {W : World} {r : Go.Reach} {b0 : Nat} {t : TypeId} {v : Value} {d : DataW H} {ps : List MemPlace} {p : List V → Prop} (hr : RC P t p)
    (hv : v.cells = #[v]) (h : DataW.Trod enc P W 0 (fun _ => true) true t v d ps) : ∃ l x, p l ∧ l = [x] ∧ FR W x v := by
  obtain ⟨fuel, e⟩ := h
  obtain ⟨l, hl, hf⟩ := hr H enc W fuel _ _ e
  rw [hv] at hf
  obtain ⟨h1, h2⟩ := hf
  match l, h1 with
  | [x], _ => exact ⟨_, x, hl, rfl, h2 0 (by simp) (by simp)⟩
/-! ### listed variables -/
/-- A listed table of whole numbers. -/
theorem var_ints {H : Type} {enc : TypeId × Value → H} {W : World} {spare : Nat → Bool} {held : Bool} {name : String} {g t t' e m : Nat} {k : IntKind} {cs : Array Value} {fuel : Nat} {p : List MemPlace} {ls : List Int}
    (hv : W.var? P name = some cs) (hg : P.globalNamed name = some g) (ht : P.underlying t = some (.array m e)) (he : P.underlying e = some (.int k)) (h1 : P.cellsOf e = 1)
    (h : DataW.trod enc P W 0 spare held fuel t cs.toList = some (.agg (ls.map fun n => .lit (.int k n)), p)) : FR W (.fz (.agg (ls.map (V.int k)))) (.pointer (some ⟨g, 0, none⟩)) := by
  obtain ⟨xs, n, rfl, hx, hl, hlen, hf⟩ := DataW.trod_array ht h
  rw [h1] at hf
  simp only [Prod.mk.injEq, DataW.agg.injEq] at hx
  have hx1 := hx.1
  have hlm : ls.length = m := by
    have := congrArg List.length hx1
    simp at this
    omega
  have cell : ∀ j (hj : j < ls.length), W.cell? ⟨g, j, none⟩ = some (.int k ls[j]) := by
    intro j hj
    have ej := hf j (by omega)
    rw [List.getElem?_eq_getElem (by omega), Nat.mul_one] at ej
    obtain ⟨q, e1, e2, _⟩ := DataW.trod_int he ej
    have hq : ls[j] = q := by
      have : (ls.map fun n => (DataW.lit (.int k n) : DataW H))[j]'(by simpa using hj) = (xs.map (·.1))[j]'(by simp; omega) := by simp only [hx1]
      simp [e2] at this
      exact this
    rw [World.var?_cell hg hv j, hq]
    have : (cs.toList.drop j)[0]? = some (.int k q) := by
      have h3 : ((cs.toList.drop j).take 1)[0]? = some (.int k q) := by rw [e1]; rfl
      rw [List.getElem?_take] at h3
      simpa using h3
    simpa using this
  by_cases h0 : ls.length = 0
  · have : ls = [] := List.eq_nil_of_length_eq_zero h0
    subst this
    have hb : g < W.heap.size := by
      simp only [World.var?, hg, Option.bind_some] at hv
      split at hv
      · rename_i hh
        exact (Array.getElem?_eq_some_iff.1 hh).1
      · simp at hv
    exact .fz _ g 0 (fun _ => undef) (frz0 hb) (fun j hj => by simp [V.cells] at hj) (fun j hj => by simp [V.cells] at hj)
  · have hb : g < W.heap.size := by
      have := cell 0 (by omega)
      unfold World.cell? at this
      split at this
      · rename_i hh
        exact (Array.getElem?_eq_some_iff.1 hh).1
      · simp at this
    exact .fz _ g 0 (fun j => .int k (ls.getD j 0)) (frz0 hb) (fun j hj => by
      have hj' : j < ls.length := by simpa [V.cells] using hj
      rw [Nat.zero_add, cell j hj', List.getD_eq_getElem?_getD, List.getElem?_eq_getElem hj']
      rfl) (fun j hj => by
      have hj' : j < ls.length := by simpa [V.cells] using hj
      simp only [V.cells, List.getElem_map]
      rw [List.getD_eq_getElem?_getD, List.getElem?_eq_getElem hj']
      exact .int _ _)
/-! ### a whole call -/
theorem calls_of_ret {G : Nat → V} {An : Nat → Ann} (hm : P.follows .mixedOrders = true) {n f : Nat} {args : List V} {b : Bool} (R : Ret P G An n f args (.bool b)) {W : World} {xs : Array Value}
    (hG : ∀ g, FR W (G g) (.pointer (some ⟨g, 0, none⟩))) (hl : args.length = xs.size) (ha : ∀ i (h : i < args.length) (h' : i < xs.size), FR W (args[i]) (xs[i])) :
    Calls P f xs W fun e W' => e = .returned (.bool b) ∧ Go.RowKit.Below W.heap.size W W' := by
  obtain ⟨_, hv, h', e⟩ := R
  unfold dn at e
  obtain ⟨F, hF, e⟩ := Option.bind_eq_some_iff.1 e
  refine ((den_sound P G An hm n f F hF).run args [] _ h' e sg0 W xs (hrel0 W) hG ⟨hl, fun i h h' => .frz (ha i h h')⟩).mono ?_
  rintro en W' ⟨x, σ', rfl, hx, _, hr⟩
  rw [hr.bool_inv]
  exact ⟨rfl, ⟨hx.os, hx.tape, hx.output, hx.size, fun k hk => hx.block k hk fun _ _ e => by simp [sg0] at e⟩⟩
end
end Mini
end
