/- A part of the proof: S3, S4, S5, Bits, S6, S7, S8, S9, S10, S11, S12, S13, S14, S15, S16, S17. -/
import Derived.Test.YtpfekfkkcjfimaaDoorMini2
section
namespace Mini
open Go
set_option linter.unusedSimpArgs false
set_option linter.unusedVariables false
/-! ### prog: calls that go round -/
def CallTo (p : Prg) (f g : Nat) : Prop := ∃ l x, p.fs[f]? = some l ∧ x ∈ l ∧ x.kind = 7 ∧ x.arg = (g : Int)
inductive Reach (p : Prg) : Nat → Nat → Prop
  | refl (f : Nat) : Reach p f f
  | step {f g h : Nat} (c : CallTo p f g) (r : Reach p g h) : Reach p f h
def WellCalls (p : Prg) : Prop := ∀ l ∈ p.fs, ∀ x ∈ l, x.kind = 7 → 0 ≤ x.arg ∧ x.arg < p.fs.length
structure Dfs (p : Prg) (a b : Nat) (seen : List Bool) (r : Bool) (seen' : List Bool) : Prop where
  len : seen'.length = seen.length
  mono : ∀ i : Nat, seen[i]? = some true → seen'[i]? = some true
  yes : r = true → Reach p a b
  no : r = false → seen'[a]? = some true ∧ ∀ u : Nat, seen'[u]? = some true → seen[u]? = some true ∨ (u ≠ b ∧ ∀ g : Nat, CallTo p u g → seen'[g]? = some true)
def cntF (l : List Bool) : Nat := l.countP (fun b => !b)
theorem cntF_set {l : List Bool} {i : Nat} (h : l[i]? = some false) : cntF (l.set i true) + 1 = cntF l := by
  induction l generalizing i with
  | nil => simp at h
  | cons a l ih =>
    cases i with
    | zero =>
      simp at h
      subst h
      simp [cntF]
    | succ i =>
      simp at h
      have := ih h
      simp only [cntF, List.set_cons_succ, List.countP_cons] at this ⊢
      omega
theorem cntF_mono {l m : List Bool} (hl : m.length = l.length) (h : ∀ i : Nat, l[i]? = some true → m[i]? = some true) : cntF m ≤ cntF l := by
  induction l generalizing m with
  | nil =>
    cases m with
    | nil => simp
    | cons => simp at hl
  | cons a l ih =>
    cases m with
    | nil => simp at hl
    | cons b m =>
      have := ih (m := m) (by simpa using hl) (fun i hi => by simpa using h (i + 1) (by simpa using hi))
      have h0 := h 0
      simp only [cntF, List.countP_cons] at this ⊢
      cases a <;> cases b <;> simp at h0 ⊢ <;> omega
theorem prog_reaches (p : Prg) (wc : WellCalls p) (hsm : SmallP p) (hN : p.fs.length < 1000000) (b : Nat) : ∀ (d : Nat) (seen : List Bool) (a st : Nat), cntF seen < d → seen.length = p.fs.length → a < p.fs.length →
    ∃ r seen' hr, dn PR gD anD d k_prog_reaches [p.v, i64 a, i64 b, .sl 0 0 p.fs.length p.fs.length 0 st] [⟨st, some (seen.map .bool)⟩] = some (.bool r, ⟨st, some (seen'.map .bool)⟩ :: hr) ∧ Dfs p a b seen r seen' := by
  intro d
  induction d with
  | zero => intro seen a st h; omega
  | succ n ih =>
    intro seen a st hc hl ha
    rw [prog_reaches_eq]
    by_cases hab : a = b
    · subst hab
      exact ⟨true, seen, [⟨0, none⟩], by simp -implicitDefEqProofs [prog_reaches_B], rfl, fun i h => h, fun _ => .refl _, fun h => by simp at h⟩
    have hab' : ¬ (a : Int) = b := by omega
    obtain ⟨sa, hsa⟩ : ∃ sa, seen[a]? = some sa := ⟨seen[a], by simp [hl, ha]⟩
    have i1 := iaS_sl (sz := 0) (k := 0) (off := 0) (cap := p.fs.length) (st := st) ha
    simp at i1
    cases sa
    · obtain ⟨F, hF, hFm⟩ := getE ha
      have hFl : F.length < 4611686018427387904 := hsm.2 F hFm
      -- the loop
      obtain ⟨seen1, hs1⟩ : ∃ s1, s1 = seen.set a true := ⟨_, rfl⟩
      have hc1 : cntF seen1 < n := by have := cntF_set hsa; rw [hs1]; omega
      have hl1 : seen1.length = p.fs.length := by rw [hs1]; simpa using hl
      have hm1 : ∀ i : Nat, seen[i]? = some true → seen1[i]? = some true := by
        intro i h
        rw [hs1, List.getElem?_set]
        split
        · rename_i e; subst e; simp [hl, ha]
        · exact h
      have h1a : seen1[a]? = some true := by rw [hs1, List.getElem?_set]; simp [hl, ha]
      have h1n : ∀ u : Nat, seen1[u]? = some true → seen[u]? = some true ∨ u = a := by
        intro u hu
        rw [hs1, List.getElem?_set] at hu
        split at hu
        · rename_i e; exact .inr e.symm
        · exact .inl hu
      have key : ∃ r seen', Dfs p a b seen r seen' ∧ W (prog_reaches_B n p.v (i64 a) (i64 b) (.sl 0 0 p.fs.length p.fs.length 0 st) [⟨st, some (seen.map .bool)⟩, ⟨0, none⟩])
          (fun _ => False) (fun o => ∃ hr, o = .ret (.bool r) (⟨st, some (seen'.map .bool)⟩ :: hr)) := by
        suffices hw : ∃ Q : Out → Prop, W (prog_reaches_B n p.v (i64 a) (i64 b) (.sl 0 0 p.fs.length p.fs.length 0 st) [⟨st, some (seen.map .bool)⟩, ⟨0, none⟩]) (fun _ => False) Q ∧
            ∀ o, Q o → ∃ r seen', Dfs p a b seen r seen' ∧ ∃ hr, o = .ret (.bool r) (⟨st, some (seen'.map .bool)⟩ :: hr) by
          obtain ⟨Q, ⟨o, ho, hq⟩, hQ⟩ := hw
          cases o with
          | normal s => exact hq.elim
          | exit i s => obtain ⟨r, s', _, hr, e⟩ := hQ _ hq; simp at e
          | ret v h =>
            obtain ⟨r, s', hd, hr, e⟩ := hQ _ hq
            exact ⟨r, s', hd, .ret v h, ho, hr, e⟩
        refine ⟨fun o => ∃ r seen', Dfs p a b seen r seen' ∧ ∃ hr, o = .ret (.bool r) (⟨st, some (seen'.map .bool)⟩ :: hr), ?_, fun o h => h⟩
        have l1 := ld_row (f := V.bool) (fun _ => rfl) (l := seen) (i := a) (k := 0) (st := st) (h := [⟨st, some (seen.map .bool)⟩, ⟨0, none⟩]) (by simp) hsa
        have s1 := st_row (f := V.bool) (fun _ => rfl) (fun _ => rfl) (fun _ => rfl) (l := seen) (i := a) (k := 0) (st := st) (a := true) (h := [⟨st, some (seen.map .bool)⟩, ⟨0, none⟩]) (by simp) (by omega)
        rw [← hs1] at s1
        simp only [hset] at s1
        simp -implicitDefEqProofs [-ldV_ptr, -stV_ptr, prog_reaches_B, hab', i1, l1, s1, ia_funcsE hF]
        refine W_up F.length (fun i s => ∃ seeni st1, At s [(2, i64 b), (3, .sl 0 0 p.fs.length p.fs.length 0 st), (4, .fz p.v), (25, nodesV F), (26, i64 F.length), (27, i64 i)] [⟨st, some (seeni.map .bool)⟩, ⟨st1, none⟩] ∧
          seeni.length = p.fs.length ∧ (∀ u : Nat, seen1[u]? = some true → seeni[u]? = some true) ∧ (∀ u : Nat, seeni[u]? = some true → seen1[u]? = some true ∨ (u ≠ b ∧ ∀ g : Nat, CallTo p u g → seeni[g]? = some true)) ∧
          ∀ (j : Nat) (x : Node), j < i → F[j]? = some x → x.kind = 7 → ∀ g : Nat, x.arg = g → seeni[g]? = some true) ?_ ?_ (Nat.zero_le _) ⟨seen1, 0, by simp, hl1, fun u h => h, fun u h => .inl h, by omega⟩
        · rintro i s hi ⟨seeni, st1, hs, h2, h3, h4, h5⟩
          have hai := i64_inc hi hFl
          obtain ⟨x, hx, hxm⟩ := getE hi
          simp at hs
          by_cases h7 : x.kind = 7
          · have d7 : decide (x.kind = 7) = true := by simp [h7]
            obtain ⟨g1, g2⟩ := wc F hFm x hxm h7
            obtain ⟨g, hg, hgl⟩ := natI g1 g2
            have hci : cntF seeni < n := Nat.lt_of_le_of_lt (cntF_mono (by omega) h3) hc1
            obtain ⟨r, seen', hr, e, D⟩ := ih seeni g 0 hci h2 hgl
            have hrun := run_row (P := PR) (G := gD) (An := anD) (n := n) (f := k_prog_reaches) (k := 0) (st := st) (h := [⟨st, some (seeni.map .bool)⟩, ⟨st1 + 2, none⟩]) (args := [p.v, i64 x.arg, i64 b, .sl 0 0 p.fs.length p.fs.length 0 st]) rfl (noRef_map (fun _ => rfl) _) rfl
              (by rw [hg]; simp [entM, renL, V.ren, hget, idxIn, (noRef_ren _).1 p.v rfl]; exact e) rfl (noRef_map (fun _ => rfl) _)
            simp at hrun
            cases r
            · obtain ⟨hga, hgn⟩ := D.no rfl
              simp -implicitDefEqProofs [prog_reaches_L0, hs, hi, ia_nodesE hx, d7, hrun, hai]
              refine ⟨seen', rfl, by rw [D.len, h2], fun u hu => D.mono u (h3 u hu), fun u hu => ?_, fun j x' hj hx' h7' g' hg' => ?_⟩
              · rcases hgn u hu with h | ⟨h, h'⟩
                · rcases h4 u h with h | ⟨h, h'⟩
                  · exact .inl h
                  · exact .inr ⟨h, fun g hg => D.mono g (h' g hg)⟩
                · exact .inr ⟨h, h'⟩
              · by_cases e : j = i
                · subst e
                  rw [hx] at hx'
                  injection hx' with hx'
                  subst hx'
                  have : g' = g := by omega
                  subst this
                  exact hga
                · exact D.mono g' (h5 j x' (by omega) hx' h7' g' hg')
            · simp -implicitDefEqProofs [prog_reaches_L0, hs, hi, ia_nodesE hx, d7, hrun, hai]
              exact ⟨seen', ⟨by rw [D.len, h2, hl], fun u hu => D.mono u (h3 u (hm1 u hu)), fun _ => .step ⟨F, x, hF, hxm, h7, hg⟩ (D.yes rfl), fun h => by simp at h⟩, rfl⟩
          · have d7 : decide (x.kind = 7) = false := by simp [h7]
            simp -implicitDefEqProofs [prog_reaches_L0, hs, hi, ia_nodesE hx, d7, hai]
            refine ⟨seeni, rfl, h2, h3, h4, fun j x' hj hx' h7' g' hg' => ?_⟩
            by_cases e : j = i
            · subst e
              rw [hx] at hx'
              injection hx' with hx'
              subst hx'
              exact absurd h7' h7
            · exact h5 j x' (by omega) hx' h7' g' hg'
        · rintro s ⟨seeni, st1, hs, h2, h3, h4, h5⟩
          simp at hs
          simp -implicitDefEqProofs [prog_reaches_L0, hs]
          refine ⟨seeni, ⟨by rw [h2, hl], fun u hu => h3 u (hm1 u hu), fun h => by simp at h, fun _ => ⟨h3 a h1a, fun u hu => ?_⟩⟩, rfl⟩
          have ca : ∀ g : Nat, CallTo p a g → seeni[g]? = some true := by
            rintro g ⟨l, x, hl', hx, h7, hg⟩
            rw [hF] at hl'
            injection hl' with hl'
            subst hl'
            obtain ⟨j, hj, rfl⟩ := List.mem_iff_getElem.1 hx
            exact h5 j F[j] hj (by simp [hj]) h7 g hg
          rcases h4 u hu with h | h
          · rcases h1n u h with h | h
            · exact .inl h
            · subst h
              exact .inr ⟨hab, ca⟩
          · exact .inr h
      obtain ⟨r, seen', hd, hw⟩ := key
      obtain ⟨o, ho, hw⟩ := hw
      cases o with
      | normal s => exact hw.elim
      | exit i s => obtain ⟨hr, e⟩ := hw; simp at e
      | ret v h =>
        obtain ⟨hr, e⟩ := hw
        injection e with e1 e2
        subst e1 e2
        refine ⟨r, seen', hr, ?_, hd⟩
        have : ([⟨st, some (seen.map .bool)⟩] ++ pad 1 : Heap) = [⟨st, some (seen.map .bool)⟩, ⟨0, none⟩] := rfl
        rw [this, ho]
        rfl
    · have l1 := ld_row (f := V.bool) (fun _ => rfl) (l := seen) (i := a) (k := 0) (st := st) (h := [⟨st, some (seen.map .bool)⟩, ⟨0, none⟩]) (by simp) hsa
      exact ⟨false, seen, [⟨0, none⟩], by simp -implicitDefEqProofs [-ldV_ptr, prog_reaches_B, hab', i1, l1], rfl, fun i h => h, fun h => by simp at h, fun _ => ⟨hsa, fun u hu => .inl hu⟩⟩
theorem run_May (n : Nat) (p : Prg) (x : Node) (size : Int) (h : Heap) : runF (tD (n + 2)) k_prog_May {} [p.v, x.v, i64 size] h = some (.bool (mayN p x size), h) := (prog_May n p x size).run h
def HasRound (p : Prg) : Prop := ∃ f l x, p.fs[f]? = some l ∧ x ∈ l ∧ x.kind = 7 ∧ Reach p x.arg.toNat f
theorem rep_bools (n : Nat) : rep n [V.bool false] = (List.replicate n false).map V.bool := by
  induction n with
  | zero => rfl
  | succ n ih => simp [rep, ih, List.replicate_succ]
theorem rep_map {α : Type} (f : α → V) (a : α) (n : Nat) : rep n [f a] = (List.replicate n a).map f := by
  induction n with
  | zero => rfl
  | succ n ih => simp [rep, ih, List.replicate_succ]
theorem mkSl_row {α : Type} (f : α → V) (a : α) {id lim n : Nat} {h : Heap} (hl : n ≤ lim) : mkSl (some id) lim 0 [f a] (i64 n) (i64 n) h = some (.sl id 0 n n 0 ((hget h id).st + 1), hset h id ⟨(hget h id).st + 1, some ((List.replicate n a).map f)⟩) := by
  have : (n : Int) ≤ lim := by omega
  simp [mkSl, this, rep_map]
theorem cntF_fresh (n : Nat) : cntF (List.replicate n false) = n := by
  induction n with
  | zero => rfl
  | succ n ih => simpa [cntF, List.replicate_succ] using ih
theorem Dfs.fresh {p : Prg} {a b n : Nat} {r : Bool} {seen' : List Bool} (D : Dfs p a b (List.replicate n false) r seen') : r = true ↔ Reach p a b := by
  constructor
  · exact D.yes
  · intro h
    cases r with
    | true => rfl
    | false =>
      obtain ⟨h1, h2⟩ := D.no rfl
      have h3 : ∀ u : Nat, seen'[u]? = some true → u ≠ b ∧ ∀ g : Nat, CallTo p u g → seen'[g]? = some true := by
        intro u hu
        rcases h2 u hu with h | h
        · rw [List.getElem?_replicate] at h
          split at h <;> simp at h
        · exact h
      exfalso
      clear h2 D
      induction h with
      | refl f => exact (h3 f h1).1 rfl
      | step c _ ih => exact ih ((h3 _ h1).2 _ c) h3
open Classical in
theorem prog_round (n : Nat) (p : Prg) (wc : WellCalls p) (hsm : SmallP p) (hN : p.fs.length ≤ 16) : ∃ a b : Int, RetD (n + 18) k_prog_round [p.v] (.tup [i64 a, i64 b, .bool (decide (HasRound p))]) := by
  suffices h : ∃ a b : Int, W (prog_round_B (n + 17) p.v [⟨0, none⟩, ⟨0, none⟩]) (fun _ => False) (fun o => ∃ h', o = .ret (.tup [i64 a, i64 b, .bool (decide (HasRound p))]) h') by
    obtain ⟨a, b, h⟩ := h
    exact ⟨a, b, Ret.of rfl rfl (prog_round_eq ..) (h.mono (fun _ h => h.elim) (fun _ h => h))⟩
  suffices h : W (prog_round_B (n + 17) p.v [⟨0, none⟩, ⟨0, none⟩]) (fun _ => False) (fun o => ∃ (a b : Int) (h' : Heap), o = .ret (.tup [i64 a, i64 b, .bool (decide (HasRound p))]) h') by
    obtain ⟨o, ho, hw⟩ := h
    cases o with
    | normal s => exact hw.elim
    | exit i s => obtain ⟨a, b, h, e⟩ := hw; simp at e
    | ret v h => obtain ⟨a, b, h', e⟩ := hw; exact ⟨a, b, _, ho, h', e⟩
  simp -implicitDefEqProofs [prog_round_B]
  refine W_up p.fs.length (fun f s => ∃ st0 st1 c, At s [(1, .fz p.v), (10, funcsV p.fs), (11, i64 p.fs.length), (12, i64 f)] [⟨st0, none⟩, ⟨st1, c⟩] ∧
    ∀ (j : Nat) l x, j < f → p.fs[j]? = some l → x ∈ l → x.kind = 7 → ¬ Reach p x.arg.toNat j) ?_ ?_ (Nat.zero_le _) ⟨0, 0, none, by simp, by omega⟩
  · rintro f s hf ⟨st0, st1, c, hs, hno⟩
    have haf := i64_inc hf (by omega)
    obtain ⟨F, hF, hFm⟩ := getE hf
    have hFl : F.length < 4611686018427387904 := hsm.2 F hFm
    simp at hs
    simp -implicitDefEqProofs [prog_round_L0, hs, hf, ia_funcsE hF]
    refine W_up F.length (fun i s => ∃ st0 st1 c, At s [(1, .fz p.v), (5, i64 f), (10, funcsV p.fs), (11, i64 p.fs.length), (12, i64 f), (17, nodesV F), (18, i64 F.length), (19, i64 i)] [⟨st0, none⟩, ⟨st1, c⟩] ∧
      ∀ (j : Nat) x, j < i → F[j]? = some x → x.kind = 7 → ¬ Reach p x.arg.toNat f) ?_ ?_ (Nat.zero_le _) ⟨st0, st1, c, by simp, by omega⟩
    · rintro i s hi ⟨st0, st1, c, hs, hni⟩
      have hai := i64_inc hi hFl
      obtain ⟨x, hx, hxm⟩ := getE hi
      simp at hs
      have next : ¬ (x.kind = 7 ∧ Reach p x.arg.toNat f) → ∀ (j : Nat) y, j < i + 1 → F[j]? = some y → y.kind = 7 → ¬ Reach p y.arg.toNat f := by
        intro hn j y hj hy h7 hr
        by_cases e : j = i
        · subst e
          rw [hx] at hy
          injection hy with hy
          subst hy
          exact hn ⟨h7, hr⟩
        · exact hni j y (by omega) hy h7 hr
      by_cases h7 : x.kind = 7
      · have d7 : decide (x.kind = 7) = true := by simp [h7]
        obtain ⟨g1, g2⟩ := wc F hFm x hxm h7
        obtain ⟨g, hg, hgl⟩ := natI g1 g2
        obtain ⟨r, seen', hr, e, D⟩ := prog_reaches p wc hsm (by omega) f (n + 17) (List.replicate p.fs.length false) g 0 (by rw [cntF_fresh]; omega) (by simp) hgl
        have hmk := mkSl_row V.bool false (id := 1) (lim := 70368744177664) (n := p.fs.length) (h := [⟨st0 + 2, none⟩, ⟨st1, c⟩]) (by omega)
        simp at hmk
        have hrun := run_row (P := PR) (G := gD) (An := anD) (n := n + 17) (f := k_prog_reaches) (k := 1) (st := st1 + 1) (h := [⟨st0 + 2, none⟩, ⟨st1 + 1, some ((List.replicate p.fs.length false).map .bool)⟩]) (args := [p.v, i64 x.arg, i64 f, .sl 1 0 p.fs.length p.fs.length 0 (st1 + 1)]) rfl (noRef_map (fun _ => rfl) _) rfl
          (by rw [hg]; simp [entM, renL, V.ren, hget, idxIn, (noRef_ren _).1 p.v rfl] at e ⊢; exact e) rfl (noRef_map (fun _ => rfl) _)
        simp at hrun
        have hfr := D.fresh
        cases r
        · have hnr : ¬ Reach p x.arg.toNat f := by rw [hg]; simpa using hfr
          simp -implicitDefEqProofs [prog_round_L1, hs, hi, ia_nodesE hx, d7, hmk, hrun, hai, okF, disjL, fpP]
          exact next (fun h => hnr h.2)
        · have hnr : Reach p x.arg.toNat f := by rw [hg]; simpa using hfr
          have hR : HasRound p := ⟨f, F, x, hF, hxm, h7, hnr⟩
          simp -implicitDefEqProofs [prog_round_L1, hs, hi, ia_nodesE hx, d7, hmk, hrun, hai, okF, disjL, fpP, hR]
      · have d7 : decide (x.kind = 7) = false := by simp [h7]
        simp -implicitDefEqProofs [prog_round_L1, hs, hi, ia_nodesE hx, d7, hai, okF, disjL, fpP]
        exact next (fun h => h7 h.1)
    · rintro s ⟨st0, st1, c, hs, hni⟩
      simp at hs
      simp -implicitDefEqProofs [prog_round_L1, hs, haf]
      intro j l x hj hl hx h7
      by_cases e : j = f
      · subst e
        rw [hF] at hl
        injection hl with hl
        subst hl
        obtain ⟨k, hk, rfl⟩ := List.mem_iff_getElem.1 hx
        exact hni k F[k] hk (by simp [hk]) h7
      · exact hno j l x (by omega) hl hx h7
  · rintro s ⟨st0, st1, c, hs, hno⟩
    have hR : ¬ HasRound p := by
      rintro ⟨f, l, x, h1, h2, h3, h4⟩
      exact hno f l x (List.getElem?_eq_some_iff.1 h1).1 h1 h2 h3 h4
    simp at hs
    simp -implicitDefEqProofs [prog_round_L0, hs, hR]
def funcErr (p : Prg) (l : List Node) : Option Int := if l.length = 0 then some 1 else if 64 < l.length then some 4 else if l.all (fun x => mayN p x l.length) = true then none else some 3
open Classical in
noncomputable def errP (p : Prg) : Int :=
  if p.g < 0 ∨ p.l < 0 ∨ p.s < 0 ∨ p.fs.length = 0 then 1
  else if 16 < p.g ∨ 16 < p.l ∨ 8 < p.s ∨ 16 < p.fs.length then 4
  else match firstN (fun f => funcErr p (p.fs[f]?.getD [])) p.fs.length 0 with
  | some e => e
  | none => if HasRound p then 8 else 0
theorem mayN_call {p : Prg} {x : Node} {k : Int} (h : mayN p x k = true) (h7 : x.kind = 7) : 0 ≤ x.arg ∧ x.arg < p.fs.length := by
  simp [mayN, fieldsN, h7, within] at h
  omega
theorem wellCalls_of {p : Prg} (h : ∀ l ∈ p.fs, ∀ x ∈ l, mayN p x l.length = true) : WellCalls p := fun l hl x hx h7 => mayN_call (h l hl x hx) h7
theorem prog_Check (n : Nat) (p : Prg) (hsm : SmallP p) : ∃ a b : Int, RetD (n + 19) k_prog_Check [p.v] (.tup [i64 a, i64 b, i64 (errP p)]) := by
  suffices h : ∃ a b : Int, W (prog_Check_B (n + 18) p.v [⟨0, none⟩]) (fun _ => False) (fun o => ∃ h', o = .ret (.tup [i64 a, i64 b, i64 (errP p)]) h') by
    obtain ⟨a, b, h⟩ := h
    exact ⟨a, b, Ret.of rfl rfl (prog_Check_eq ..) (h.mono (fun _ h => h.elim) (fun _ h => h))⟩
  suffices h : W (prog_Check_B (n + 18) p.v [⟨0, none⟩]) (fun _ => False) (fun o => ∃ (a b : Int) (h' : Heap), o = .ret (.tup [i64 a, i64 b, i64 (errP p)]) h') by
    obtain ⟨o, ho, hw⟩ := h
    cases o with
    | normal s => exact hw.elim
    | exit i s => obtain ⟨a, b, h, e⟩ := hw; simp at e
    | ret v h => obtain ⟨a, b, h', e⟩ := hw; exact ⟨a, b, _, ho, h', e⟩
  by_cases c1 : p.g < 0 ∨ p.l < 0 ∨ p.s < 0 ∨ p.fs.length = 0
  · have e : errP p = 1 := by unfold errP; rw [if_pos c1]
    rw [e]
    by_cases c2 : p.g < 0
    · simp -implicitDefEqProofs [prog_Check_B, c2]
    by_cases c3 : p.l < 0
    · simp -implicitDefEqProofs [prog_Check_B, c2, c3]
    by_cases c4 : p.s < 0
    · simp -implicitDefEqProofs [prog_Check_B, c2, c3, c4]
    · have c5 : p.fs = [] := by simpa [c2, c3, c4] using c1
      simp -implicitDefEqProofs [prog_Check_B, c2, c3, c4, c5]
  have c2 : ¬ p.g < 0 := fun h => c1 (.inl h)
  have c3 : ¬ p.l < 0 := fun h => c1 (.inr (.inl h))
  have c4 : ¬ p.s < 0 := fun h => c1 (.inr (.inr (.inl h)))
  have c5 : ¬ p.fs = [] := fun h => c1 (.inr (.inr (.inr (by rw [h]; rfl))))
  by_cases b1 : 16 < p.g ∨ 16 < p.l ∨ 8 < p.s ∨ 16 < p.fs.length
  · have e : errP p = 4 := by unfold errP; rw [if_neg c1, if_pos b1]
    rw [e]
    by_cases b2 : 16 < p.g
    · simp -implicitDefEqProofs [prog_Check_B, c2, c3, c4, c5, b2]
    by_cases b3 : 16 < p.l
    · simp -implicitDefEqProofs [prog_Check_B, c2, c3, c4, c5, b2, b3]
    by_cases b4 : 8 < p.s
    · simp -implicitDefEqProofs [prog_Check_B, c2, c3, c4, c5, b2, b3, b4]
    · have b5 : 16 < p.fs.length := by simpa [b2, b3, b4] using b1
      have b5' : (16 : Int) < p.fs.length := by omega
      simp -implicitDefEqProofs [prog_Check_B, c2, c3, c4, c5, b2, b3, b4, b5']
  have b2 : ¬ 16 < p.g := fun h => b1 (.inl h)
  have b3 : ¬ 16 < p.l := fun h => b1 (.inr (.inl h))
  have b4 : ¬ 8 < p.s := fun h => b1 (.inr (.inr (.inl h)))
  have b5 : ¬ (16 : Int) < p.fs.length := fun h => b1 (.inr (.inr (.inr (by omega))))
  have eP : errP p = match firstN (fun f => funcErr p (p.fs[f]?.getD [])) p.fs.length 0 with
    | some e => e
    | none => by classical exact if HasRound p then 8 else 0 := by unfold errP; rw [if_neg c1, if_neg b1]
  simp -implicitDefEqProofs [prog_Check_B, c2, c3, c4, c5, b2, b3, b4, b5]
  refine W_up p.fs.length (fun f s => ∃ st, At s [(1, .fz p.v), (51, funcsV p.fs), (52, i64 p.fs.length), (53, i64 f)] [⟨st, none⟩] ∧ ∀ j < f, funcErr p (p.fs[j]?.getD []) = none) ?_ ?_ (Nat.zero_le _) ⟨0, by simp, by omega⟩
  · rintro f s hf ⟨st, hs, hno⟩
    have haf := i64_inc hf (by omega)
    obtain ⟨F, hF, hFm⟩ := getE hf
    have hFl : F.length < 4611686018427387904 := hsm.2 F hFm
    have hit : ∀ e, funcErr p F = some e → errP p = e := by
      intro e he
      rw [eP, firstN_hit (i := f) hf hno (a := e) (by simpa [hF] using he)]
    simp at hs
    by_cases d1 : F = []
    · have := hit 1 (by simp [funcErr, d1])
      simp -implicitDefEqProofs [prog_Check_L0, hs, hf, ia_funcsE hF, d1, this]
    by_cases d2 : (64 : Int) < F.length
    · have := hit 4 (by rw [funcErr, if_neg (by simp [d1]), if_pos (by omega)])
      simp -implicitDefEqProofs [prog_Check_L0, hs, hf, ia_funcsE hF, d1, d2, this]
    have fE : funcErr p F = if F.all (fun x => mayN p x F.length) = true then none else some 3 := by rw [funcErr, if_neg (by simp [d1]), if_neg (by omega)]
    simp -implicitDefEqProofs [prog_Check_L0, hs, hf, ia_funcsE hF, d1, d2]
    refine W_up F.length (fun i s => ∃ st, At s [(1, .fz p.v), (5, i64 f), (6, nodesV F), (51, funcsV p.fs), (52, i64 p.fs.length), (53, i64 f), (68, nodesV F), (69, i64 F.length), (70, i64 i)] [⟨st, none⟩] ∧
      ∀ j (hj : j < F.length), j < i → mayN p F[j] F.length = true) ?_ ?_ (Nat.zero_le _) ⟨st, by simp, by omega⟩
    · rintro i s hi ⟨st, hs, hni⟩
      have hai := i64_inc hi hFl
      simp at hs
      simp -implicitDefEqProofs [prog_Check_L1, hs, hi, ia_nodes, hai, run_May]
      refine ⟨fun h => ?_, fun h => all_step (q := fun x => mayN p x F.length) hi hni h⟩
      have := all_hit (q := fun x => mayN p x F.length) hi h
      rw [this] at fE
      exact (hit 3 (by rw [fE]; rfl)).symm
    · rintro s ⟨st, hs, hni⟩
      simp at hs
      simp -implicitDefEqProofs [prog_Check_L1, hs, haf]
      refine forall_lt_succ hno ?_
      have := all_miss (q := fun x => mayN p x F.length) hni
      rw [this] at fE
      simpa [hF] using fE
  · rintro s ⟨st, hs, hno⟩
    have hm := firstN_miss hno
    have hall : ∀ l ∈ p.fs, ∀ x ∈ l, mayN p x l.length = true := by
      intro l hl x hx
      obtain ⟨f, hf, rfl⟩ := List.mem_iff_getElem.1 hl
      have := hno f hf
      simp only [List.getElem?_eq_getElem hf, Option.getD_some, funcErr] at this
      split at this
      · simp at this
      split at this
      · simp at this
      split at this
      · rename_i h
        exact List.all_eq_true.1 h x hx
      · simp at this
    obtain ⟨a, b, hr⟩ := prog_round n p (wellCalls_of hall) hsm (by omega)
    have hrun := hr.run
    simp at hs
    by_cases hR : HasRound p
    · have : errP p = 8 := by rw [eP, hm]; simp [hR]
      simp -implicitDefEqProofs [prog_Check_L0, hs, hrun, hR, this]
    · have : errP p = 0 := by rw [eP, hm]; simp [hR]
      simp -implicitDefEqProofs [prog_Check_L0, hs, hrun, hR, this]
end Mini
end
section
namespace Mini
open Go
set_option linter.unusedSimpArgs false
set_option linter.unusedVariables false
/-! ### container/heap: what is in it, whatever its order -/
theorem runM_ptr {P : Program} {T : Nat → Option FS} {t f : Nat} {v : V} {name : String} {a : OA} {args : List V} {h : Heap} (e : methOf P t name = some (f, none)) : runM P T (.iface t v) name a args h = runF T f a (v :: args) h := by simp [runM, e]
theorem runM_val {P : Program} {T : Nat → Option FS} {t f m : Nat} {v : V} {name : String} {a : OA} {args : List V} {h : Heap} (e : methOf P t name = some (f, some m)) : runM P T (.iface t v) name a args h = (ldV m v h).bind fun x => runF T f a (x :: args) h := by simp [runM, e]
def hX (b : Option (List Bool)) (st2 : Nat) : List V := match b with
  | none => []
  | some l => [.sl 2 0 l.length l.length 0 st2]
def hS (b : Option (List Bool)) (st2 : Nat) : Slot := match b with
  | none => ⟨st2, none⟩
  | some l => ⟨st2, some (l.map .bool)⟩
/-- The memory of a heap of numbers: its variable, its row, and (flow's) the marks. -/
def HH (b : Option (List Bool)) (l junk : List Int) (st0 st st2 : Nat) : Heap := [⟨st0, some (.sl 1 0 l.length (l ++ junk).length 0 st :: hX b st2)⟩, ⟨st, some ((l ++ junk).map i64)⟩, hS b st2]
theorem renL_ints (f : Nat → Nat → Option (Nat × Nat)) (l : List Int) : renL f (l.map i64) = l.map i64 := (noRef_ren _).2 _ (noRef_map (fun _ => rfl) _)
theorem renL_bools (f : Nat → Nat → Option (Nat × Nat)) (l : List Bool) : renL f (l.map .bool) = l.map .bool := (noRef_ren _).2 _ (noRef_map (fun _ => rfl) _)
theorem renX (f : Nat → Nat → Option (Nat × Nat)) (b : Option (List Bool)) (st2 st3 : Nat) (h : f 2 st2 = some (2, st3)) : renL f (hX b st2) = hX b st3 := by
  cases b with
  | none => rfl
  | some l => simp [hX, renL, V.ren, h]
theorem renSl (f : Nat → Nat → Option (Nat × Nat)) (b : Option (List Bool)) (st2 : Nat) : (hS b st2).bl.map (renL f) = (hS b st2).bl := by
  cases b with
  | none => rfl
  | some l => simp [hS, renL_bools]
theorem hS_st (b : Option (List Bool)) (st2 : Nat) : (hS b st2).st = st2 := by cases b <;> rfl
theorem entH_HH (b : Option (List Bool)) (l junk : List Int) (st0 st st2 : Nat) : entH [0, 1, 2] (HH b l junk st0 st st2) = HH b l junk 0 0 0 := by
  have h2 : (hget (HH b l junk st0 st st2) 2) = hS b st2 := rfl
  have e2 : entM [0, 1, 2] (HH b l junk st0 st st2) 2 st2 = some (2, 0) := by simp [entM, h2, hS_st, idxIn]
  simp only [entH, List.map_cons, List.map_nil, h2, renSl]
  have e3 : hget (HH b l junk st0 st st2) 0 = ⟨st0, some (.sl 1 0 l.length (l ++ junk).length 0 st :: hX b st2)⟩ := rfl
  have e4 : hget (HH b l junk st0 st st2) 1 = ⟨st, some ((l ++ junk).map i64)⟩ := rfl
  have e5 : entM [0, 1, 2] (HH b l junk st0 st st2) 1 st = some (1, 0) := by simp [entM, e4, idxIn]
  simp only [e3, e4, Option.map_some, renL, renL_ints, renX _ _ _ _ e2, V.ren, e5]
  cases b <;> rfl
theorem exK_HH (b : Option (List Bool)) (l junk l' junk' : List Int) (st0 st st2 st0' st' st2' : Nat) (rest : Heap) :
    exK (exM [0, 1, 2] [] (HH b l junk st0 st st2)) (HH b l junk st0 st st2) [0, 1, 2] 0 (HH b l' junk' st0' st' st2' ++ rest) (HH b l junk st0 st st2) = HH b l' junk' (st0' + st0) (st' + st) (st2' + st2) := by
  have e2 : exM [0, 1, 2] [] (HH b l junk st0 st st2) 2 st2' = some (2, st2' + st2) := by simp [exM, HH, hget, hS_st]
  have e1 : exM [0, 1, 2] [] (HH b l junk st0 st st2) 1 st' = some (1, st' + st) := by simp [exM, HH, hget]
  have h2 : renS (exM [0, 1, 2] [] (HH b l junk st0 st st2)) st2 (hS b st2') = hS b (st2' + st2) := by
    cases b with
    | none => rfl
    | some l => simp [renS, hS, renL_bools]
  simp only [exK]
  have a0 : hget (HH b l junk st0 st st2) 0 = ⟨st0, some (.sl 1 0 l.length (l ++ junk).length 0 st :: hX b st2)⟩ := rfl
  have a1 : hget (HH b l junk st0 st st2) 1 = ⟨st, some ((l ++ junk).map i64)⟩ := rfl
  have a2 : hget (HH b l junk st0 st st2) 2 = hS b st2 := rfl
  have b0 : hget (HH b l' junk' st0' st' st2' ++ rest) 0 = ⟨st0', some (.sl 1 0 l'.length (l' ++ junk').length 0 st' :: hX b st2')⟩ := rfl
  have b1 : hget (HH b l' junk' st0' st' st2' ++ rest) (0 + 1) = ⟨st', some ((l' ++ junk').map i64)⟩ := rfl
  have b2 : hget (HH b l' junk' st0' st' st2' ++ rest) (0 + 1 + 1) = hS b st2' := rfl
  rw [a0, a1, a2, b0, b1, b2, hS_st, h2]
  simp only [renS, Option.map_some, renL, renL_ints, renX _ _ _ _ e2, V.ren, e1]
  rfl
/-- A call that hands all three slots on. -/
theorem run_HH {P : Program} {G : Nat → V} {An : Nat → Ann} {n f st0 st st2 st0' st' st2' : Nat} {args args' : List V} {b : Option (List Bool)} {l junk l' junk' : List Int} {v : V} {rest : Heap} (ha : renL (entM [0, 1, 2] (HH b l junk st0 st st2)) args = args')
    (e : dn P G An n f args' (HH b l junk 0 0 0) = some (v, HH b l' junk' st0' st' st2' ++ rest)) (hv : v.noRef = true) :
    runF (den P G An n) f { ks := [0, 1, 2] } args (HH b l junk st0 st st2) = some (v, HH b l' junk' (st0' + st0) (st' + st) (st2' + st2)) := by
  have := runF_dn (P := P) (G := G) (An := An) (n := n) (f := f) (a := { ks := [0, 1, 2] }) (args := args) (h := HH b l junk st0 st st2) (r := (v, HH b l' junk' st0' st' st2' ++ rest)) rfl (by rfl) (by rw [ha, entH_HH]; exact e)
  rw [this]
  simp only [exO, exK_HH, (noRef_ren _).1 _ hv]
def swapL (l : List Int) (i j : Nat) : List Int := (l.set i (l[j]?.getD 0)).set j (l[i]?.getD 0)
theorem swapL_length (l : List Int) (i j : Nat) : (swapL l i j).length = l.length := by simp [swapL]
theorem swapL_perm (l : List Int) {i j : Nat} (hi : i < l.length) (hj : j < l.length) : (swapL l i j).Perm l := by
  have := List.set_set_perm (i := i) (j := j) hi hj
  simpa [swapL, hi, hj] using this
set_option maxRecDepth 10000
structure Meth (n : Nat) (ty : TypeId) (b : Option (List Bool)) : Prop where
  len : ∀ l junk st0 st st2, runM PR (tD n) (.iface ty (.ptr 0 0 st0)) "Len" { ks := [0, 1, 2] } [] (HH b l junk st0 st st2) = some (i64 l.length, HH b l junk st0 st st2)
  less : ∀ l junk st0 st st2 (i j : Nat), i < l.length → j < l.length → ∃ c, runM PR (tD n) (.iface ty (.ptr 0 0 st0)) "Less" { ks := [0, 1, 2] } [i64 i, i64 j] (HH b l junk st0 st st2) = some (.bool c, HH b l junk st0 st st2)
  swap : ∀ l junk st0 st st2 (i j : Nat), i < l.length → j < l.length → runM PR (tD n) (.iface ty (.ptr 0 0 st0)) "Swap" { ks := [0, 1, 2] } [i64 i, i64 j] (HH b l junk st0 st st2) = some (.tup [], HH b (swapL l i j) junk st0 st st2)
  push : ∀ l junk st0 st st2 (x : Int), (l ++ junk).length < 1000000 → ∃ junk' st', (l ++ [x] ++ junk').length ≤ (l ++ junk).length + 1 ∧ runM PR (tD n) (.iface ty (.ptr 0 0 st0)) "Push" { ks := [0, 1, 2] } [.iface y_i64 (i64 x)] (HH b l junk st0 st st2) = some (.tup [], HH b (l ++ [x]) junk' st0 st' st2)
  pop : ∀ l junk st0 st st2 (x : Int), (l ++ junk).length < 1000000 → runM PR (tD n) (.iface ty (.ptr 0 0 st0)) "Pop" { ks := [0, 1, 2] } [] (HH b (l ++ [x]) junk st0 st st2) = some (.iface y_i64 (i64 x), HH b l (x :: junk) st0 st st2)
theorem HH_ld (b : Option (List Bool)) (l junk : List Int) (st0 st st2 : Nat) : ldV 0 (.ptr 0 0 st0) (HH b l junk st0 st st2) = some (.sl 1 0 l.length (l ++ junk).length 0 st) := by simp [HH]
theorem HH_cells (b : Option (List Bool)) (l junk : List Int) (st0 st st2 : Nat) : cellsAt (HH b l junk st0 st st2) 1 st = some ((l ++ junk).map i64) := by simp [HH]
theorem HH_set (b : Option (List Bool)) (l junk m : List Int) (st0 st st2 : Nat) (h : m.length = l.length) : hset (HH b l junk st0 st st2) 1 ⟨st, some ((m ++ junk).map i64)⟩ = HH b m junk st0 st st2 := by simp [HH, h]
theorem ids_len (n : Nat) (b : Option (List Bool)) : ∀ l junk st0 st st2, runF (tD (n + 1)) k_graph_ids_Len { ks := [0, 1, 2] } [.sl 1 0 l.length (l ++ junk).length 0 st] (HH b l junk st0 st st2) = some (i64 l.length, HH b l junk st0 st st2) := by
  intro l junk st0 st st2
  have := run_HH (P := PR) (G := gD) (An := anD) (n := n + 1) (f := k_graph_ids_Len) (st0 := st0) (st := st) (st2 := st2) (st0' := 0) (st' := 0) (st2' := 0) (args := [.sl 1 0 l.length (l ++ junk).length 0 st]) (args' := [.sl 1 0 l.length (l ++ junk).length 0 0]) (b := b) (l := l) (junk := junk) (l' := l) (junk' := junk) (v := i64 l.length) (rest := [])
    (by simp [renL, V.ren, entM, HH, hget, idxIn]) (by rw [graph_ids_Len_eq]; simp [graph_ids_Len_B, lenV]) rfl
  simpa using this
theorem ids_at {b : Option (List Bool)} {l junk : List Int} {st0 st st2 i : Nat} (h : i < l.length) : ldV 0 (.ptr 1 i st) (HH b l junk st0 st st2) = some (i64 (l[i]?.getD 0)) := by
  refine ld_row (f := i64) (fun _ => rfl) (HH_cells ..) ?_
  simp [List.getElem?_append_left h, h]
theorem ids_put {b : Option (List Bool)} {l junk : List Int} {st0 st st2 i : Nat} {x : Int} (h : i < l.length) : stV 0 (.ptr 1 i st) (i64 x) (HH b l junk st0 st st2) = some (HH b (l.set i x) junk st0 st st2) := by
  have := st_row (f := i64) (fun _ => rfl) (fun _ => rfl) (fun _ => rfl) (l := l ++ junk) (i := i) (k := 1) (st := st) (a := x) (h := HH b l junk st0 st st2) (HH_cells ..) (by simp; omega)
  rw [this, List.set_append_left _ _ h, HH_set _ _ _ _ _ _ _ (by simp)]
theorem Meth.ids (n : Nat) (b : Option (List Bool)) : Meth (n + 1) y_P_graph_ids b where
  len l junk st0 st st2 := by
    rw [runM_val (show methOf PR y_P_graph_ids "Len" = some (k_graph_ids_Len, some 0) from by kernel_rfl), HH_ld]
    exact ids_len n b l junk st0 st st2
  less l junk st0 st st2 i j hi hj := by
    rw [runM_val (show methOf PR y_P_graph_ids "Less" = some (k_graph_ids_Less, some 0) from by kernel_rfl), HH_ld]
    have i1 := iaS_sl (sz := 0) (k := 1) (off := 0) (cap := (l ++ junk).length) (st := 0) hi
    have i2 := iaS_sl (sz := 0) (k := 1) (off := 0) (cap := (l ++ junk).length) (st := 0) hj
    simp only [csz, if_pos, Nat.mul_one, Nat.zero_add] at i1 i2
    have a1 := ids_at (b := b) (junk := junk) (st0 := 0) (st := 0) (st2 := 0) hi
    have a2 := ids_at (b := b) (junk := junk) (st0 := 0) (st := 0) (st2 := 0) hj
    have := run_HH (P := PR) (G := gD) (An := anD) (n := n + 1) (f := k_graph_ids_Less) (st0 := st0) (st := st) (st2 := st2) (st0' := 0) (st' := 0) (st2' := 0) (args := [.sl 1 0 l.length (l ++ junk).length 0 st, i64 i, i64 j]) (args' := [.sl 1 0 l.length (l ++ junk).length 0 0, i64 i, i64 j]) (b := b) (l := l) (junk := junk) (l' := l) (junk' := junk) (rest := [])
      (v := .bool (decide (l[i]?.getD 0 < l[j]?.getD 0))) (by simp [renL, V.ren, entM, HH, hget, idxIn]) (by rw [graph_ids_Less_eq]; simp only [graph_ids_Less_B, i1, i2, Option.bind_some, pad, List.append_nil, a1, a2]; simp) rfl
    exact ⟨_, by simpa using this⟩
  swap l junk st0 st st2 i j hi hj := by
    rw [runM_val (show methOf PR y_P_graph_ids "Swap" = some (k_graph_ids_Swap, some 0) from by kernel_rfl), HH_ld]
    have i1 := iaS_sl (sz := 0) (k := 1) (off := 0) (cap := (l ++ junk).length) (st := 0) hi
    have i2 := iaS_sl (sz := 0) (k := 1) (off := 0) (cap := (l ++ junk).length) (st := 0) hj
    simp only [csz, if_pos, Nat.mul_one, Nat.zero_add] at i1 i2
    have a1 := ids_at (b := b) (junk := junk) (st0 := 0) (st := 0) (st2 := 0) hi
    have a2 := ids_at (b := b) (junk := junk) (st0 := 0) (st := 0) (st2 := 0) hj
    have p1 := ids_put (b := b) (junk := junk) (st0 := 0) (st := 0) (st2 := 0) (x := l[j]?.getD 0) hi
    have p2 := ids_put (b := b) (l := l.set i (l[j]?.getD 0)) (junk := junk) (st0 := 0) (st := 0) (st2 := 0) (x := l[i]?.getD 0) (i := j) (by simpa using hj)
    have := run_HH (P := PR) (G := gD) (An := anD) (n := n + 1) (f := k_graph_ids_Swap) (st0 := st0) (st := st) (st2 := st2) (st0' := 0) (st' := 0) (st2' := 0) (args := [.sl 1 0 l.length (l ++ junk).length 0 st, i64 i, i64 j]) (args' := [.sl 1 0 l.length (l ++ junk).length 0 0, i64 i, i64 j]) (b := b) (l := l) (junk := junk) (l' := swapL l i j) (junk' := junk) (rest := [])
      (v := .tup []) (by simp [renL, V.ren, entM, HH, hget, idxIn]) (by rw [graph_ids_Swap_eq]; simp only [graph_ids_Swap_B, i1, i2, Option.bind_some, pad, List.append_nil, a1, a2, p1, p2]; simp [swapL]) rfl
    simpa using this
  push l junk st0 st st2 x hs := by
    rw [runM_ptr (show methOf PR y_P_graph_ids "Push" = some (k_graph_idsP_Push, none) from by kernel_rfl)]
    cases junk with
    | nil =>
      refine ⟨[], 1 + st, by simp, ?_⟩
      simp only [List.append_nil] at hs
      have h1 : l.length + 1 ≤ 8796093022208 := by omega
      have := run_HH (P := PR) (G := gD) (An := anD) (n := n + 1) (f := k_graph_idsP_Push) (st0 := st0) (st := st) (st2 := st2) (st0' := 0) (st' := 1) (st2' := 0) (args := [.ptr 0 0 st0, .iface y_i64 (i64 x)]) (args' := [.ptr 0 0 0, .iface y_i64 (i64 x)]) (b := b) (l := l) (junk := []) (l' := l ++ [x]) (junk' := []) (rest := [⟨0, none⟩])
        (v := .tup []) (by simp [renL, V.ren, entM, HH, hget, idxIn]) (by rw [graph_idsP_Push_eq]; simp [graph_idsP_Push_B, nilV, HH, tasV, fillV, rep, newSl, okE, elems, appV, srcV, h1]; omega) rfl
      simpa using this
    | cons y ys =>
      refine ⟨ys, st, by simp, ?_⟩
      simp only [List.length_append, List.length_cons] at hs
      have h1 : l.length + 1 ≤ 8796093022208 := by omega
      have h2 : l.length + 1 ≤ l.length + (ys.length + 1) := by omega
      have := run_HH (P := PR) (G := gD) (An := anD) (n := n + 1) (f := k_graph_idsP_Push) (st0 := st0) (st := st) (st2 := st2) (st0' := 0) (st' := 0) (st2' := 0) (args := [.ptr 0 0 st0, .iface y_i64 (i64 x)]) (args' := [.ptr 0 0 0, .iface y_i64 (i64 x)]) (b := b) (l := l) (junk := y :: ys) (l' := l ++ [x]) (junk' := ys) (rest := [⟨0, none⟩])
        (v := .tup []) (by simp [renL, V.ren, entM, HH, hget, idxIn]) (by rw [graph_idsP_Push_eq]; simp [graph_idsP_Push_B, nilV, HH, tasV, fillV, rep, newSl, okE, elems, appV, srcV, h1, h2]; rw [if_pos (by omega), List.drop_append, List.drop_eq_nil_of_le (by simp)]; simp) rfl
      simpa using this
  pop l junk st0 st st2 x hs := by
    rw [runM_ptr (show methOf PR y_P_graph_ids "Pop" = some (k_graph_idsP_Pop, none) from by kernel_rfl)]
    simp only [List.length_append] at hs
    have i2 := iaS_sl (sz := 0) (k := 1) (off := 0) (cap := (l ++ [x] ++ junk).length) (st := 0) (i := l.length) (len := l.length + 1) (by omega)
    simp only [csz, if_pos, Nat.mul_one, Nat.zero_add] at i2
    have a1 := ids_at (b := b) (l := l ++ [x]) (junk := junk) (st0 := 0) (st := 0) (st2 := 0) (i := l.length) (by simp)
    have s1 : intV .sub (i64 ((l.length : Int) + 1)) (i64 1) = some (i64 l.length) := by rw [i64_sub (by omega) (by omega)]; simp
    have := run_HH (P := PR) (G := gD) (An := anD) (n := n + 1) (f := k_graph_idsP_Pop) (st0 := st0) (st := st) (st2 := st2) (st0' := 0) (st' := 0) (st2' := 0) (args := [.ptr 0 0 st0]) (args' := [.ptr 0 0 0]) (b := b) (l := l ++ [x]) (junk := junk) (l' := l) (junk' := x :: junk) (rest := [])
      (v := .iface y_i64 (i64 x)) (by simp [renL, V.ren, entM, HH, hget, idxIn]) (by rw [graph_idsP_Pop_eq]; simp [graph_idsP_Pop_B, nilV, HH, lenV, s1, iaS, slS, bndV]; omega) rfl
    simpa using this
theorem quo_half (j : Nat) (h : j < 4611686018427387904) : intV .quo (i64 ((j : Int) - 1)) (i64 2) = some (i64 (((j - 1) / 2 : Nat) : Int)) := by
  have e : ((j : Int) - 1).tdiv 2 = (((j - 1) / 2 : Nat) : Int) := by
    cases j with
    | zero => rfl
    | succ k =>
      have : ((k + 1 : Nat) : Int) - 1 = (k : Int) := by omega
      rw [this]
      simp [Int.tdiv]
  simp only [intV, isShift, Bool.false_eq_true, if_false, if_true, intBin]
  rw [e, wrap_i64 (by omega) (by omega)]
  simp
theorem heap_up (n : Nat) {ty : TypeId} {b : Option (List Bool)} (M : Meth n ty b) (junk : List Int) (st0 st st2 : Nat) (l : List Int) (j : Nat) (hj : j < l.length) (hs : l.length < 1000000) :
    ∃ l' : List Int, l'.Perm l ∧ dn PR gD anD (n + 1) k_heap_up [.iface ty (.ptr 0 0 st0), i64 j] (HH b l junk st0 st st2) = some (.tup [], HH b l' junk st0 st st2) := by
  have key : ∃ h', fin PR [] (heap_up_B n (.iface ty (.ptr 0 0 st0)) (i64 j) (HH b l junk st0 st st2)) = some (.tup [], h') ∧ ∃ l' : List Int, l'.Perm l ∧ h' = HH b l' junk st0 st st2 := by
    refine fin_W ?_
    simp -implicitDefEqProofs [heap_up_B]
    refine W_loop (fun m s => ∃ l' : List Int, l'.Perm l ∧ m < l.length ∧ At s [(0, .iface ty (.ptr 0 0 st0)), (1, i64 m)] (HH b l' junk st0 st st2)) ?_ j _ ⟨l, .refl l, hj, by simp⟩
    rintro m s ⟨l', hp, hm, hs'⟩
    have hl' := hp.length_eq
    simp at hs'
    have e1 : intV .sub (i64 (m : Int)) (i64 1) = some (i64 ((m : Int) - 1)) := i64_sub (by omega) (by omega)
    have e2 := quo_half m (by omega)
    obtain ⟨q, hq⟩ : ∃ q, q = (m - 1) / 2 := ⟨_, rfl⟩
    rw [← hq] at e2
    obtain ⟨c, hc⟩ := M.less l' junk st0 st st2 m q (by omega) (by omega)
    have hsw := M.swap l' junk st0 st st2 q m (by omega) (by omega)
    by_cases h0 : q = m
    · have h0' : (q : Int) = m := by omega
      simp -implicitDefEqProofs [heap_up_L0, hs', e1, e2, h0', resV, resL]
      exact ⟨l', hp, rfl⟩
    · have h0 : ¬ (q : Int) = m := by omega
      cases c
      · simp -implicitDefEqProofs [heap_up_L0, hs', e1, e2, h0, hc, resV, resL]
        exact ⟨l', hp, rfl⟩
      · simp -implicitDefEqProofs [heap_up_L0, hs', e1, e2, h0, hc, hsw]
        exact ⟨q, by omega, swapL l' q m, (swapL_perm l' (by omega) (by omega)).trans hp, by omega, rfl, rfl⟩
  obtain ⟨h', e, l', hp, rfl⟩ := key
  exact ⟨l', hp, by rw [heap_up_eq]; simpa [pad] using e⟩
theorem heap_down (n : Nat) {ty : TypeId} {b : Option (List Bool)} (M : Meth n ty b) (junk : List Int) (st0 st st2 : Nat) (l : List Int) (k : Nat) (hk : k < l.length) (hs : l.length < 1000000) :
    ∃ c, ∃ l' : List Int, l'.Perm l ∧ dn PR gD anD (n + 1) k_heap_down [.iface ty (.ptr 0 0 st0), i64 0, i64 k] (HH b l junk st0 st st2) = some (.bool c, HH b l' junk st0 st st2) := by
  suffices key : ∃ c, W (heap_down_B n (.iface ty (.ptr 0 0 st0)) (i64 0) (i64 k) (HH b l junk st0 st st2)) (fun _ => False) (fun o => ∃ l' : List Int, l'.Perm l ∧ o = .ret (.bool c) (HH b l' junk st0 st st2)) by
    obtain ⟨c, o, ho, hw⟩ := key
    refine ⟨c, ?_⟩
    cases o with
    | normal s => exact hw.elim
    | exit i s => obtain ⟨l', _, e⟩ := hw; simp at e
    | ret v h =>
      obtain ⟨l', hp, e⟩ := hw
      injection e with e1 e2
      subst e1 e2
      exact ⟨l', hp, by rw [heap_down_eq]; simp only [pad, List.append_nil]; rw [ho]; rfl⟩
  suffices key : W (heap_down_B n (.iface ty (.ptr 0 0 st0)) (i64 0) (i64 k) (HH b l junk st0 st st2)) (fun _ => False) (fun o => ∃ c, ∃ l' : List Int, l'.Perm l ∧ o = .ret (.bool c) (HH b l' junk st0 st st2)) by
    obtain ⟨o, ho, hw⟩ := key
    cases o with
    | normal s => exact hw.elim
    | exit i s => obtain ⟨c, l', _, e⟩ := hw; simp at e
    | ret v h => obtain ⟨c, l', hp, e⟩ := hw; exact ⟨c, _, ho, l', hp, e⟩
  simp -implicitDefEqProofs [heap_down_B]
  refine W_loop (fun m s => ∃ (i : Nat) (l' : List Int), l'.Perm l ∧ m = l.length - i ∧ i < l.length ∧ At s [(0, .iface ty (.ptr 0 0 st0)), (1, i64 0), (2, i64 k), (7, i64 i)] (HH b l' junk st0 st st2)) ?_ l.length _ ⟨0, l, .refl l, by omega, by omega, by simp⟩
  rintro m s ⟨i, l', hp, rfl, hi, hs'⟩
  have hl' := hp.length_eq
  simp at hs'
  obtain ⟨j1, hj1⟩ : ∃ q, q = 2 * i + 1 := ⟨_, rfl⟩
  obtain ⟨j2, hj2⟩ : ∃ q, q = j1 + 1 := ⟨_, rfl⟩
  have e1 : intV .mul (i64 2) (i64 (i : Int)) = some (i64 (2 * (i : Int))) := i64_mul (by omega) (by omega)
  have e2 : intV .add (i64 (2 * (i : Int))) (i64 1) = some (i64 (j1 : Int)) := by rw [i64_add (by omega) (by omega)]; simp; omega
  have e3 : intV .add (i64 (j1 : Int)) (i64 1) = some (i64 (j2 : Int)) := by rw [i64_add (by omega) (by omega)]; simp; omega
  have d1 : ¬ ((j1 : Int) < 0) := by omega
  by_cases h0 : k ≤ j1
  · have h0' : (k : Int) ≤ j1 := by omega
    simp -implicitDefEqProofs [heap_down_L0, hs', e1, e2, h0']
    by_cases hz : i = 0
    · exact .inl ⟨l', hp, hz, rfl⟩
    · exact .inr ⟨l', hp, by omega, rfl⟩
  have h0' : ¬ (k : Int) ≤ j1 := by omega
  obtain ⟨c1, hc1⟩ := M.less l' junk st0 st st2 j1 i (by omega) (by omega)
  have hsw1 := M.swap l' junk st0 st st2 i j1 (by omega) (by omega)
  by_cases h2 : j2 < k
  · have h2' : (j2 : Int) < k := by omega
    obtain ⟨c, hc⟩ := M.less l' junk st0 st st2 j2 j1 (by omega) (by omega)
    obtain ⟨c2, hc2⟩ := M.less l' junk st0 st st2 j2 i (by omega) (by omega)
    have hsw2 := M.swap l' junk st0 st st2 i j2 (by omega) (by omega)
    cases c
    · cases c1
      · simp -implicitDefEqProofs [heap_down_L0, hs', e1, e2, h0', d1, e3, h2', hc, hc1]
        by_cases hz : i = 0
        · exact .inl ⟨l', hp, hz, rfl⟩
        · exact .inr ⟨l', hp, by omega, rfl⟩
      · simp -implicitDefEqProofs [heap_down_L0, hs', e1, e2, h0', d1, e3, h2', hc, hc1, hsw1]
        exact ⟨l.length - j1, by omega, j1, swapL l' i j1, (swapL_perm l' (by omega) (by omega)).trans hp, rfl, by omega, rfl, rfl⟩
    · cases c2
      · simp -implicitDefEqProofs [heap_down_L0, hs', e1, e2, h0', d1, e3, h2', hc, hc2]
        by_cases hz : i = 0
        · exact .inl ⟨l', hp, hz, rfl⟩
        · exact .inr ⟨l', hp, by omega, rfl⟩
      · simp -implicitDefEqProofs [heap_down_L0, hs', e1, e2, h0', d1, e3, h2', hc, hc2, hsw2]
        exact ⟨l.length - j2, by omega, j2, swapL l' i j2, (swapL_perm l' (by omega) (by omega)).trans hp, rfl, by omega, rfl, rfl⟩
  · have h2' : ¬ (j2 : Int) < k := by omega
    cases c1
    · simp -implicitDefEqProofs [heap_down_L0, hs', e1, e2, h0', d1, e3, h2', hc1]
      by_cases hz : i = 0
      · exact .inl ⟨l', hp, hz, rfl⟩
      · exact .inr ⟨l', hp, by omega, rfl⟩
    · simp -implicitDefEqProofs [heap_down_L0, hs', e1, e2, h0', d1, e3, h2', hc1, hsw1]
      exact ⟨l.length - j1, by omega, j1, swapL l' i j1, (swapL_perm l' (by omega) (by omega)).trans hp, rfl, by omega, rfl, rfl⟩
theorem run_up (n : Nat) {ty : TypeId} {b : Option (List Bool)} (M : Meth n ty b) (junk : List Int) (st0 st st2 : Nat) (l : List Int) (j : Nat) (hj : j < l.length) (hs : l.length < 1000000) :
    ∃ l' : List Int, l'.Perm l ∧ runF (tD (n + 1)) k_heap_up { ks := [0, 1, 2] } [.iface ty (.ptr 0 0 st0), i64 j] (HH b l junk st0 st st2) = some (.tup [], HH b l' junk st0 st st2) := by
  obtain ⟨l', hp, e⟩ := heap_up n M junk 0 0 0 l j hj hs
  refine ⟨l', hp, ?_⟩
  have := run_HH (P := PR) (G := gD) (An := anD) (st0 := st0) (st := st) (st2 := st2) (args := [.iface ty (.ptr 0 0 st0), i64 j]) (st0' := 0) (st' := 0) (st2' := 0) (rest := []) (by simp [renL, V.ren, entM, HH, hget, idxIn]; rfl) (by simpa using e) rfl
  simpa using this
theorem run_down (n : Nat) {ty : TypeId} {b : Option (List Bool)} (M : Meth n ty b) (junk : List Int) (st0 st st2 : Nat) (l : List Int) (k : Nat) (hk : k < l.length) (hs : l.length < 1000000) :
    ∃ c, ∃ l' : List Int, l'.Perm l ∧ runF (tD (n + 1)) k_heap_down { ks := [0, 1, 2] } [.iface ty (.ptr 0 0 st0), i64 0, i64 k] (HH b l junk st0 st st2) = some (.bool c, HH b l' junk st0 st st2) := by
  obtain ⟨c, l', hp, e⟩ := heap_down n M junk 0 0 0 l k hk hs
  refine ⟨c, l', hp, ?_⟩
  have := run_HH (P := PR) (G := gD) (An := anD) (st0 := st0) (st := st) (st2 := st2) (args := [.iface ty (.ptr 0 0 st0), i64 0, i64 k]) (st0' := 0) (st' := 0) (st2' := 0) (rest := []) (by simp [renL, V.ren, entM, HH, hget, idxIn]; rfl) (by simpa using e) rfl
  simpa using this
theorem heap_Push (n : Nat) {ty : TypeId} {b : Option (List Bool)} (M : ∀ k, Meth (k + 1) ty b) (junk : List Int) (st0 st st2 : Nat) (l : List Int) (x : Int) (hs : (l ++ junk).length < 999990) :
    ∃ (l' junk' : List Int) (st' : Nat), l'.Perm (x :: l) ∧ (l' ++ junk').length ≤ (l ++ junk).length + 1 ∧ dn PR gD anD (n + 3) k_heap_Push [.iface ty (.ptr 0 0 st0), .iface y_i64 (i64 x)] (HH b l junk st0 st st2) = some (.tup [], HH b l' junk' st0 st' st2) := by
  obtain ⟨junk', st', hj, e1⟩ := (M (n + 1)).push l junk st0 st st2 x (by omega)
  have hll : (l ++ [x]).length < 1000000 := by simp at hs ⊢; omega
  obtain ⟨l', hp, e2⟩ := run_up (n + 1) (M n) junk' st0 st' st2 (l ++ [x]) l.length (by simp) hll
  refine ⟨l', junk', st', hp.trans (by simp), by have := hp.length_eq; simp at hj this ⊢; omega, ?_⟩
  rw [heap_Push_eq]
  have e3 := (M (n + 1)).len (l ++ [x]) junk' st0 st' st2
  have e4 : intV .sub (i64 (((l ++ [x]).length : Nat) : Int)) (i64 1) = some (i64 (l.length : Int)) := by rw [i64_sub (by omega) (by omega)]; simp
  simp only [pad, List.append_nil, heap_Push_B, e1, e3, e4, e2, Option.bind_some, fin_normal0]
theorem heap_Pop (n : Nat) {ty : TypeId} {b : Option (List Bool)} (M : ∀ k, Meth (k + 1) ty b) (junk : List Int) (st0 st st2 : Nat) (l : List Int) (h0 : 0 < l.length) (hs : (l ++ junk).length < 999990) :
    ∃ (x : Int) (l' junk' : List Int), (x :: l').Perm l ∧ (l' ++ junk').length = (l ++ junk).length ∧ dn PR gD anD (n + 3) k_heap_Pop [.iface ty (.ptr 0 0 st0)] (HH b l junk st0 st st2) = some (.iface y_i64 (i64 x), HH b l' junk' st0 st st2) := by
  have hll : l.length < 1000000 := by simp at hs; omega
  have e1 := (M (n + 1)).len l junk st0 st st2
  obtain ⟨k, hk⟩ : ∃ k, l.length = k + 1 := ⟨l.length - 1, by omega⟩
  have e2 : intV .sub (i64 (l.length : Int)) (i64 1) = some (i64 (k : Int)) := by rw [i64_sub (by omega) (by omega), hk]; simp
  have e3 := (M (n + 1)).swap l junk st0 st st2 0 k (by omega) (by omega)
  have e3 : runM PR (tD (n + 2)) (.iface ty (.ptr 0 0 st0)) "Swap" { ks := [0, 1, 2] } [i64 0, i64 k] (HH b l junk st0 st st2) = some (.tup [], HH b (swapL l 0 k) junk st0 st st2) := e3
  have hl1 := swapL_length l 0 k
  obtain ⟨c, l1, hp1, e4⟩ := run_down (n + 1) (M n) junk st0 st st2 (swapL l 0 k) k (by omega) (by omega)
  have hl2 := hp1.length_eq
  have hne : l1 ≠ [] := by intro e; rw [e] at hl2; simp at hl2; omega
  obtain ⟨l', x, hlx⟩ : ∃ l' x, l1 = l' ++ [x] := ⟨l1.dropLast, l1.getLast hne, (List.dropLast_concat_getLast hne).symm⟩
  subst hlx
  simp only [List.length_append, List.length_cons, List.length_nil] at hl2 hs
  have e5 := (M (n + 1)).pop l' junk st0 st st2 x (by simp; omega)
  refine ⟨x, l', x :: junk, ?_, by simp; omega, ?_⟩
  · exact (by simpa using (List.perm_append_comm (l₁ := [x]) (l₂ := l')) : (x :: l').Perm (l' ++ [x])).trans (hp1.trans (swapL_perm l (by omega) (by omega)))
  · rw [heap_Pop_eq]
    simp only [pad, List.append_nil, heap_Pop_B, e1, e2, e3, e4, e5, Option.bind_some, fin_ret]
end Mini
end
section
namespace Mini
open Go
set_option linter.unusedSimpArgs false
set_option linter.unusedVariables false
/-! ### how many ids a set has -/
def cntS (m : BitVec 32) : Nat := (List.range 32).countP fun i => m.getLsbD i
def pop8 (i : Nat) : Nat := (List.range 8).countP fun k => i.testBit k
theorem pop8_le (i : Nat) : pop8 i ≤ 8 := by
  have := List.countP_le_length (p := fun k => i.testBit k) (l := List.range 8)
  simpa [pop8] using this
theorem u32_shr64 {a : BitVec 32} {n : Int} (h : 0 ≤ n) : intV .shr (u32 a) (.int .u64 n) = some (u32 (a >>> n.toNat)) := u32_shr h
theorem ixS_pop (T : ByteArray) (hT : ((List.range 256).all fun i => T[i]? == some (UInt8.ofNat (pop8 i))) = true) (b : BitVec 32) (hb : b.toNat < 256) : ixS (.str T) (u32 b) = some (.int .u8 (pop8 b.toNat)) := by
  have h := List.all_eq_true.1 hT b.toNat (List.mem_range.2 hb)
  have h : T[b.toNat]? = some (UInt8.ofNat (pop8 b.toNat)) := by simpa using h
  have h8 := pop8_le b.toNat
  simp [ixS, u32, h]
  omega
theorem u8_addN {a b : Nat} (h : a + b < 256) : intV .add (.int .u8 a) (.int .u8 b) = some (.int .u8 ((a + b : Nat) : Int)) := by
  have : IntKind.u8.wrap ((a : Int) + b) = (a : Int) + b := by
    have : IntKind.u8.wrap ((a : Int) + b) = ((a : Int) + b) % 256 := by simp [IntKind.wrap, IntKind.signed, IntKind.bits]
    omega
  simp [intV, isShift, intBin, this]
theorem and255 (b : BitVec 32) : (b &&& 255#32).toNat = b.toNat % 256 := by
  rw [BitVec.toNat_and]
  exact Nat.and_two_pow_sub_one_eq_mod b.toNat 8
theorem pop8_shift (m : BitVec 32) (k : Nat) : pop8 ((m >>> k &&& 255#32).toNat) = (List.range 8).countP fun i => m.getLsbD (k + i) := by
  unfold pop8
  apply List.countP_congr
  intro i hi
  have hi : i < 8 := by simpa using hi
  have : ((m >>> k &&& 255#32).toNat).testBit i = m.getLsbD (k + i) := by
    rw [BitVec.testBit_toNat, BitVec.getLsbD_and, BitVec.getLsbD_ushiftRight]
    have : (255#32).getLsbD i = true := by
      have : i = 0 ∨ i = 1 ∨ i = 2 ∨ i = 3 ∨ i = 4 ∨ i = 5 ∨ i = 6 ∨ i = 7 := by omega
      rcases this with h | h | h | h | h | h | h | h <;> subst h <;> rfl
    rw [this, Bool.and_true]
  rw [this]
theorem cntS_parts (m : BitVec 32) : cntS m = (List.range 8).countP (fun i => m.getLsbD (24 + i)) + (List.range 8).countP (fun i => m.getLsbD (16 + i)) + (List.range 8).countP (fun i => m.getLsbD (8 + i)) + (List.range 8).countP (fun i => m.getLsbD (0 + i)) := by
  have e : List.range 32 = (List.range 8).map (0 + ·) ++ ((List.range 8).map (8 + ·) ++ ((List.range 8).map (16 + ·) ++ (List.range 8).map (24 + ·))) := by decide
  unfold cntS
  rw [e]
  simp only [List.countP_append, List.countP_map, Function.comp_def]
  omega
theorem bits_OnesCount32 (n : Nat) (m : BitVec 32) : RetD (n + 1) k_bits_OnesCount32 [u32 m] (i64 (cntS m)) := by
  refine ⟨rfl, rfl, [], ?_⟩
  rw [bits_OnesCount32_eq]
  have h24 : (m >>> 24).toNat < 256 := by
    rw [BitVec.toNat_ushiftRight, Nat.shiftRight_eq_div_pow]
    have := m.isLt
    omega
  have e24 : m >>> 24 = m >>> 24 &&& 255#32 := by
    apply BitVec.eq_of_toNat_eq
    rw [and255]
    omega
  have hl : ∀ b : BitVec 32, (b &&& 255#32).toNat < 256 := fun b => by rw [and255]; omega
  have l255 : V.int .u32 255 = u32 255#32 := rfl
  have q0 : m &&& 255#32 = m >>> 0 &&& 255#32 := by simp
  have p1 := pop8_le (m >>> 24 &&& 255#32).toNat
  have p2 := pop8_le (m >>> 16 &&& 255#32).toNat
  have p3 := pop8_le (m >>> 8 &&& 255#32).toNat
  have p4 := pop8_le (m >>> 0 &&& 255#32).toNat
  unfold bits_OnesCount32_B
  rw [u32_shr64 (by omega), Option.bind_some]
  rw [show (24 : Int).toNat = 24 from rfl, ixS_pop _ (by kernel_rfl) _ h24, e24, Option.bind_some]
  rw [u32_shr64 (by omega), Option.bind_some, l255, u32_and, Option.bind_some, ixS_pop _ (by kernel_rfl) _ (hl _), Option.bind_some]
  rw [u8_addN (by simp only [show (16 : Int).toNat = 16 from rfl]; omega), Option.bind_some]
  rw [u32_shr64 (by omega), Option.bind_some, u32_and, Option.bind_some, ixS_pop _ (by kernel_rfl) _ (hl _), Option.bind_some]
  rw [u8_addN (by simp only [show (16 : Int).toNat = 16 from rfl, show (8 : Int).toNat = 8 from rfl]; omega), Option.bind_some]
  rw [u32_and, Option.bind_some, ixS_pop _ (by kernel_rfl) _ (hl _), Option.bind_some, q0]
  rw [u8_addN (by simp only [show (16 : Int).toNat = 16 from rfl, show (8 : Int).toNat = 8 from rfl]; omega), Option.bind_some]
  simp only [show (16 : Int).toNat = 16 from rfl, show (8 : Int).toNat = 8 from rfl, pop8_shift, ← cntS_parts]
  have hc : cntS m ≤ 32 := by
    have := List.countP_le_length (p := fun k => m.getLsbD k) (l := List.range 32)
    simpa [cntS] using this
  simp only [toIntV]
  rw [wrap_i64 (by omega) (by omega)]
  rfl
theorem sets_Count (n : Nat) (m : BitVec 32) : RetD (n + 2) k_sets_Count [u32 m] (i64 (cntS m)) := by
  refine ⟨rfl, rfl, [], ?_⟩
  rw [sets_Count_eq]
  have := (bits_OnesCount32 n m).run
  simp -implicitDefEqProofs [sets_Count_B, this]
theorem run_Count (n : Nat) (m : BitVec 32) (h : Heap) : runF (tD (n + 2)) k_sets_Count {} [u32 m] h = some (i64 (cntS m), h) := (sets_Count n m).run h
end Mini
end
/- Sets of ids as masks, bit by bit. -/
section
namespace Mini
open Go
set_option linter.unusedSimpArgs false
set_option linter.unusedVariables false
theorem bit_one (m : BitVec 32) (i : Nat) : ((m >>> i) &&& 1#32 = 1#32) ↔ m.getLsbD i = true := by
  constructor
  · intro h
    have := congrArg (fun x => BitVec.getLsbD x 0) h
    simpa using this
  · intro h
    apply BitVec.eq_of_getLsbD_eq
    intro k hk
    simp only [BitVec.getLsbD_and, BitVec.getLsbD_ushiftRight]
    cases k with
    | zero => simp [h]
    | succ k => simp
theorem hasS_nat (m : BitVec 32) (i : Nat) : hasS m (i : Int) = m.getLsbD i := by
  by_cases h : i < 32
  · rw [Bool.eq_iff_iff, hasS, decide_eq_true_iff]
    simp only [Int.toNat_natCast, bit_one]
    constructor
    · exact fun h => h.2.2
    · exact fun h' => ⟨by omega, by omega, h'⟩
  · have : m.getLsbD i = false := BitVec.getLsbD_of_ge m i (by omega)
    rw [this, hasS]
    simp
    omega
theorem one_bit (g k : Nat) : (one (g : Int)).getLsbD k = (decide (k = g) && decide (k < 32)) := by
  unfold one
  by_cases h : g < 32
  · rw [if_pos (by omega)]
    simp only [Int.toNat_natCast, BitVec.getLsbD_shiftLeft]
    by_cases h2 : k = g
    · subst h2
      simp [h]
    · by_cases h3 : k < g
      · simp [h2, h3]
      · have : k - g ≠ 0 := by omega
        simp [h2, this]
  · rw [if_neg (by omega)]
    by_cases h2 : k = g
    · simp [h2, h]
    · simp [h2]
theorem one_bitI {g : Int} (h : 0 ≤ g) (k : Nat) : (one g).getLsbD k = (decide ((k : Int) = g) && decide (k < 32)) := by
  obtain ⟨m, rfl⟩ := Int.eq_ofNat_of_zero_le h
  rw [one_bit]
  congr 1
  simp
  omega
theorem one_neg {g : Int} (h : ¬ 0 ≤ g) : one g = 0#32 := by
  unfold one
  rw [if_neg (fun h' => h h'.1)]
theorem one_bitI' (g : Int) (k : Nat) : (one g).getLsbD k = (decide ((k : Int) = g) && decide (k < 32)) := by
  by_cases h : 0 ≤ g
  · exact one_bitI h k
  · rw [one_neg h]
    have : ¬ (k : Int) = g := by omega
    simp [this]
theorem inS_iff (a b : BitVec 32) : inS a b = true ↔ ∀ k : Nat, a.getLsbD k = true → b.getLsbD k = true := by
  unfold inS
  rw [decide_eq_true_iff]
  constructor
  · intro h k hk
    have := congrArg (fun x => BitVec.getLsbD x k) h
    have hk32 : k < 32 := by
      by_cases h32 : k < 32
      · exact h32
      · rw [BitVec.getLsbD_of_ge a k (by omega)] at hk
        simp at hk
    simpa [hk, hk32] using this
  · intro h
    apply BitVec.eq_of_getLsbD_eq
    intro k hk
    have := h k
    cases ha : a.getLsbD k
    · simp [ha]
    · simp [ha, this ha]
theorem named_bit (l : List Node) (kind : Int) (k : Nat) (hk : k < 32) : (namedN l kind).getLsbD k = true ↔ ∃ x ∈ l, x.kind = kind ∧ x.arg = (k : Int) := by
  have gen : ∀ m : BitVec 32, (l.foldl (addN kind) m).getLsbD k = true ↔ m.getLsbD k = true ∨ ∃ x ∈ l, x.kind = kind ∧ x.arg = (k : Int) := by
    induction l with
    | nil => intro m; simp
    | cons a l ih =>
      intro m
      rw [List.foldl_cons, ih]
      unfold addN
      by_cases h : a.kind = kind
      · rw [if_pos h]
        simp only [BitVec.getLsbD_or, one_bitI', Bool.or_eq_true, Bool.and_eq_true, decide_eq_true_eq, List.mem_cons, exists_eq_or_imp, h, true_and, hk, and_true]
        constructor
        · rintro ((h1 | h1) | h1)
          · exact .inl h1
          · exact .inr (.inl h1.symm)
          · exact .inr (.inr h1)
        · rintro (h1 | h1 | h1)
          · exact .inl (.inl h1)
          · exact .inl (.inr h1.symm)
          · exact .inr h1
      · rw [if_neg h]
        simp [h]
  have := gen 0#32
  simpa [namedN] using this
end Mini
end
section
namespace Mini
open Go
set_option linter.unusedSimpArgs false
set_option linter.unusedVariables false
/-! ### graph.Order -/
theorem Reach.trans {p : Prg} {a b c : Nat} (h : Reach p a b) (g : Reach p b c) : Reach p a c := by
  induction h with
  | refl f => exact g
  | step c _ ih => exact .step c (ih g)
theorem callees_bit {p : Prg} {f : Nat} {k : Nat} (hk : k < 32) : ((calleesP p)[f]?.getD 0#32).getLsbD k = true ↔ CallTo p f k := by
  unfold calleesP CallTo
  rw [List.getElem?_map]
  cases h : p.fs[f]? with
  | none => simp
  | some l =>
    simp only [Option.map_some, Option.getD_some, named_bit l 7 k hk]
    constructor
    · rintro ⟨x, h1, h2, h3⟩
      exact ⟨l, x, rfl, h1, h2, h3⟩
    · rintro ⟨l', x, h1, h2, h3, h4⟩
      injection h1 with h1
      subst h1
      exact ⟨x, h2, h3, h4⟩
theorem CallTo.lt {p : Prg} (wc : WellCalls p) {f g : Nat} (h : CallTo p f g) : g < p.fs.length := by
  obtain ⟨l, x, h1, h2, h3, h4⟩ := h
  have := wc l (List.mem_of_getElem? h1) x h2 h3
  omega
theorem CallTo.lt' {p : Prg} {f g : Nat} (h : CallTo p f g) : f < p.fs.length := by
  obtain ⟨l, x, h1, h2, h3, h4⟩ := h
  exact (List.getElem?_eq_some_iff.1 h1).1
theorem noRound_iff {p : Prg} (wc : WellCalls p) : ¬ HasRound p ↔ ∀ f g, CallTo p f g → ¬ Reach p g f := by
  constructor
  · rintro h f g ⟨l, x, h1, h2, h3, h4⟩ hr
    exact h ⟨f, l, x, h1, h2, h3, by rw [h4]; exact hr⟩
  · rintro h ⟨f, l, x, h1, h2, h3, h4⟩
    have := wc l (List.mem_of_getElem? h1) x h2 h3
    exact h f x.arg.toNat ⟨l, x, h1, h2, h3, by omega⟩ h4
open Classical in
noncomputable def rank (p : Prg) (g : Nat) : Nat := (List.range p.fs.length).countP fun h => decide (Reach p g h)
theorem countP_lt {α : Type} {p q : α → Bool} {l : List α} (h : ∀ x ∈ l, p x = true → q x = true) {a : α} (ha : a ∈ l) (hq : q a = true) (hp : p a = false) : l.countP p < l.countP q := by
  induction l with
  | nil => simp at ha
  | cons b l ih =>
    simp only [List.countP_cons]
    have hle : l.countP p ≤ l.countP q := List.countP_mono_left fun x hx => h x (List.mem_cons_of_mem _ hx)
    rcases List.mem_cons.1 ha with e | e
    · subst e
      simp [hq, hp]
      omega
    · have := ih (fun x hx => h x (List.mem_cons_of_mem _ hx)) e
      have h2 := h b (List.mem_cons_self ..)
      cases hb : p b
      · simp; omega
      · simp [h2 hb]; omega
theorem rank_lt {p : Prg} (hr : ∀ f g, CallTo p f g → ¬ Reach p g f) {f g : Nat} (h : CallTo p f g) : rank p g < rank p f := by
  refine countP_lt (a := f) (fun x _ hx => ?_) (List.mem_range.2 h.lt') ?_ ?_
  · simp only [decide_eq_true_eq] at hx ⊢
    exact .step h hx
  · simpa using Reach.refl f
  · simpa using hr f g h
/-- Functions, each behind those that it calls. -/
structure Topo (p : Prg) (out : List Nat) : Prop where
  nodup : out.Nodup
  lt : ∀ g ∈ out, g < p.fs.length
  order : ∀ (i f g : Nat), out[i]? = some f → CallTo p f g → g ∈ out.take i
theorem Topo.nil (p : Prg) : Topo p [] := ⟨by simp, by simp, by simp⟩
theorem Topo.snoc {p : Prg} {out : List Nat} (T : Topo p out) {f : Nat} (hf : f < p.fs.length) (hn : f ∉ out) (hc : ∀ g, CallTo p f g → g ∈ out) : Topo p (out ++ [f]) where
  nodup := by
    rw [List.nodup_append]
    exact ⟨T.nodup, by simp, fun a ha b hb => by simp at hb; subst hb; exact fun e => hn (e ▸ ha)⟩
  lt := fun g hg => by
    rcases List.mem_append.1 hg with h | h
    · exact T.lt g h
    · simp at h; subst h; exact hf
  order := fun i f' g hi hc' => by
    by_cases h : i < out.length
    · rw [List.getElem?_append_left h] at hi
      have := T.order i f' g hi hc'
      rw [List.take_append_of_le_length (by omega)]
      exact this
    · rw [List.getElem?_append_right (by omega)] at hi
      have h0 : i - out.length = 0 := by
        by_cases h1 : i - out.length = 0
        · exact h1
        · rw [List.getElem?_eq_none (by simp; omega)] at hi
          simp at hi
      rw [h0] at hi
      simp at hi
      subst hi
      have : i = out.length := by omega
      subst this
      simpa using hc g hc'
theorem Topo.all {p : Prg} {out : List Nat} (hr : ∀ f g, CallTo p f g → ¬ Reach p g f) (h : ∀ g, g < p.fs.length → g ∉ out → ∃ k, CallTo p g k ∧ k < p.fs.length ∧ k ∉ out) : ∀ g, g < p.fs.length → g ∈ out := by
  have key : ∀ (m g : Nat), rank p g < m → g < p.fs.length → g ∈ out := by
    intro m
    induction m with
    | zero => intro g h; omega
    | succ m ih =>
      intro g hg hl
      by_cases hn : g ∈ out
      · exact hn
      · obtain ⟨k, h1, h2, h3⟩ := h g hl hn
        exact absurd (ih k (by have := rank_lt hr h1; omega) h2) h3
  exact fun g => key _ g (Nat.lt_succ_self _)
/-- How many callees are yet to come. -/
def waitC (m : BitVec 32) (out : List Nat) : Nat := (List.range 32).countP fun h => m.getLsbD h && !out.contains h
theorem waitC_nil (m : BitVec 32) : waitC m [] = cntS m := by simp [waitC, cntS]
theorem waitC_zero {m : BitVec 32} {out : List Nat} : waitC m out = 0 ↔ ∀ k, m.getLsbD k = true → k ∈ out := by
  unfold waitC
  rw [List.countP_eq_zero]
  constructor
  · intro h k hk
    have hk32 : k < 32 := by
      by_cases h32 : k < 32
      · exact h32
      · rw [BitVec.getLsbD_of_ge m k (by omega)] at hk
        simp at hk
    have := h k (List.mem_range.2 hk32)
    simpa [hk] using this
  · intro h k _
    by_cases hk : m.getLsbD k = true
    · simp [hk, h k hk]
    · simp [hk]
theorem countP_one {l : List Nat} (hn : l.Nodup) {f : Nat} (hf : f ∈ l) {p q : Nat → Bool} (hp : p f = true) (hq : q f = false) (h : ∀ x, x ≠ f → p x = q x) : l.countP q + 1 = l.countP p := by
  induction l with
  | nil => simp at hf
  | cons a l ih =>
    rw [List.nodup_cons] at hn
    simp only [List.countP_cons]
    by_cases e : a = f
    · subst e
      have : l.countP q = l.countP p := List.countP_congr fun x hx => by rw [h x (fun e => hn.1 (e ▸ hx))]
      simp [hp, hq, this]
    · have := ih hn.2 (by simpa [Ne.symm e] using hf)
      rw [h a e]
      omega
theorem waitC_step {m : BitVec 32} {out : List Nat} {f : Nat} (hf : f < 32) (hn : f ∉ out) : (m.getLsbD f = true → waitC m (out ++ [f]) + 1 = waitC m out) ∧ (m.getLsbD f = false → waitC m (out ++ [f]) = waitC m out) := by
  constructor
  · intro h
    refine countP_one List.nodup_range (List.mem_range.2 hf) ?_ ?_ ?_
    · simp [h, hn]
    · simp
    · intro x hx
      simp [hx]
  · intro h
    refine List.countP_congr fun x hx => ?_
    by_cases e : x = f
    · subst e
      simp [h]
    · simp [e]
theorem waitC_le (m : BitVec 32) (out : List Nat) : waitC m out ≤ 32 := by
  have := List.countP_le_length (p := fun h => m.getLsbD h && !out.contains h) (l := List.range 32)
  simpa [waitC] using this
end Mini
end
section
namespace Mini
open Go
set_option linter.unusedSimpArgs false
set_option linter.unusedVariables false
theorem app_row {id lim k i st : Nat} {x : V} {cs : List V} {h : Heap} (hx : x.okCell = true) (hc : cellsAt h k st = some cs) (hl : cs.length = i) (hlim : i + 1 ≤ lim) :
    appV (some id) lim 0 (.sl k 0 i i 0 st) (.vec [x]) h = some (.sl k 0 (i + 1) (i + 1) 0 (st + 1), hset h k ⟨st + 1, some (cs ++ [x])⟩) := by
  have hf : fitsV 0 x = true := by cases x <;> first | rfl | (simp at hx; done) | (simp [V.okCell] at hx)
  have hcx : x.cells = [x] := by cases x <;> first | rfl | (simp [V.okCell] at hx)
  simp [appV, srcV, hf, hcx, hx, hc, hl, hlim]
theorem frz_rowG {α : Type} (f : α → V) (hf : ∀ x h, frzV 7 (f x) h = some (f x, h)) (ha : ∀ x, (f x).isAgg = false) {l : List α} {k c st : Nat} {h : Heap} (hc : cellsAt h k st = some (l.map f)) :
    frzV 8 (.sl k 0 l.length c 0 st) h = some (.vec (l.map f), kill h k) := by
  have ho : okE 0 (l.map f) = true := by simp [okE, ha]
  have : (l.map f).take l.length = l.map f := by rw [List.take_of_length_le (by simp)]
  rw [frzV_sl, hc]
  simp [frzL_map f 7 hf, elems_map, ho, this]
def wN (n : Nat) : V := i64 (n : Int)
def OH (s0 : Slot) (wait : List Nat) (R junk : List Int) (st1 st2 st3 st4 : Nat) : Heap := [s0, ⟨st1, some (wait.map wN)⟩, ⟨st2, some [.sl 3 0 R.length (R ++ junk).length 0 st3]⟩, ⟨st3, some ((R ++ junk).map i64)⟩, ⟨st4, none⟩]
theorem ent_OH (s0 : Slot) (wait : List Nat) (R junk : List Int) (st1 st2 st3 st4 : Nat) : entH [2, 3, 4] (OH s0 wait R junk st1 st2 st3 st4) = HH none R junk 0 0 0 := by
  simp only [entH, OH, List.map_cons, List.map_nil, hget, Option.map_some, Option.map_none, renL, V.ren, renL_ints]
  simp [entM, hget, idxIn, HH, hX, hS]
theorem run_OH {n f : Nat} {s0 : Slot} {wait : List Nat} {R junk R' junk' : List Int} {st1 st2 st3 st4 st' : Nat} {args args' : List V} {v : V} (ha : renL (entM [2, 3, 4] (OH s0 wait R junk st1 st2 st3 st4)) args = args')
    (e : dn PR gD anD n f args' (HH none R junk 0 0 0) = some (v, HH none R' junk' 0 st' 0)) (hv : v.noRef = true) :
    runF (tD n) f { ks := [2, 3, 4] } args (OH s0 wait R junk st1 st2 st3 st4) = some (v, OH s0 wait R' junk' st1 st2 (st' + st3) st4) := by
  have := runF_dn (P := PR) (G := gD) (An := anD) (n := n) (f := f) (a := { ks := [2, 3, 4] }) (args := args) (h := OH s0 wait R junk st1 st2 st3 st4) (r := (v, HH none R' junk' 0 st' 0)) rfl (by rfl) (by rw [ha, ent_OH]; exact e)
  rw [this]
  simp only [exO, exK, OH, HH, hX, hS, hget, hset, renS, Option.map_some, Option.map_none, renL, V.ren, renL_ints, (noRef_ren _).1 _ hv]
  simp [exM, hget]
theorem run_oPush (n : Nat) (s0 : Slot) (wait : List Nat) (R junk : List Int) (st1 st2 st3 st4 : Nat) (x : Int) (hs : (R ++ junk).length < 999990) :
    ∃ (R' junk' : List Int) (st' : Nat), R'.Perm (x :: R) ∧ (R' ++ junk').length ≤ (R ++ junk).length + 1 ∧
      runF (tD (n + 4)) k_heap_Push { ks := [2, 3, 4] } [.iface y_P_graph_ids (.ptr 2 0 st2), .iface y_i64 (i64 x)] (OH s0 wait R junk st1 st2 st3 st4) = some (.tup [], OH s0 wait R' junk' st1 st2 st' st4) := by
  obtain ⟨R', junk', st', hp, hl, e⟩ := heap_Push (n + 1) (fun k => Meth.ids k none) junk 0 0 0 R x hs
  exact ⟨R', junk', st' + st3, hp, hl, run_OH (by simp [renL, V.ren, entM, OH, hget, idxIn]) e rfl⟩
theorem run_oPop (n : Nat) (s0 : Slot) (wait : List Nat) (R junk : List Int) (st1 st2 st3 st4 : Nat) (h0 : 0 < R.length) (hs : (R ++ junk).length < 999990) :
    ∃ (x : Int) (R' junk' : List Int), (x :: R').Perm R ∧ (R' ++ junk').length = (R ++ junk).length ∧
      runF (tD (n + 4)) k_heap_Pop { ks := [2, 3, 4] } [.iface y_P_graph_ids (.ptr 2 0 st2)] (OH s0 wait R junk st1 st2 st3 st4) = some (.iface y_i64 (i64 x), OH s0 wait R' junk' st1 st2 st3 st4) := by
  obtain ⟨x, R', junk', hp, hl, e⟩ := heap_Pop (n + 1) (fun k => Meth.ids k none) junk 0 0 0 R h0 hs
  refine ⟨x, R', junk', hp, hl, ?_⟩
  have := run_OH (s0 := s0) (wait := wait) (st1 := st1) (st2 := st2) (st3 := st3) (st4 := st4) (args := [.iface y_P_graph_ids (.ptr 2 0 st2)]) (by simp [renL, V.ren, entM, OH, hget, idxIn]) e rfl
  simpa using this
/-- What stands when a function is to be taken. -/
structure OInv (p : Prg) (out wait : List Nat) (R : List Int) : Prop where
  topo : Topo p out
  len : wait.length = p.fs.length
  wait : ∀ g < p.fs.length, wait[g]? = some (waitC ((calleesP p)[g]?.getD 0#32) out)
  nodup : R.Nodup
  nat : ∀ x ∈ R, ∃ f : Nat, f < p.fs.length ∧ x = (f : Int)
  ready : ∀ f < p.fs.length, (f : Int) ∈ R ↔ f ∉ out ∧ waitC ((calleesP p)[f]?.getD 0#32) out = 0
/-- What stands while its callers are told: i of them are. -/
structure OInv2 (p : Prg) (out : List Nat) (f i : Nat) (wait : List Nat) (R : List Int) : Prop where
  topo : Topo p (out ++ [f])
  hf : f < p.fs.length
  hn : f ∉ out
  hz : waitC ((calleesP p)[f]?.getD 0#32) out = 0
  len : wait.length = p.fs.length
  wait : ∀ g < p.fs.length, wait[g]? = some (waitC ((calleesP p)[g]?.getD 0#32) (if g < i then out ++ [f] else out))
  nodup : R.Nodup
  nat : ∀ x ∈ R, ∃ f : Nat, f < p.fs.length ∧ x = (f : Int)
  ready : ∀ g < p.fs.length, (g : Int) ∈ R ↔ g ∉ out ++ [f] ∧ waitC ((calleesP p)[g]?.getD 0#32) (if g < i then out ++ [f] else out) = 0
theorem OInv.pop {p : Prg} {out wait : List Nat} {R R' : List Int} {x : Int} (I : OInv p out wait R) (wc : WellCalls p) (hN : p.fs.length ≤ 16) (hp : (x :: R').Perm R) : ∃ f : Nat, x = (f : Int) ∧ OInv2 p out f 0 wait R' := by
  obtain ⟨f, hf, rfl⟩ := I.nat x (hp.subset (List.mem_cons_self ..))
  have hr := (I.ready f hf).1 (hp.subset (List.mem_cons_self ..))
  have hnd : ((f : Int) :: R').Nodup := hp.nodup_iff.2 I.nodup
  rw [List.nodup_cons] at hnd
  refine ⟨f, rfl, I.topo.snoc hf hr.1 (fun g hg => ?_), hf, hr.1, hr.2, I.len, fun g hg => by rw [I.wait g hg]; simp, hnd.2, fun y hy => I.nat y (hp.subset (List.mem_cons_of_mem _ hy)), fun g hg => ?_⟩
  · have h32 : g < 32 := by have := hg.lt wc; omega
    exact waitC_zero.1 hr.2 g ((callees_bit h32).2 hg)
  · have := I.ready g hg
    simp only [List.mem_append, List.mem_singleton, not_or, Nat.not_lt_zero, if_false]
    rw [← hp.mem_iff, List.mem_cons] at this
    constructor
    · intro h
      have h2 := this.1 (.inr h)
      refine ⟨⟨h2.1, fun e => ?_⟩, h2.2⟩
      subst e
      exact hnd.1 h
    · rintro ⟨⟨h1, h2⟩, h3⟩
      rcases this.2 ⟨h1, h3⟩ with e | h
      · exact absurd (by omega) h2
      · exact h
theorem OInv2.no {p : Prg} {out wait : List Nat} {R : List Int} {f i : Nat} (I : OInv2 p out f i wait R) (hN : p.fs.length ≤ 16) (hi : i < p.fs.length) (hc : ((calleesP p)[i]?.getD 0#32).getLsbD f = false) : OInv2 p out f (i + 1) wait R := by
  have hw := (waitC_step (m := (calleesP p)[i]?.getD 0#32) (out := out) (f := f) (by have := I.hf; omega) I.hn).2 hc
  have e : ∀ g < p.fs.length, waitC ((calleesP p)[g]?.getD 0#32) (if g < i + 1 then out ++ [f] else out) = waitC ((calleesP p)[g]?.getD 0#32) (if g < i then out ++ [f] else out) := by
    intro g hg
    by_cases h1 : g = i
    · subst h1
      simp [hw]
    · by_cases h2 : g < i
      · rw [if_pos (by omega), if_pos h2]
      · rw [if_neg (by omega), if_neg h2]
  exact ⟨I.topo, I.hf, I.hn, I.hz, I.len, fun g hg => by rw [e g hg]; exact I.wait g hg, I.nodup, I.nat, fun g hg => by rw [e g hg]; exact I.ready g hg⟩
theorem OInv2.yes {p : Prg} {out wait : List Nat} {R R' : List Int} {f i k : Nat} (I : OInv2 p out f i wait R) (hN : p.fs.length ≤ 16) (hi : i < p.fs.length) (hc : ((calleesP p)[i]?.getD 0#32).getLsbD f = true)
    (hk : wait[i]? = some k) (hR : if k - 1 = 0 then R'.Perm ((i : Int) :: R) else R' = R) : 1 ≤ k ∧ OInv2 p out f (i + 1) (wait.set i (k - 1)) R' := by
  have hf32 : f < 32 := by have := I.hf; omega
  have hw := (waitC_step (m := (calleesP p)[i]?.getD 0#32) (out := out) (f := f) hf32 I.hn).1 hc
  have hk' := I.wait i hi
  rw [hk] at hk'
  simp only [Nat.lt_irrefl, if_false, Option.some.injEq] at hk'
  have hk1 : 1 ≤ k := by omega
  have hcall : CallTo p i f := (callees_bit hf32).1 hc
  have hni : i ∉ out ++ [f] := by
    intro h
    rcases List.mem_append.1 h with h | h
    · obtain ⟨j, hj, rfl⟩ := List.mem_iff_getElem.1 h
      have := I.topo.order j out[j] f (by rw [List.getElem?_append_left hj]; simp [hj]) hcall
      rw [List.take_append_of_le_length (by omega)] at this
      exact I.hn (List.mem_of_mem_take this)
    · simp at h
      subst h
      exact I.hn (waitC_zero.1 I.hz i hc)
  have hnR : (i : Int) ∉ R := by
    intro h
    have := ((I.ready i hi).1 h).2
    simp at this
    omega
  refine ⟨hk1, I.topo, I.hf, I.hn, I.hz, by simpa using I.len, fun g hg => ?_, ?_, ?_, fun g hg => ?_⟩
  · rw [List.getElem?_set]
    by_cases h1 : i = g
    · subst h1
      have hl := I.len
      simp [hl, hi]
      omega
    · rw [if_neg h1, I.wait g hg]
      by_cases h2 : g < i
      · rw [if_pos h2, if_pos (by omega)]
      · rw [if_neg h2, if_neg (by omega)]
  · split at hR
    · rw [hR.nodup_iff, List.nodup_cons]
      exact ⟨hnR, I.nodup⟩
    · rw [hR]; exact I.nodup
  · intro x hx
    split at hR
    · rcases List.mem_cons.1 (hR.subset hx) with e | h
      · exact ⟨i, hi, e⟩
      · exact I.nat x h
    · rw [hR] at hx; exact I.nat x hx
  · by_cases h1 : g = i
    · subst h1
      rw [if_pos (by omega)]
      split at hR
      · rename_i h0
        rw [hR.mem_iff]
        simp only [List.mem_cons, true_or, true_iff]
        exact ⟨hni, by omega⟩
      · rename_i h0
        rw [hR]
        constructor
        · intro h; exact absurd h hnR
        · rintro ⟨_, h⟩; omega
    · have e : (g : Int) ∈ R' ↔ (g : Int) ∈ R := by
        split at hR
        · rw [hR.mem_iff, List.mem_cons]
          constructor
          · rintro (h | h)
            · exact absurd (by omega) h1
            · exact h
          · exact .inr
        · rw [hR]
      rw [e, I.ready g hg]
      by_cases h2 : g < i
      · rw [if_pos h2, if_pos (by omega)]
      · rw [if_neg h2, if_neg (by omega)]
theorem OInv2.done {p : Prg} {out wait : List Nat} {R : List Int} {f : Nat} (I : OInv2 p out f p.fs.length wait R) : OInv p (out ++ [f]) wait R := by
  refine ⟨I.topo, I.len, fun g hg => ?_, I.nodup, I.nat, fun g hg => ?_⟩
  · have := I.wait g hg
    rwa [if_pos hg] at this
  · have := I.ready g hg
    rwa [if_pos hg] at this
theorem OInv.all {p : Prg} {out wait : List Nat} (I : OInv p out wait []) (wc : WellCalls p) (hN : p.fs.length ≤ 16) (hr : ¬ HasRound p) : ∀ g, g < p.fs.length → g ∈ out := by
  refine Topo.all ((noRound_iff wc).1 hr) fun g hg hn => ?_
  have := I.ready g hg
  simp only [List.not_mem_nil, false_iff, not_and] at this
  have h0 := this hn
  rw [waitC_zero] at h0
  simp only [Classical.not_forall] at h0
  obtain ⟨k, h1, h2⟩ := h0
  have h32 : k < 32 := by
    by_cases h32 : k < 32
    · exact h32
    · rw [BitVec.getLsbD_of_ge _ k (by omega)] at h1
      simp at h1
  have hc := (callees_bit h32).1 h1
  exact ⟨k, hc, hc.lt wc, h2⟩
end Mini
end
section
namespace Mini
open Go
set_option linter.unusedSimpArgs false
set_option linter.unusedVariables false
theorem calleesP_length (p : Prg) : (calleesP p).length = p.fs.length := by simp [calleesP]
theorem run_oLen (n : Nat) (s0 : Slot) (wait : List Nat) (R junk : List Int) (st1 st2 st3 st4 : Nat) : runF (tD (n + 1)) k_graph_ids_Len { ks := [3] } [.sl 3 0 R.length (R ++ junk).length 0 st3] (OH s0 wait R junk st1 st2 st3 st4) = some (i64 R.length, OH s0 wait R junk st1 st2 st3 st4) := by
  have := run_row (P := PR) (G := gD) (An := anD) (n := n + 1) (f := k_graph_ids_Len) (k := 3) (st := st3) (st' := 0) (h := OH s0 wait R junk st1 st2 st3 st4) (args := [.sl 3 0 R.length (R ++ junk).length 0 st3]) (args' := [.sl 0 0 R.length (R ++ junk).length 0 0]) (cs := (R ++ junk).map i64) (cs' := (R ++ junk).map i64) (hc := []) (v := i64 R.length)
    rfl (noRef_map (fun _ => rfl) _) (by simp [renL, V.ren, entM, OH, hget, idxIn]) (by rw [graph_ids_Len_eq]; simp [graph_ids_Len_B, lenV]) rfl (noRef_map (fun _ => rfl) _)
  rw [this]
  simp [OH]
theorem errP_zero {p : Prg} (h : errP p = 0) : (0 ≤ p.g ∧ p.g ≤ 16 ∧ 0 ≤ p.l ∧ p.l ≤ 16 ∧ 0 ≤ p.s ∧ p.s ≤ 8 ∧ 0 < p.fs.length ∧ p.fs.length ≤ 16) ∧ (∀ l ∈ p.fs, 0 < l.length ∧ l.length ≤ 64 ∧ ∀ x ∈ l, mayN p x l.length = true) ∧ ¬ HasRound p := by
  unfold errP at h
  split at h
  · simp at h
  split at h
  · simp at h
  rename_i h1 h2
  cases hf : firstN (fun f => funcErr p (p.fs[f]?.getD [])) p.fs.length 0 with
  | some e =>
    obtain ⟨i, _, _, _, hi⟩ := firstN_some hf
    rw [hf] at h
    simp only at h
    subst h
    simp only [funcErr] at hi
    split at hi
    · simp at hi
    split at hi
    · simp at hi
    split at hi <;> simp at hi
  | none =>
    rw [hf] at h
    simp only at h
    split at h
    · simp at h
    rename_i hr
    refine ⟨by omega, fun l hl => ?_, hr⟩
    obtain ⟨i, hi, rfl⟩ := List.mem_iff_getElem.1 hl
    have := firstN_none hf i (by omega) (by omega)
    simp only [List.getElem?_eq_getElem hi, Option.getD_some, funcErr] at this
    split at this
    · simp at this
    split at this
    · simp at this
    split at this
    · rename_i h3 h4 h5
      exact ⟨by omega, by omega, List.all_eq_true.1 h5⟩
    · simp at this
theorem nodup_lt : ∀ (N : Nat) (l : List Nat), l.Nodup → (∀ x ∈ l, x < N) → l.length ≤ N
  | 0, l, _, h => by
    cases l with
    | nil => simp
    | cons a l => exact absurd (h a (List.mem_cons_self ..)) (by omega)
  | N + 1, l, hn, h => by
    by_cases hm : N ∈ l
    · have := nodup_lt N (l.erase N) (hn.erase N) (fun x hx => by
        have := (hn.mem_erase_iff).1 hx
        have := h x this.2
        omega)
      rw [List.length_erase_of_mem hm] at this
      omega
    · have := nodup_lt N l hn (fun x hx => by
        have h1 := h x hx
        have : x ≠ N := fun e => hm (e ▸ hx)
        omega)
      omega
theorem graph_Order (n : Nat) (p : Prg) (hsm : SmallP p) : (errP p ≠ 0 → RetD (n + 20) k_graph_Order [p.v] (.tup [intsV [], i64 (errP p)])) ∧
    (errP p = 0 → ∃ out : List Nat, Topo p out ∧ (∀ g, g ∈ out ↔ g < p.fs.length) ∧ RetD (n + 20) k_graph_Order [p.v] (.tup [.vec (out.map wN), i64 0])) := by
  obtain ⟨a, b, hchk⟩ := prog_Check n p hsm
  have hchk := hchk.run
  constructor
  · intro he
    refine Ret.of rfl rfl (graph_Order_eq ..) ?_
    have he' : decide (errP p = 0) = false := by simpa using he
    simp -implicitDefEqProofs [graph_Order_B, hchk, he']
    rfl
  · intro he
    obtain ⟨wc, hr, hN, hN0⟩ : WellCalls p ∧ ¬ HasRound p ∧ p.fs.length ≤ 16 ∧ 0 < p.fs.length := by
      obtain ⟨h1, h2, h3⟩ := errP_zero he
      exact ⟨wellCalls_of fun l hl => (h2 l hl).2.2, h3, by omega, by omega⟩
    suffices h : W (graph_Order_B (n + 19) p.v [⟨0, none⟩, ⟨0, none⟩, ⟨0, none⟩, ⟨0, none⟩, ⟨0, none⟩]) (fun _ => False) (fun o => ∃ out : List Nat, (Topo p out ∧ ∀ g, g ∈ out ↔ g < p.fs.length) ∧ ∃ h', o = .ret (.tup [.vec (out.map wN), i64 0]) h') by
      obtain ⟨o, ho, hw⟩ := h
      cases o with
      | normal s => exact hw.elim
      | exit i s => obtain ⟨out, _, h, e⟩ := hw; simp at e
      | ret v h =>
        obtain ⟨out, ⟨ht, ha⟩, h', e⟩ := hw
        injection e with e1 e2
        subst e1 e2
        refine ⟨out, ht, ha, rfl, rfl, h, ?_⟩
        rw [graph_Order_eq]
        have : ([] ++ pad 5 : Heap) = [⟨0, none⟩, ⟨0, none⟩, ⟨0, none⟩, ⟨0, none⟩, ⟨0, none⟩] := rfl
        rw [this, ho]
        rfl
    have hcal : ∀ h, runF (tD (n + 19)) k_graph_Callees {} [p.v] h = some (setsV (calleesP p), h) := fun h => (graph_Callees (n + 16) p hsm (by omega)).run h
    have hcl := calleesP_length p
    have hmk := mkSl_row wN 0 (id := 1) (lim := 8796093022208) (n := p.fs.length) (h := [⟨0, none⟩, ⟨0, none⟩, ⟨0, none⟩, ⟨0, none⟩, ⟨0, none⟩]) (by omega)
    simp [wN] at hmk
    simp -implicitDefEqProofs [graph_Order_B, hchk, he, hcal, hcl, hmk, promC, cmds.faV', slTo]
    refine W_up p.fs.length (fun i s => ∃ (wait : List Nat) (R junk : List Int) (st3 : Nat), At s [(7, setsV (calleesP p)), (8, .sl 1 0 p.fs.length p.fs.length 0 1), (9, .ptr 2 0 1), (30, setsV (calleesP p)), (31, i64 p.fs.length), (32, i64 i)] (OH ⟨0, none⟩ wait R junk 1 1 st3 0) ∧
      (R ++ junk).length ≤ i ∧ wait.length = p.fs.length ∧ (∀ g < i, wait[g]? = some (waitC ((calleesP p)[g]?.getD 0#32) [])) ∧ R.Nodup ∧ (∀ x ∈ R, ∃ f : Nat, f < i ∧ x = (f : Int)) ∧ (∀ f < i, (f : Int) ∈ R ↔ waitC ((calleesP p)[f]?.getD 0#32) [] = 0)) ?_ ?_ (Nat.zero_le _)
      ⟨List.replicate p.fs.length 0, [], [], 1, by simp [OH, wN], by simp, by simp, by omega, by simp, by simp, by omega⟩
    · rintro i s hi ⟨wait, R, junk, st3, hs, hb, hwl, hw, hnd, hnat, hrd⟩
      have ha := i64_inc hi (by omega)
      obtain ⟨c, hc, _⟩ := getE (l := calleesP p) (i := i) (by omega)
      have hcd : (calleesP p)[i]?.getD 0#32 = c := by rw [hc]; rfl
      have hst := st_row (f := wN) (fun _ => rfl) (fun _ => rfl) (fun _ => rfl) (l := wait) (i := i) (k := 1) (st := 1) (a := cntS c) (h := OH ⟨0, none⟩ wait R junk 1 1 st3 0) rfl (by omega)
      have hst : stV 0 (.ptr 1 i 1) (i64 (cntS c)) (OH ⟨0, none⟩ wait R junk 1 1 st3 0) = some (OH ⟨0, none⟩ (wait.set i (cntS c)) R junk 1 1 st3 0) := hst
      have hld := ld_row (f := wN) (fun _ => rfl) (l := wait.set i (cntS c)) (i := i) (k := 1) (st := 1) (a := cntS c) (h := OH ⟨0, none⟩ (wait.set i (cntS c)) R junk 1 1 st3 0) rfl (by simp [hwl, hi])
      have hld : ldV 0 (.ptr 1 i 1) (OH ⟨0, none⟩ (wait.set i (cntS c)) R junk 1 1 st3 0) = some (i64 (cntS c)) := hld
      have hia := iaS_sl (sz := 0) (k := 1) (off := 0) (cap := p.fs.length) (st := 1) hi
      simp only [csz, if_pos, Nat.mul_one, Nat.zero_add] at hia
      have hcnt : ∀ h, runF (tD (n + 19)) k_sets_Count {} [u32 c] h = some (i64 (cntS c), h) := run_Count (n + 17) c
      have hw' : ∀ g < i + 1, (wait.set i (cntS c))[g]? = some (waitC ((calleesP p)[g]?.getD 0#32) []) := by
        intro g hg
        rw [List.getElem?_set]
        by_cases e : i = g
        · subst e
          simp [hwl, hi, hc, waitC_nil]
        · rw [if_neg e]; exact hw g (by omega)
      simp at hs
      obtain ⟨R', junk', st', hp, hl', hpush⟩ := run_oPush (n + 15) ⟨0, none⟩ (wait.set i (cntS c)) R junk 1 1 st3 0 i (by omega)
      have hwc : waitC ((calleesP p)[i]?.getD 0#32) [] = cntS c := by rw [hcd, waitC_nil]
      by_cases h0 : cntS c = 0
      · have d0 := eq_true h0
        simp -implicitDefEqProofs [-ldV_ptr, -stV_ptr, graph_Order_L0, hs, hi, ia_setsE hc, hcnt, hia, hst, hld, d0, hpush, ha]
        refine ⟨wait.set i (cntS c), R', junk', ⟨_, rfl⟩, by simp at hl' hb ⊢; omega, by simpa using hwl, hw', ?_, ?_, ?_⟩
        · rw [hp.nodup_iff, List.nodup_cons]
          exact ⟨fun h => by obtain ⟨f, hf, e⟩ := hnat _ h; omega, hnd⟩
        · intro x hx
          rcases List.mem_cons.1 (hp.subset hx) with e | h
          · exact ⟨i, by omega, e⟩
          · obtain ⟨f, hf, e⟩ := hnat x h; exact ⟨f, by omega, e⟩
        · intro f hf
          rw [hp.mem_iff, List.mem_cons]
          by_cases e : f = i
          · subst e
            simp only [true_or, true_iff]
            rw [hwc, h0]
          · rw [← hrd f (by omega)]
            constructor
            · rintro (h | h)
              · exact absurd (by omega) e
              · exact h
            · exact .inr
      · have d0 := eq_false h0
        simp -implicitDefEqProofs [-ldV_ptr, -stV_ptr, graph_Order_L0, hs, hi, ia_setsE hc, hcnt, hia, hst, hld, d0, ha]
        refine ⟨wait.set i (cntS c), R, junk, ⟨_, rfl⟩, by simp at hb ⊢; omega, by simpa using hwl, hw', hnd, ?_, ?_⟩
        · intro x h
          obtain ⟨f, hf, e⟩ := hnat x h; exact ⟨f, by omega, e⟩
        · intro f hf
          by_cases e : f = i
          · subst e
            constructor
            · intro h; obtain ⟨g, hg, e⟩ := hnat _ h; omega
            · intro h; rw [hwc] at h; exact absurd h h0
          · exact hrd f (by omega)
    · rintro s ⟨wait, R, junk, st3, hs, hb, hwl, hw, hnd, hnat, hrd⟩
      have I0 : OInv p [] wait R := ⟨Topo.nil p, hwl, hw, hnd, hnat, fun f hf => by simpa using hrd f hf⟩
      clear hw hnd hnat hrd hwl
      simp at hs
      simp -implicitDefEqProofs [graph_Order_L0, hs, promV, OH, slTo]
      refine W_loop (fun m s => ∃ (out wait : List Nat) (R junk : List Int) (st0 st3 : Nat), m + out.length = p.fs.length ∧ At s [(7, setsV (calleesP p)), (8, .sl 1 0 p.fs.length p.fs.length 0 1), (9, .ptr 2 0 1), (12, .sl 0 0 out.length out.length 0 st0)] (OH ⟨st0, some (out.map wN)⟩ wait R junk 1 1 st3 0) ∧
        (R ++ junk).length ≤ p.fs.length + out.length * p.fs.length ∧ OInv p out wait R) ?_ p.fs.length _ ⟨[], wait, R, junk, 1, st3, by simp, by simp [OH], by simpa using hb, I0⟩
      rintro m s ⟨out, wait, R, junk, st0, st3, hm, hs, hb, I⟩
      have hob : out.length ≤ 16 := by omega
      have hmul : out.length * p.fs.length ≤ 16 * 16 := Nat.mul_le_mul hob hN
      have hl3 := run_oLen (n + 18) ⟨st0, some (out.map wN)⟩ wait R junk 1 1 st3 0
      have hl3 : runF (tD (n + 19)) k_graph_ids_Len { ks := [3] } [.sl 3 0 R.length (R ++ junk).length 0 st3] (OH ⟨st0, some (out.map wN)⟩ wait R junk 1 1 st3 0) = some (i64 R.length, OH ⟨st0, some (out.map wN)⟩ wait R junk 1 1 st3 0) := hl3
      have hld : ldV 0 (.ptr 2 0 1) (OH ⟨st0, some (out.map wN)⟩ wait R junk 1 1 st3 0) = some (.sl 3 0 R.length (R ++ junk).length 0 st3) := by simp [OH]
      simp at hs
      by_cases h0 : R = []
      · subst h0
        have d0 : decide ((([] : List Int).length : Int) > 0) = false := by simp
        have hfr := frz_rowG wN (fun _ _ => rfl) (fun _ => rfl) (l := out) (k := 0) (c := out.length) (st := st0) (h := OH ⟨st0, some (out.map wN)⟩ wait [] junk 1 1 st3 0) (by simp [OH])
        simp only [List.nil_append, List.length_nil, Int.cast_ofNat_Int] at hl3 hld
        simp -implicitDefEqProofs [-ldV_ptr, graph_Order_L1, hs, hld, hl3, hfr]
        exact ⟨out, ⟨I.topo, fun g => ⟨I.topo.lt g, I.all wc hN hr g⟩⟩, rfl⟩
      · have hpos : 0 < R.length := List.length_pos_iff.2 h0
        have d0 : decide ((R.length : Int) > 0) = true := by simp; omega
        obtain ⟨x, R1, junk1, hp, hl1, hpop⟩ := run_oPop (n + 15) ⟨st0, some (out.map wN)⟩ wait R junk 1 1 st3 0 hpos (by omega)
        have hpop : runF (tD (n + 19)) k_heap_Pop { ks := [2, 3, 4] } [.iface y_P_graph_ids (.ptr 2 0 1)] (OH ⟨st0, some (out.map wN)⟩ wait R junk 1 1 st3 0) = some (.iface y_i64 (i64 x), OH ⟨st0, some (out.map wN)⟩ wait R1 junk1 1 1 st3 0) := hpop
        obtain ⟨f, rfl, I2⟩ := I.pop wc hN hp
        have happ := app_row (id := 0) (lim := 8796093022208) (k := 0) (i := out.length) (st := st0) (x := i64 f) (cs := out.map wN) (h := OH ⟨st0, some (out.map wN)⟩ wait R1 junk1 1 1 st3 0) rfl (by simp [OH]) (by simp) (by omega)
        have happ : appV (some 0) 8796093022208 0 (.sl 0 0 out.length out.length 0 st0) (.vec [i64 f]) (OH ⟨st0, some (out.map wN)⟩ wait R1 junk1 1 1 st3 0) = some (.sl 0 0 (out.length + 1) (out.length + 1) 0 (st0 + 1), OH ⟨st0 + 1, some ((out ++ [f]).map wN)⟩ wait R1 junk1 1 1 st3 0) := by rw [happ]; simp [OH, wN]
        simp only [List.length_append] at hl3 hld
        simp -implicitDefEqProofs [-ldV_ptr, graph_Order_L1, hs, hld, hl3, hpos, hpop, tasV, fillV, rep, newSl, okE, elems, happ, hcl]
        refine W_up p.fs.length (fun i s => ∃ (wait : List Nat) (R junk : List Int) (st3 : Nat), At s [(7, setsV (calleesP p)), (8, .sl 1 0 p.fs.length p.fs.length 0 1), (9, .ptr 2 0 1), (12, .sl 0 0 (out.length + 1) (out.length + 1) 0 (st0 + 1)), (13, i64 f), (62, setsV (calleesP p)), (63, i64 p.fs.length), (64, i64 i)] (OH ⟨st0 + 1, some (out.map wN ++ [wN f])⟩ wait R junk 1 1 st3 0) ∧
          (R ++ junk).length ≤ p.fs.length + out.length * p.fs.length + i ∧ OInv2 p out f i wait R) ?_ ?_ (Nat.zero_le _) ⟨wait, R1, junk1, st3, by simp, by omega, I2⟩
        · rintro i s hi ⟨wait, R, junk, st3, hs, hb, I2⟩
          have ha := i64_inc hi (by omega)
          obtain ⟨c, hc, _⟩ := getE (l := calleesP p) (i := i) (by omega)
          have hcd : (calleesP p)[i]?.getD 0#32 = c := by rw [hc]; rfl
          have hk := I2.wait i hi
          simp only [Nat.lt_irrefl, if_false] at hk
          obtain ⟨k, hkk⟩ : ∃ k, k = waitC ((calleesP p)[i]?.getD 0#32) out := ⟨_, rfl⟩
          rw [← hkk] at hk
          have hk32 : k ≤ 32 := by rw [hkk]; exact waitC_le _ _
          have hia := iaS_sl (sz := 0) (k := 1) (off := 0) (cap := p.fs.length) (st := 1) hi
          simp only [csz, if_pos, Nat.mul_one, Nat.zero_add] at hia
          have hhas : ∀ h, runF (tD (n + 19)) k_sets_Has {} [u32 c, i64 f] h = some (.bool (c.getLsbD f), h) := fun h => by have := run_Has (n + 18) c f h; rwa [hasS_nat] at this
          simp at hs
          cases hcb : c.getLsbD f
          · have I3 := I2.no hN hi (by rw [hcd]; exact hcb)
            simp -implicitDefEqProofs [-ldV_ptr, -stV_ptr, graph_Order_L2, hs, hi, ia_setsE hc, hhas, hcb, ha]
            exact ⟨wait, R, junk, ⟨st3, rfl⟩, by simp at hb ⊢; omega, I3⟩
          · have hyes := fun R' hR => I2.yes (R' := R') hN hi (by rw [hcd]; exact hcb) hk hR
            have hk1 : 1 ≤ k := (hyes (if k - 1 = 0 then (i : Int) :: R else R) (by split <;> simp)).1
            have hld := ld_row (f := wN) (fun _ => rfl) (l := wait) (i := i) (k := 1) (st := 1) (a := k) (h := OH ⟨st0 + 1, some (out.map wN ++ [wN f])⟩ wait R junk 1 1 st3 0) (by simp [OH]) hk
            have hld : ldV 0 (.ptr 1 i 1) (OH ⟨st0 + 1, some (out.map wN ++ [wN f])⟩ wait R junk 1 1 st3 0) = some (i64 k) := hld
            have hsub : intV .sub (i64 (k : Int)) (i64 1) = some (i64 ((k - 1 : Nat) : Int)) := by
              have e : (k : Int) - 1 = ((k - 1 : Nat) : Int) := by omega
              rw [i64_sub (by omega) (by omega), e]
            obtain ⟨q, hq⟩ : ∃ q, q = k - 1 := ⟨_, rfl⟩
            rw [← hq] at hsub hyes
            have hst := st_row (f := wN) (fun _ => rfl) (fun _ => rfl) (fun _ => rfl) (l := wait) (i := i) (k := 1) (st := 1) (a := q) (h := OH ⟨st0 + 1, some (out.map wN ++ [wN f])⟩ wait R junk 1 1 st3 0) (by simp [OH]) (by rw [I2.len]; exact hi)
            have hst : stV 0 (.ptr 1 i 1) (i64 q) (OH ⟨st0 + 1, some (out.map wN ++ [wN f])⟩ wait R junk 1 1 st3 0) = some (OH ⟨st0 + 1, some (out.map wN ++ [wN f])⟩ (wait.set i q) R junk 1 1 st3 0) := hst
            have hld2 := ld_row (f := wN) (fun _ => rfl) (l := wait.set i q) (i := i) (k := 1) (st := 1) (a := q) (h := OH ⟨st0 + 1, some (out.map wN ++ [wN f])⟩ (wait.set i q) R junk 1 1 st3 0) (by simp [OH]) (by have := I2.len; simp [this, hi])
            have hld2 : ldV 0 (.ptr 1 i 1) (OH ⟨st0 + 1, some (out.map wN ++ [wN f])⟩ (wait.set i q) R junk 1 1 st3 0) = some (i64 q) := hld2
            by_cases h0 : q = 0
            · obtain ⟨R', junk', st', hp', hl', hpush⟩ := run_oPush (n + 15) ⟨st0 + 1, some (out.map wN ++ [wN f])⟩ (wait.set i q) R junk 1 1 st3 0 i (by omega)
              have hpush : runF (tD (n + 19)) k_heap_Push { ks := [2, 3, 4] } [.iface y_P_graph_ids (.ptr 2 0 1), .iface y_i64 (i64 i)] (OH ⟨st0 + 1, some (out.map wN ++ [wN f])⟩ (wait.set i q) R junk 1 1 st3 0) = some (.tup [], OH ⟨st0 + 1, some (out.map wN ++ [wN f])⟩ (wait.set i q) R' junk' 1 1 st' 0) := hpush
              have I3 := (hyes R' (by rw [if_pos h0]; exact hp')).2
              simp -implicitDefEqProofs [-ldV_ptr, -stV_ptr, graph_Order_L2, hs, hi, ia_setsE hc, hhas, hcb, ha, hia, hld, hsub, hst, hld2, eq_true h0, hpush]
              exact ⟨wait.set i q, R', junk', ⟨st', rfl⟩, by simp at hb hl' ⊢; omega, I3⟩
            · have I3 := (hyes R (by rw [if_neg h0])).2
              simp -implicitDefEqProofs [-ldV_ptr, -stV_ptr, graph_Order_L2, hs, hi, ia_setsE hc, hhas, hcb, ha, hia, hld, hsub, hst, hld2, eq_false h0]
              exact ⟨wait.set i q, R, junk, ⟨st3, rfl⟩, by simp at hb ⊢; omega, I3⟩
        · rintro s ⟨wait, R, junk, st3, hs, hb, I2⟩
          simp at hs
          simp -implicitDefEqProofs [graph_Order_L2, hs]
          have hlt := nodup_lt p.fs.length (out ++ [f]) I2.topo.nodup I2.topo.lt
          simp at hlt
          refine ⟨m - 1, by omega, out ++ [f], by simp; omega, wait, R, junk, ⟨st0 + 1, by simp, st3, by simp⟩, ?_, I2.done⟩
          simp at hb ⊢
          rw [Nat.add_mul]
          omega
end Mini
end
section
namespace Mini
open Go
set_option linter.unusedSimpArgs false
set_option linter.unusedVariables false
theorem st_node1 (s0 : Slot) (st : Nat) (x : Node) : stV 4 (.ptr 1 0 st) x.v [s0, ⟨st, some [.int .i64 0, .int .i64 0, .int .i64 0, .int .i64 0]⟩] = some [s0, ⟨st, some [i64 x.kind, i64 x.arg, i64 x.next, i64 x.alt]⟩] := by simp
/-! ### kill: what functions may do, with all that they call -/
def Gat (p : Prg) (g : Node → BitVec 32) (f k : Nat) : Prop := ∃ h l x, Reach p f h ∧ p.fs[h]? = some l ∧ x ∈ l ∧ x.kind ≠ 7 ∧ (g x).getLsbD k = true
structure GatL (p : Prg) (g : Node → BitVec 32) (out : List (BitVec 32)) : Prop where
  len : out.length = p.fs.length
  bit : ∀ f < p.fs.length, ∀ k, (out[f]?.getD 0#32).getLsbD k = true ↔ Gat p g f k
theorem Gat.call {p : Prg} {g : Node → BitVec 32} {f k : Nat} {F : List Node} (hF : p.fs[f]? = some F) : Gat p g f k ↔ ∃ x ∈ F, (x.kind = 7 ∧ ∃ a : Nat, x.arg = (a : Int) ∧ Gat p g a k) ∨ (x.kind ≠ 7 ∧ (g x).getLsbD k = true) := by
  constructor
  · rintro ⟨h, l, x, hr, hl, hx, h7, hb⟩
    cases hr with
    | refl =>
      rw [hF] at hl
      injection hl with hl
      subst hl
      exact ⟨x, hx, .inr ⟨h7, hb⟩⟩
    | step c r =>
      obtain ⟨l', y, h1, h2, h3, h4⟩ := c
      rw [hF] at h1
      injection h1 with h1
      subst h1
      exact ⟨y, h2, .inl ⟨h3, _, h4, h, l, x, r, hl, hx, h7, hb⟩⟩
  · rintro ⟨x, hx, ⟨h7, a, ha, h, l, y, hr, hl, hy, h7', hb⟩ | ⟨h7, hb⟩⟩
    · exact ⟨h, l, y, .step ⟨F, x, hF, hx, h7, ha⟩ hr, hl, hy, h7', hb⟩
    · exact ⟨f, F, x, .refl f, hF, hx, h7, hb⟩
theorem kill_gather (n : Nat) (p : Prg) (hsm : SmallP p) (fv : V) (hfv : fv.noRef = true) (g : Node → BitVec 32) (hg : ∀ x h, runFV (tD (n + 20)) fv {} [x.v] h = some (u32 (g x), h)) :
    (errP p ≠ 0 → RetD (n + 21) k_kill_gather [p.v, fv] (.tup [setsV [], i64 (errP p)])) ∧
    (errP p = 0 → ∃ out, GatL p g out ∧ RetD (n + 21) k_kill_gather [p.v, fv] (.tup [setsV out, i64 0])) := by
  obtain ⟨ho1, ho2⟩ := graph_Order n p hsm
  constructor
  · intro he
    have hr := (ho1 he).run
    refine Ret.of (by simp [hfv]) rfl (kill_gather_eq ..) ?_
    have d0 := eq_false he
    simp -implicitDefEqProofs [kill_gather_B, hr, d0]
    rfl
  · intro he
    obtain ⟨ord, T, hall, hro⟩ := ho2 he
    have hro := hro.run
    obtain ⟨e1, e2, e3⟩ := errP_zero he
    have wc : WellCalls p := wellCalls_of fun l hl => (e2 l hl).2.2
    suffices h : W (kill_gather_B (n + 20) p.v fv [⟨0, none⟩, ⟨0, none⟩]) (fun _ => False) (fun o => ∃ out, GatL p g out ∧ ∃ h', o = .ret (.tup [setsV out, i64 0]) h') by
      obtain ⟨o, ho, hw⟩ := h
      cases o with
      | normal s => exact hw.elim
      | exit i s => obtain ⟨out, _, h, e⟩ := hw; simp at e
      | ret v h =>
        obtain ⟨out, hG, h', e⟩ := hw
        injection e with e1 e2
        subst e1 e2
        refine ⟨out, hG, by simp [hfv], rfl, h, ?_⟩
        rw [kill_gather_eq]
        have : ([] ++ pad 2 : Heap) = [⟨0, none⟩, ⟨0, none⟩] := rfl
        rw [this, ho]
        rfl
    have hmk := mkSl_row u32 0#32 (id := 0) (lim := 17592186044416) (n := p.fs.length) (h := [⟨0, none⟩, ⟨0, none⟩]) (by omega)
    simp at hmk
    have hol : ord.length ≤ 16 := by have := nodup_lt p.fs.length ord T.nodup T.lt; omega
    simp -implicitDefEqProofs [kill_gather_B, hro, hmk]
    refine W_up ord.length (fun i s => ∃ (out : List (BitVec 32)) (st1 : Nat), At s [(1, fv), (2, .fz p.v), (8, .sl 0 0 p.fs.length p.fs.length 0 1), (25, .vec (ord.map wN)), (26, i64 ord.length), (27, i64 i)] [⟨1, some (out.map u32)⟩, ⟨st1, none⟩] ∧
      out.length = p.fs.length ∧ ∀ f < p.fs.length, if f ∈ ord.take i then ∀ k, (out[f]?.getD 0#32).getLsbD k = true ↔ Gat p g f k else out[f]? = some 0#32) ?_ ?_ (Nat.zero_le _)
      ⟨List.replicate p.fs.length 0#32, 0, by simp, by simp, fun f hf => by simp [hf, List.getElem?_replicate]⟩
    · rintro i s hi ⟨out, st1, hs, hl, ho⟩
      have ha := i64_inc hi (by omega)
      obtain ⟨f, hf, hfm⟩ := getE hi
      have hfN := T.lt f hfm
      obtain ⟨F, hF, hFm⟩ := getE hfN
      obtain ⟨_, hF64, _⟩ := e2 F hFm
      have hia := ia_map (sz := 0) (f := wN) (fun _ => rfl) hi
      have hfe : ord[i] = f := by have := hf; rw [List.getElem?_eq_getElem hi] at this; injection this
      rw [hfe] at hia
      have hia : iaS 0 (.vec (ord.map wN)) (i64 i) = some (.fz (i64 f)) := hia
      have hfn : f ∉ ord.take i := by
        intro h
        have hnd := T.nodup
        obtain ⟨j, hj, e⟩ := List.mem_iff_getElem.1 h
        rw [List.getElem_take] at e
        rw [List.length_take] at hj
        exact (List.pairwise_iff_getElem.1 hnd) j i (by omega) hi (by omega) (by rw [e, hfe])
      simp at hs
      simp -implicitDefEqProofs [kill_gather_L0, hs, hi, hia, ia_funcsE hF]
      have hof : out[f]? = some 0#32 := by have := ho f hfN; rwa [if_neg hfn] at this
      refine W_up F.length (fun j s => ∃ (out' : List (BitVec 32)) (st1 : Nat), At s [(1, fv), (2, .fz p.v), (8, .sl 0 0 p.fs.length p.fs.length 0 1), (10, i64 f), (25, .vec (ord.map wN)), (26, i64 ord.length), (27, i64 i), (35, nodesV F), (36, i64 F.length), (37, i64 j)] [⟨1, some (out'.map u32)⟩, ⟨st1, none⟩] ∧
        out'.length = p.fs.length ∧ (∀ h, h ≠ f → out'[h]? = out[h]?) ∧ ∀ k, (out'[f]?.getD 0#32).getLsbD k = true ↔ ∃ m x, m < j ∧ F[m]? = some x ∧ ((x.kind = 7 ∧ ∃ a : Nat, x.arg = (a : Int) ∧ Gat p g a k) ∨ (x.kind ≠ 7 ∧ (g x).getLsbD k = true))) ?_ ?_ (Nat.zero_le _)
        ⟨out, st1, by simp, hl, fun _ _ => rfl, fun k => by simp [hof]⟩
      · rintro j s hj ⟨out', st1, hs, hl', hoth, hacc⟩
        have haj := i64_inc hj (by omega)
        obtain ⟨x, hx, hxm⟩ := getE hj
        obtain ⟨v, hv, _⟩ := getE (l := out') (i := f) (by omega)
        have hif := iaS_sl (sz := 0) (k := 0) (off := 0) (cap := p.fs.length) (st := 1) hfN
        simp only [csz, if_pos, Nat.mul_one, Nat.zero_add] at hif
        have hldf := ld_row (f := u32) (fun _ => rfl) (l := out') (i := f) (k := 0) (st := 1) (h := [⟨1, some (out'.map u32)⟩, ⟨st1 + 2, none⟩]) (by simp) hv
        have hstf := fun w => st_row (f := u32) (fun _ => rfl) (fun _ => rfl) (fun _ => rfl) (l := out') (i := f) (k := 0) (st := 1) (a := w) (h := [⟨1, some (out'.map u32)⟩, ⟨st1 + 2, none⟩]) (by simp) (by omega)
        simp only [hset] at hstf
        -- what the step adds
        have next : ∀ w, (∀ k, w.getLsbD k = true ↔ ((x.kind = 7 ∧ ∃ a : Nat, x.arg = (a : Int) ∧ Gat p g a k) ∨ (x.kind ≠ 7 ∧ (g x).getLsbD k = true))) →
            (out'.set f (v ||| w)).length = p.fs.length ∧ (∀ h, h ≠ f → (out'.set f (v ||| w))[h]? = out[h]?) ∧ ∀ k, ((out'.set f (v ||| w))[f]?.getD 0#32).getLsbD k = true ↔ ∃ m x, m < j + 1 ∧ F[m]? = some x ∧ ((x.kind = 7 ∧ ∃ a : Nat, x.arg = (a : Int) ∧ Gat p g a k) ∨ (x.kind ≠ 7 ∧ (g x).getLsbD k = true)) := by
          intro w hw
          refine ⟨by simpa using hl', fun h hh => ?_, fun k => ?_⟩
          · rw [List.getElem?_set, if_neg (fun e => hh e.symm)]
            exact hoth h hh
          · have h1 := hacc k
            rw [hv] at h1
            simp only [Option.getD_some] at h1
            have h2 : (out'.set f (v ||| w))[f]? = some (v ||| w) := by rw [List.getElem?_set]; simp [hl', hfN]
            rw [h2]
            simp only [Option.getD_some, BitVec.getLsbD_or, Bool.or_eq_true, h1, hw k]
            constructor
            · rintro (⟨m, y, h3, h4⟩ | h3)
              · exact ⟨m, y, by omega, h4⟩
              · exact ⟨j, x, by omega, hx, h3⟩
            · rintro ⟨m, y, h3, h4, h5⟩
              by_cases e : m = j
              · subst e
                rw [hx] at h4
                injection h4 with h4
                subst h4
                exact .inr h5
              · exact .inl ⟨m, y, by omega, h4, h5⟩
        simp at hs
        by_cases h7 : x.kind = 7
        · have d7 := eq_true h7
          obtain ⟨g1, g2⟩ := wc F hFm x hxm h7
          obtain ⟨a, hae, haN⟩ := natI g1 g2
          have hca : CallTo p f a := ⟨F, x, hF, hxm, h7, hae⟩
          have hat := T.order i f a hf hca
          have haf : a ≠ f := fun e => hfn (e ▸ hat)
          have hoa := ho a haN
          rw [if_pos hat] at hoa
          obtain ⟨w, hw, _⟩ := getE (l := out') (i := a) (by omega)
          have hw' := hw
          rw [hoth a haf] at hw'
          rw [hw'] at hoa
          simp only [Option.getD_some] at hoa
          have hiaa := iaS_sl (sz := 0) (k := 0) (off := 0) (cap := p.fs.length) (st := 1) haN
          simp only [csz, if_pos, Nat.mul_one, Nat.zero_add] at hiaa
          rw [← hae] at hiaa
          have hlda := ld_row (f := u32) (fun _ => rfl) (l := out') (i := a) (k := 0) (st := 1) (h := [⟨1, some (out'.map u32)⟩, ⟨st1 + 2, none⟩]) (by simp) hw
          obtain ⟨n1, n2, n3⟩ := next w (fun k => by
            rw [hoa k]
            constructor
            · intro h; exact .inl ⟨h7, a, hae, h⟩
            · rintro (⟨_, a', ha', h⟩ | ⟨h, _⟩)
              · have : a' = a := by omega
                subst this
                exact h
              · exact absurd h7 h)
          simp -implicitDefEqProofs [-stV_ptr, st_node1, kill_gather_L1, hs, hj, ia_nodesE hx, d7, hif, hiaa, hv, hw, hstf, haj]
          exact ⟨out'.set f (v ||| w), by simp, n1, n2, fun k => by rw [n3 k]; exact ⟨fun ⟨m, x, h1, h2⟩ => ⟨m, h1, x, h2⟩, fun ⟨m, h1, x, h2⟩ => ⟨m, x, h1, h2⟩⟩⟩
        · have d7 := eq_false h7
          obtain ⟨n1, n2, n3⟩ := next (g x) (fun k => by simp [h7])
          simp -implicitDefEqProofs [-stV_ptr, st_node1, kill_gather_L1, hs, hj, ia_nodesE hx, d7, hif, hv, hg, hstf, haj]
          exact ⟨out'.set f (v ||| g x), by simp, n1, n2, fun k => by rw [n3 k]; exact ⟨fun ⟨m, x, h1, h2⟩ => ⟨m, h1, x, h2⟩, fun ⟨m, h1, x, h2⟩ => ⟨m, x, h1, h2⟩⟩⟩
      · rintro s ⟨out', st1, hs, hl', hoth, hacc⟩
        simp at hs
        simp -implicitDefEqProofs [kill_gather_L1, hs, ha]
        refine ⟨out', rfl, hl', fun h hh => ?_⟩
        rw [List.take_add_one, hf]
        simp only [Option.toList_some, List.mem_append, List.mem_singleton]
        by_cases e : h = f
        · subst e
          rw [if_pos (.inr rfl)]
          intro k
          rw [hacc k, Gat.call hF]
          constructor
          · rintro ⟨m, x, hm, hx, hd⟩
            exact ⟨x, List.mem_of_getElem? hx, hd⟩
          · rintro ⟨x, hx, hd⟩
            obtain ⟨m, hm, rfl⟩ := List.mem_iff_getElem.1 hx
            exact ⟨m, F[m], hm, by simp [hm], hd⟩
        · have := ho h hh
          by_cases hm : h ∈ ord.take i
          · rw [if_pos (.inl hm)]
            rw [if_pos hm] at this
            rw [hoth h e]
            exact this
          · rw [if_neg (by simp [hm, e])]
            rw [if_neg hm] at this
            rw [hoth h e]
            exact this
    · rintro s ⟨out, st1, hs, hl, ho⟩
      have hfr := frz_rowG u32 (fun _ _ => rfl) (fun _ => rfl) (l := out) (k := 0) (c := p.fs.length) (st := 1) (h := [⟨1, some (out.map u32)⟩, ⟨st1, none⟩]) (by simp)
      rw [hl] at hfr
      simp at hs
      simp -implicitDefEqProofs [kill_gather_L0, hs, hfr]
      refine ⟨out, ⟨hl, fun f hf => ?_⟩, rfl⟩
      have := ho f hf
      rwa [List.take_length, if_pos ((hall f).2 hf)] at this
theorem kill_Unlocks (n : Nat) (p : Prg) (hsm : SmallP p) : (errP p ≠ 0 → RetD (n + 22) k_kill_Unlocks [p.v] (.tup [setsV [], i64 (errP p)])) ∧
    (errP p = 0 → ∃ out, GatL p unlockN out ∧ RetD (n + 22) k_kill_Unlocks [p.v] (.tup [setsV out, i64 0])) := by
  obtain ⟨h1, h2⟩ := kill_gather n p hsm (.fn (.func k_kill_unlocks) [] []) rfl unlockN (fun x h => (kill_unlocks (n + 18) x).runV h)
  constructor
  · intro he
    have hr := (h1 he).run
    exact ⟨rfl, rfl, [], by rw [kill_Unlocks_eq]; simp -implicitDefEqProofs [kill_Unlocks_B, hr]⟩
  · intro he
    obtain ⟨out, hG, hr⟩ := h2 he
    have hr := hr.run
    exact ⟨out, hG, rfl, rfl, [], by rw [kill_Unlocks_eq]; simp -implicitDefEqProofs [kill_Unlocks_B, hr]⟩
def GatM (p : Prg) (g : Node → BitVec 32) (m : BitVec 32) : Prop := ∀ f : Nat, m.getLsbD f = true ↔ f < p.fs.length ∧ ∃ k, Gat p g f k
theorem kill_Begins (n : Nat) (p : Prg) (hsm : SmallP p) : (errP p ≠ 0 → RetD (n + 22) k_kill_Begins [p.v] (.tup [u32 0#32, i64 (errP p)])) ∧
    (errP p = 0 → ∃ m, GatM p beginN m ∧ RetD (n + 22) k_kill_Begins [p.v] (.tup [u32 m, i64 0])) := by
  obtain ⟨h1, h2⟩ := kill_gather n p hsm (.fn (.func k_kill_begins) [] []) rfl beginN (fun x h => (kill_begins (n + 19) x).runV h)
  constructor
  · intro he
    have hr := (h1 he).run
    have d0 := eq_false he
    exact ⟨rfl, rfl, [], by rw [kill_Begins_eq]; simp -implicitDefEqProofs [kill_Begins_B, hr, d0]⟩
  · intro he
    obtain ⟨out, hG, hr⟩ := h2 he
    have hr := hr.run
    obtain ⟨e1, e2, e3⟩ := errP_zero he
    suffices h : W (kill_Begins_B (n + 21) p.v []) (fun _ => False) (fun o => ∃ m, GatM p beginN m ∧ ∃ h', o = .ret (.tup [u32 m, i64 0]) h') by
      obtain ⟨o, ho, hw⟩ := h
      cases o with
      | normal s => exact hw.elim
      | exit i s => obtain ⟨out, _, h, e⟩ := hw; simp at e
      | ret v h =>
        obtain ⟨m, hG, h', e⟩ := hw
        injection e with e1 e2
        subst e1 e2
        refine ⟨m, hG, rfl, rfl, h, ?_⟩
        rw [kill_Begins_eq]
        have : ([] ++ pad 0 : Heap) = [] := rfl
        rw [this, ho]
        rfl
    simp -implicitDefEqProofs [kill_Begins_B, hr]
    have hl := hG.len
    refine W_up out.length (fun i s => ∃ m : BitVec 32, At s [(6, u32 m), (17, setsV out), (18, i64 out.length), (19, i64 i)] [] ∧ ∀ f : Nat, m.getLsbD f = true ↔ f < i ∧ ∃ k, Gat p beginN f k) ?_ ?_ (Nat.zero_le _) ⟨0#32, by simp, by simp⟩
    · rintro i s hi ⟨m, hs, hm⟩
      have ha := i64_inc hi (by omega)
      obtain ⟨c, hc, _⟩ := getE hi
      have hcd : out[i]?.getD 0#32 = c := by rw [hc]; rfl
      have hbit := hG.bit i (by omega)
      rw [hcd] at hbit
      simp at hs
      have hz : c = 0#32 ↔ ¬ ∃ k, Gat p beginN i k := by
        constructor
        · rintro rfl ⟨k, hk⟩
          have := (hbit k).2 hk
          simp at this
        · intro h
          apply BitVec.eq_of_getLsbD_eq
          intro k _
          cases hb : c.getLsbD k
          · simp
          · exact absurd ⟨k, (hbit k).1 hb⟩ h
      have hgt : intV .gtr (u32 c) (.int .u32 0) = some (.bool (decide (c ≠ 0#32))) := by
        show some (V.bool (decide ((c.toNat : Int) > 0))) = _
        congr 2
        rw [decide_eq_decide]
        have : c ≠ 0#32 ↔ c.toNat ≠ 0 := by
          constructor
          · intro h h2; exact h (BitVec.eq_of_toNat_eq h2)
          · rintro h rfl; exact h rfl
        rw [this]
        omega
      have hgt : intV .gtr (u32 c) (u32 0#32) = some (.bool (decide (c ≠ 0#32))) := hgt
      have h32 : i < 32 := by omega
      by_cases h0 : c = 0#32
      · have d0 := eq_true h0
        simp -implicitDefEqProofs [kill_Begins_L0, hs, hi, ia_setsE hc, hgt, d0, ha]
        refine ⟨m, rfl, fun f => ?_⟩
        rw [hm f]
        constructor
        · rintro ⟨h, k⟩; exact ⟨by omega, k⟩
        · rintro ⟨h, k⟩
          refine ⟨?_, k⟩
          by_cases e : f = i
          · subst e; exact absurd k (hz.1 h0)
          · omega
      · have d0 := eq_false h0
        simp -implicitDefEqProofs [kill_Begins_L0, hs, hi, ia_setsE hc, hgt, d0, ha, run_One]
        refine ⟨m ||| one i, rfl, fun f => ?_⟩
        rw [BitVec.getLsbD_or, Bool.or_eq_true, hm f, one_bit]
        simp only [Bool.and_eq_true, decide_eq_true_eq]
        constructor
        · rintro (⟨h, k⟩ | ⟨rfl, _⟩)
          · exact ⟨by omega, k⟩
          · exact ⟨by omega, Classical.byContradiction fun h => h0 (hz.2 h)⟩
        · rintro ⟨h, k⟩
          by_cases e : f = i
          · exact .inr ⟨e, by omega⟩
          · exact .inl ⟨by omega, k⟩
    · rintro s ⟨m, hs, hm⟩
      simp at hs
      simp -implicitDefEqProofs [kill_Begins_L0, hs]
      exact ⟨m, fun f => by rw [hm f, hl], rfl⟩
end Mini
end
section
namespace Mini
open Go
set_option linter.unusedSimpArgs false
set_option linter.unusedVariables false
/-! ### the three checks -/
def fltV (f : Int × Int × Int) : V := .agg [i64 f.1, i64 f.2.1, i64 f.2.2]
@[simp] theorem noRef_fltV (f : Int × Int × Int) : (fltV f).noRef = true := rfl
@[simp] theorem fits_fltV (f : Int × Int × Int) : fitsV 3 (fltV f) = true := rfl
@[simp] theorem cells_fltV (f : Int × Int × Int) : (fltV f).cells = [i64 f.1, i64 f.2.1, i64 f.2.2] := rfl
@[simp] theorem flt_fold (a b c : Int) : V.agg [.int .i64 a, .int .i64 b, .int .i64 c] = fltV (a, b, c) := rfl
theorem may_arg {p : Prg} {x : Node} {k : Int} (h : mayN p x k = true) (h7 : x.kind = 7 ∨ x.kind = 5) : 0 ≤ x.arg ∧ x.arg < p.fs.length := by
  rcases h7 with h7 | h7 <;> simp [mayN, fieldsN, h7, within] at h <;> omega
theorem may_succ {p : Prg} {x : Node} {k : Nat} (h : mayN p x k = true) (hk : 0 < k) : ∀ t ∈ succN x, 0 ≤ t ∧ t < k := by
  have hk1 : max (k : Int) 1 = k := by omega
  intro t ht
  unfold succN at ht
  simp only [mayN, Bool.and_eq_true, within, decide_eq_true_eq] at h
  obtain ⟨⟨⟨h0, h1⟩, h2⟩, h3⟩ := h
  split at ht
  · simp at ht
  · rename_i h9
    split at ht
    · rename_i h8
      simp [fieldsN, h8] at h2 h3
      simp at ht
      rcases ht with rfl | rfl <;> omega
    · rename_i h8
      simp at ht
      subst ht
      have : (fieldsN p x.kind k).2.1 = k := by
        revert h0
        unfold fieldsN
        repeat' split
        all_goals first | (intro; rfl) | (intro h; simp at h; done) | skip
        all_goals (exfalso; omega)
      rw [this] at h2
      omega
def MOk (p : Prg) (l : List Sect) (un : List (BitVec 32)) : Prop := shaped p l = true ∧ un.length = p.fs.length ∧ ∀ F ∈ p.fs, 0 < F.length ∧ F.length ≤ 64 ∧ ∀ x ∈ F, mayN p x F.length = true
theorem shaped_at {p : Prg} {l : List Sect} (h : shaped p l = true) : l.length = p.fs.length ∧ ∀ (f : Nat) s F, l[f]? = some s → p.fs[f]? = some F → s.held.length = F.length ∧ s.live.length = F.length := by
  simp only [shaped, Bool.and_eq_true, decide_eq_true_eq, List.all_eq_true, List.mem_range, shapedAt] at h
  refine ⟨h.1, fun f s F hs hF => ?_⟩
  have := h.2 f (List.getElem?_eq_some_iff.1 hs).1
  simpa [hs, hF] using this
theorem nodeOk_of {p : Prg} {l : List Sect} {un : List (BitVec 32)} (h : MOk p l un) (first : BitVec 32) {f i : Nat} {F : List Node} (hF : p.fs[f]? = some F) (hi : i < F.length) : NodeOk ⟨p, l, un, first⟩ f i := by
  obtain ⟨h1, h2, h3⟩ := h
  obtain ⟨hl, hs⟩ := shaped_at h1
  obtain ⟨hf, rfl⟩ := List.getElem?_eq_some_iff.1 hF
  have hF' := h3 _ (List.getElem_mem hf)
  have hsf := hs f (l[f]'(by omega)) _ (by simp [hl, hf]) hF
  have hm := hF'.2.2 _ (List.getElem_mem hi)
  refine ⟨by show f < l.length; omega, hf, hi, by show i < (l[f]'_).held.length; omega, fun h7 => ?_, fun t ht => ?_⟩
  · have := may_arg hm (.inl h7)
    show 0 ≤ p.fs[f][i].arg ∧ p.fs[f][i].arg < un.length ∧ p.fs[f][i].arg < l.length
    omega
  · have := may_succ hm hF'.1 t ht
    show 0 ≤ t ∧ t < (l[f]'_).held.length
    omega
def mustAt (c : MChk) (f : Nat) : Option (Int × Int × Int) := if (funH c f).2 = 0 then none else some ((f : Int), (funH c f).1, (funH c f).2)
def mustF (p : Prg) (l : List Sect) (un : List (BitVec 32)) : Int × Int × Int :=
  if shaped p l = false then (-1, -1, 1) else (firstN (mustAt ⟨p, l, un, begunP p ||| one 0⟩) l.length 0).getD (0, 0, 0)
theorem run_Shaped (n : Nat) (p : Prg) (l : List Sect) (hs : l.length < 4611686018427387904) (h : Heap) : runF (tD (n + 1)) k_must_Shaped {} [p.v, sectsV l] h = some (.bool (shaped p l), h) := (must_Shaped n p l hs).run h
theorem mchk_fold (p : Prg) (l : List Sect) (un : List (BitVec 32)) (m : BitVec 32) : V.agg [.int .i64 p.g, .int .i64 p.l, .int .i64 p.s, funcsV p.fs, sectsV l, setsV un, u32 m] = MChk.v ⟨p, l, un, m⟩ := rfl
theorem must_Check (n : Nat) (p : Prg) (l : List Sect) (hsm : SmallP p) (hls : l.length < 4611686018427387904) : (errP p ≠ 0 → RetD (n + 23) k_must_Check [p.v, sectsV l] (.tup [fltV (0, 0, 0), i64 (errP p)])) ∧
    (errP p = 0 → ∃ un, GatL p unlockN un ∧ RetD (n + 23) k_must_Check [p.v, sectsV l] (.tup [fltV (mustF p l un), i64 0])) := by
  obtain ⟨hu1, hu2⟩ := kill_Unlocks n p hsm
  constructor
  · intro he
    have hr := (hu1 he).run
    have d0 := eq_false he
    refine Ret.of rfl rfl (must_Check_eq ..) ?_
    simp -implicitDefEqProofs [must_Check_B, hr, d0, buildV]
  · intro he
    obtain ⟨un, hG, hr⟩ := hu2 he
    have hr := hr.run
    refine ⟨un, hG, Ret.of rfl rfl (must_Check_eq ..) ?_⟩
    obtain ⟨e1, e2, e3⟩ := errP_zero he
    cases hsh : shaped p l
    · have : mustF p l un = (-1, -1, 1) := by simp [mustF, hsh]
      rw [this]
      simp -implicitDefEqProofs [must_Check_B, hr, buildV, run_Shaped _ p l hls, hsh]
    · obtain ⟨hl, hsa⟩ := shaped_at hsh
      have hO : MOk p l un := ⟨hsh, hG.len, e2⟩
      have hbg : ∀ h, runF (tD (n + 22)) k_graph_Begun {} [p.v] h = some (u32 (begunP p), h) := fun h => (graph_Begun (n + 19) p hsm).run h
      have hmf : mustF p l un = (firstN (mustAt ⟨p, l, un, begunP p ||| one 0⟩) l.length 0).getD (0, 0, 0) := by simp [mustF, hsh]
      simp -implicitDefEqProofs [must_Check_B, hr, buildV, run_Shaped _ p l hls, hsh, hbg, run_One, okF, disjL, fpP, mchk_fold]
      refine W_up l.length (fun f s => (∃ st1, At s [(4, .ptr 0 0 1), (8, .fz (MChk.v ⟨p, l, un, begunP p ||| one 0⟩)), (35, i64 l.length), (36, i64 f)] [⟨1, some [i64 0, i64 0, i64 0]⟩, ⟨st1, none⟩]) ∧ ∀ j < f, mustAt ⟨p, l, un, begunP p ||| one 0⟩ j = none) ?_ ?_ (Nat.zero_le _) ⟨⟨2, by simp⟩, by omega⟩
      · rintro f s hf ⟨⟨st1, hs⟩, hno⟩
        have ha := i64_inc hf hls
        obtain ⟨sc, hsc, _⟩ := getE hf
        obtain ⟨F, hF, hFm⟩ := getE (l := p.fs) (i := f) (by omega)
        obtain ⟨hh1, hh2⟩ := hsa f sc F hsc hF
        obtain ⟨k1, k2, k3⟩ := e2 F hFm
        have hfun : ∀ h, runF (tD (n + 22)) k_must_checker_function {} [MChk.v ⟨p, l, un, begunP p ||| one 0⟩, i64 f] h = some (.tup [i64 (funH ⟨p, l, un, begunP p ||| one 0⟩ f).1, i64 (funH ⟨p, l, un, begunP p ||| one 0⟩ f).2], h) := by
          have hfe : l[f] = sc := by rw [List.getElem?_eq_getElem hf] at hsc; injection hsc
          have hFe : p.fs[f]'(by omega) = F := by rw [List.getElem?_eq_getElem (by omega)] at hF; injection hF
          exact fun h => (must_function (n + 18) ⟨p, l, un, begunP p ||| one 0⟩ f hf (by show f < p.fs.length; omega) (by show 0 < (l[f]).held.length; rw [hfe]; omega) (by show (p.fs[f]'_).length < _; rw [hFe]; omega) (fun i hi => by
            have hi : i < (p.fs[f]'(by omega)).length := hi
            rw [hFe] at hi
            exact nodeOk_of hO _ hF hi)).run h
        simp at hs
        by_cases h0 : (funH ⟨p, l, un, begunP p ||| one 0⟩ f).2 = 0
        · have d0 := eq_true h0
          simp -implicitDefEqProofs [must_Check_L0, hs, hf, hfun, d0, ha]
          exact forall_lt_succ hno (by simp [mustAt, h0])
        · have d0 := eq_false h0
          have : mustF p l un = ((f : Int), (funH ⟨p, l, un, begunP p ||| one 0⟩ f).1, (funH ⟨p, l, un, begunP p ||| one 0⟩ f).2) := by
            rw [hmf, firstN_hit hf hno (a := ((f : Int), (funH ⟨p, l, un, begunP p ||| one 0⟩ f).1, (funH ⟨p, l, un, begunP p ||| one 0⟩ f).2)) (by simp [mustAt, h0])]
            rfl
          rw [this]
          simp -implicitDefEqProofs [must_Check_L0, hs, hf, hfun, d0, ha, buildV]
      · rintro s ⟨⟨st1, hs⟩, hno⟩
        have : mustF p l un = (0, 0, 0) := by rw [hmf, firstN_miss hno]; rfl
        rw [this]
        simp at hs
        simp -implicitDefEqProofs [must_Check_L0, hs, buildV]
end Mini
end
section
namespace Mini
open Go
set_option linter.unusedSimpArgs false
set_option linter.unusedVariables false
theorem nodeOkL_of {p : Prg} {l : List Sect} (hsh : shaped p l = true) (h3 : ∀ F ∈ p.fs, 0 < F.length ∧ F.length ≤ 64 ∧ ∀ x ∈ F, mayN p x F.length = true) (m : BitVec 32) {f i : Nat} {F : List Node} {s : Sect} (hF : p.fs[f]? = some F) (hs : l[f]? = some s) (hi : i < F.length) :
    ∃ x live, NodeOkL ⟨p, l, m⟩ f i F x s live := by
  obtain ⟨hl, ha⟩ := shaped_at hsh
  obtain ⟨h1, h2⟩ := ha f s F hs hF
  obtain ⟨k1, k2, k3⟩ := h3 F (List.mem_of_getElem? hF)
  obtain ⟨x, hx, hxm⟩ := getE hi
  obtain ⟨live, hlive, _⟩ := getE (l := s.live) (i := i) (by omega)
  have hm := k3 x hxm
  refine ⟨x, live, hF, hx, hs, hlive, fun h7 => ?_, fun t ht => ?_⟩
  · obtain ⟨a1, a2⟩ := may_arg hm h7
    obtain ⟨k, hk, hkl⟩ := natI a1 a2
    obtain ⟨g, hg, _⟩ := getE (l := l) (i := k) (by omega)
    exact ⟨k, g, hk, hg⟩
  · have := may_succ hm k1 t ht
    omega
def liveN (c : LChk) (f i : Nat) : Option (Int × Int × Int) := if nodeL c f i = 0 then none else some ((f : Int), (i : Int), nodeL c f i)
def liveAt (c : LChk) (f : Nat) : Option (Int × Int × Int) :=
  let s := c.l[f]?.getD default
  if inS s.lentry (s.live[0]?.getD 0#32) = false then some ((f : Int), -1, 6) else firstN (liveN c f) (c.p.fs[f]?.getD []).length 0
def liveF (p : Prg) (l : List Sect) (m : BitVec 32) : Int × Int × Int :=
  if shaped p l = false then (-1, -1, 1) else (firstN (liveAt ⟨p, l, m⟩) l.length 0).getD (0, 0, 0)
theorem lchk_fold (p : Prg) (l : List Sect) (m : BitVec 32) : V.agg [.int .i64 p.g, .int .i64 p.l, .int .i64 p.s, funcsV p.fs, sectsV l, u32 m] = LChk.v ⟨p, l, m⟩ := rfl
theorem may_Check (n : Nat) (p : Prg) (l : List Sect) (hsm : SmallP p) (hls : l.length < 4611686018427387904) : (errP p ≠ 0 → RetD (n + 23) k_may_Check [p.v, sectsV l] (.tup [fltV (0, 0, 0), i64 (errP p)])) ∧
    (errP p = 0 → ∃ m, GatM p beginN m ∧ RetD (n + 23) k_may_Check [p.v, sectsV l] (.tup [fltV (liveF p l m), i64 0])) := by
  obtain ⟨hu1, hu2⟩ := kill_Begins n p hsm
  constructor
  · intro he
    have hr := (hu1 he).run
    have d0 := eq_false he
    refine Ret.of rfl rfl (may_Check_eq ..) ?_
    simp -implicitDefEqProofs [may_Check_B, hr, d0, buildV]
  · intro he
    obtain ⟨m, hG, hr⟩ := hu2 he
    have hr := hr.run
    refine ⟨m, hG, Ret.of rfl rfl (may_Check_eq ..) ?_⟩
    obtain ⟨e1, e2, e3⟩ := errP_zero he
    cases hsh : shaped p l
    · have : liveF p l m = (-1, -1, 1) := by simp [liveF, hsh]
      rw [this]
      simp -implicitDefEqProofs [may_Check_B, hr, buildV, run_Shaped _ p l hls, hsh]
    · obtain ⟨hl, hsa⟩ := shaped_at hsh
      have hmf : liveF p l m = (firstN (liveAt ⟨p, l, m⟩) l.length 0).getD (0, 0, 0) := by simp [liveF, hsh]
      simp -implicitDefEqProofs [may_Check_B, hr, buildV, run_Shaped _ p l hls, hsh, okF, disjL, fpP, lchk_fold]
      refine W_up l.length (fun f s => (∃ st1 st2, At s [(2, .fz p.v), (4, .ptr 0 0 1), (8, .fz (LChk.v ⟨p, l, m⟩)), (31, sectsV l), (32, i64 l.length), (33, i64 f)] [⟨1, some [i64 0, i64 0, i64 0]⟩, ⟨st1, none⟩, ⟨st2, none⟩]) ∧ ∀ j < f, liveAt ⟨p, l, m⟩ j = none) ?_ ?_ (Nat.zero_le _) ⟨⟨2, 0, by simp⟩, by omega⟩
      · rintro f s hf ⟨⟨st1, st2, hs⟩, hno⟩
        have ha := i64_inc hf hls
        obtain ⟨sc, hsc, _⟩ := getE hf
        obtain ⟨F, hF, hFm⟩ := getE (l := p.fs) (i := f) (by omega)
        obtain ⟨hh1, hh2⟩ := hsa f sc F hsc hF
        obtain ⟨k1, k2, k3⟩ := e2 F hFm
        obtain ⟨l0, hl0, _⟩ := getE (l := sc.live) (i := 0) (by omega)
        have hia0 : iaS 0 (setsV sc.live) (.int .i64 0) = some (.fz (u32 l0)) := ia_setsE hl0
        have hat : liveAt ⟨p, l, m⟩ f = if inS sc.lentry l0 = false then some ((f : Int), -1, 6) else firstN (liveN ⟨p, l, m⟩ f) F.length 0 := by simp [liveAt, hsc, hF, hl0]
        have hit : ∀ r, liveAt ⟨p, l, m⟩ f = some r → liveF p l m = r := fun r hr => by rw [hmf, firstN_hit hf hno hr]; rfl
        simp at hs
        cases hin : inS sc.lentry l0
        · rw [hit ((f : Int), -1, 6) (by rw [hat, hin]; rfl)]
          simp -implicitDefEqProofs [may_Check_L0, hs, hf, ia_sectsE hsc, sect_fold, hia0, run_Within, hin, buildV]
        · rw [hin, if_neg (by simp)] at hat
          simp -implicitDefEqProofs [may_Check_L0, hs, hf, ia_sectsE hsc, sect_fold, hia0, run_Within, hin, ia_funcsE hF]
          refine W_up F.length (fun i s => (∃ st1 st2, At s [(2, .fz p.v), (4, .ptr 0 0 1), (8, .fz (LChk.v ⟨p, l, m⟩)), (9, i64 f), (31, sectsV l), (32, i64 l.length), (33, i64 f), (53, i64 F.length), (54, i64 i)] [⟨1, some [i64 0, i64 0, i64 0]⟩, ⟨st1, none⟩, ⟨st2, none⟩]) ∧ ∀ j < i, liveN ⟨p, l, m⟩ f j = none) ?_ ?_ (Nat.zero_le _) ⟨⟨st1, st2 + 2, by simp⟩, by omega⟩
          · rintro i s hi ⟨⟨st1, st2, hs⟩, hni⟩
            have hai := i64_inc hi (by omega)
            obtain ⟨x, live, ok⟩ := nodeOkL_of hsh e2 m hF hsc hi
            have hrun : ∀ h, runF (tD (n + 22)) k_may_checker_node {} [LChk.v ⟨p, l, m⟩, i64 f, i64 i] h = some (i64 (nodeL ⟨p, l, m⟩ f i), h) := fun h => (may_checker_node (n + 19) ⟨p, l, m⟩ f i ok).run h
            simp at hs
            by_cases h0 : nodeL ⟨p, l, m⟩ f i = 0
            · have d0 := eq_true h0
              simp -implicitDefEqProofs [may_Check_L1, hs, hi, hrun, d0, hai]
              exact forall_lt_succ hni (by simp [liveN, h0])
            · have d0 := eq_false h0
              rw [hit ((f : Int), (i : Int), nodeL ⟨p, l, m⟩ f i) (by rw [hat, firstN_hit hi hni (a := ((f : Int), (i : Int), nodeL ⟨p, l, m⟩ f i)) (by simp [liveN, h0])])]
              simp -implicitDefEqProofs [may_Check_L1, hs, hi, hrun, d0, hai, buildV]
          · rintro s ⟨⟨st1, st2, hs⟩, hni⟩
            rw [firstN_miss hni] at hat
            simp at hs
            simp -implicitDefEqProofs [may_Check_L1, hs, ha]
            exact forall_lt_succ hno hat
      · rintro s ⟨⟨st1, st2, hs⟩, hno⟩
        have : liveF p l m = (0, 0, 0) := by rw [hmf, firstN_miss hno]; rfl
        rw [this]
        simp at hs
        simp -implicitDefEqProofs [may_Check_L0, hs, buildV]
/-! ### guard -/
theorem run_Access (n : Nat) (x : Node) (h : Heap) : runF (tD (n + 1)) k_prog_Access {} [x.v] h = some (.tup [i64 x.arg, .bool (decide (x.kind = 2)), .bool (decide (x.kind = 1 ∨ x.kind = 2))], h) := (prog_Access n x).run h
theorem run_Solo (n : Nat) (s : Sect) (i : Int) (h : Heap) : runF (tD (n + 1)) k_may_Solo {} [s.v, i64 i] h = some (.bool (soloS s i), h) := (may_Solo n s i).run h
theorem run_Holds (n : Nat) (j : Just) (write : Bool) (held live : BitVec 32) (h : Heap) : runF (tD (n + 2)) k_guard_Holds {} [j.v, .bool write, u32 held, u32 live] h = some (.bool (holdsJ j write held live), h) := (guard_Holds n j write held live).run h
theorem run_Right (n : Nat) (j : Just) (locks : Int) (h : Heap) : runF (tD (n + 1)) k_guard_Right {} [j.v, i64 locks] h = some (.bool (rightJ j locks), h) := (guard_Right n j locks).run h
def rightN (js : List Just) (locks : Int) (g : Nat) : Option (Int × Int × Int) := if rightJ (js[g]?.getD default) locks = true then none else some (-1, (g : Int), 8)
def okG (l : List Sect) (js : List Just) (f i : Nat) (x : Node) : Bool :=
  let s := l[f]?.getD default
  !(decide (x.kind = 1 ∨ x.kind = 2)) || soloS s i || holdsJ (js[x.arg.toNat]?.getD default) (decide (x.kind = 2)) (s.held[i]?.getD 0#32) (s.live[i]?.getD 0#32)
def guardN (p : Prg) (l : List Sect) (js : List Just) (f i : Nat) : Option (Int × Int × Int) := if okG l js f i ((p.fs[f]?.getD [])[i]?.getD default) = true then none else some ((f : Int), (i : Int), 8)
def guardF (p : Prg) (l : List Sect) (js : List Just) : Int × Int × Int :=
  if shaped p l = false ∨ (js.length : Int) ≠ p.g then (-1, -1, 1)
  else match firstN (rightN js p.l) js.length 0 with
  | some r => r
  | none => (firstN (fun f => firstN (guardN p l js f) (p.fs[f]?.getD []).length 0) p.fs.length 0).getD (0, 0, 0)
theorem may_glob {p : Prg} {x : Node} {k : Int} (h : mayN p x k = true) (h7 : x.kind = 1 ∨ x.kind = 2) : 0 ≤ x.arg ∧ x.arg < p.g := by
  rcases h7 with h7 | h7 <;> simp [mayN, fieldsN, h7, within] at h <;> omega
theorem just_fold (j : Just) : V.agg [.int .i64 j.kind, .int .i64 j.lock] = j.v := rfl
theorem guard_Check (n : Nat) (p : Prg) (l : List Sect) (js : List Just) (hsm : SmallP p) (hls : l.length < 4611686018427387904) : (errP p ≠ 0 → RetD (n + 23) k_guard_Check [p.v, sectsV l, justsV js] (.tup [fltV (0, 0, 0), i64 (errP p)])) ∧
    (errP p = 0 → RetD (n + 23) k_guard_Check [p.v, sectsV l, justsV js] (.tup [fltV (guardF p l js), i64 0])) := by
  obtain ⟨a, b, hchk⟩ := prog_Check (n + 3) p hsm
  have hchk := hchk.run
  constructor
  · intro he
    have d0 := eq_false he
    refine Ret.of rfl rfl (guard_Check_eq ..) ?_
    simp -implicitDefEqProofs [guard_Check_B, hchk, d0, buildV]
  · intro he
    refine Ret.of rfl rfl (guard_Check_eq ..) ?_
    obtain ⟨e1, e2, e3⟩ := errP_zero he
    cases hsh : shaped p l
    · have : guardF p l js = (-1, -1, 1) := by simp [guardF, hsh]
      rw [this]
      simp -implicitDefEqProofs [guard_Check_B, hchk, he, buildV, run_Shaped _ p l hls, hsh]
    by_cases hjl : (js.length : Int) = p.g
    case neg =>
      have : guardF p l js = (-1, -1, 1) := by simp [guardF, hjl]
      rw [this]
      have d0 := eq_false hjl
      simp -implicitDefEqProofs [guard_Check_B, hchk, he, buildV, run_Shaped _ p l hls, hsh, d0]
    have d0 := eq_true hjl
    obtain ⟨hl, hsa⟩ := shaped_at hsh
    have hgf : guardF p l js = match firstN (rightN js p.l) js.length 0 with
      | some r => r
      | none => (firstN (fun f => firstN (guardN p l js f) (p.fs[f]?.getD []).length 0) p.fs.length 0).getD (0, 0, 0) := by simp [guardF, hsh, hjl]
    simp -implicitDefEqProofs [guard_Check_B, hchk, he, buildV, run_Shaped _ p l hls, hsh, d0]
    refine W_up js.length (fun g s => (∃ st1, At s [(1, sectsV l), (2, justsV js), (3, .fz p.v), (6, .ptr 0 0 1), (42, justsV js), (43, i64 js.length), (44, i64 g)] [⟨1, some [i64 0, i64 0, i64 0]⟩, ⟨st1, none⟩, ⟨0, none⟩]) ∧ ∀ j < g, rightN js p.l j = none) ?_ ?_ (Nat.zero_le _) ⟨⟨0, by simp⟩, by omega⟩
    · rintro g s hg ⟨⟨st1, hs⟩, hno⟩
      have ha := i64_inc hg (by omega)
      obtain ⟨j, hj, _⟩ := getE hg
      simp at hs
      cases hr : rightJ j p.l
      · have : guardF p l js = (-1, (g : Int), 8) := by rw [hgf, firstN_hit hg hno (a := (-1, (g : Int), 8)) (by simp [rightN, hj, hr])]
        rw [this]
        simp -implicitDefEqProofs [guard_Check_L0, hs, hg, ia_justsE hj, just_fold, run_Right, hr, buildV]
      · simp -implicitDefEqProofs [guard_Check_L0, hs, hg, ia_justsE hj, just_fold, run_Right, hr, ha]
        exact forall_lt_succ hno (by simp [rightN, hj, hr])
    · rintro s ⟨⟨st1, hs⟩, hno⟩
      rw [firstN_miss hno] at hgf
      simp only at hgf
      simp at hs
      simp -implicitDefEqProofs [guard_Check_L0, hs]
      clear hs
      refine W_up p.fs.length (fun f s => (∃ st1 st2, At s [(1, sectsV l), (2, justsV js), (6, .ptr 0 0 1), (58, funcsV p.fs), (59, i64 p.fs.length), (60, i64 f)] [⟨1, some [i64 0, i64 0, i64 0]⟩, ⟨st1, none⟩, ⟨st2, none⟩]) ∧ ∀ j < f, firstN (guardN p l js j) (p.fs[j]?.getD []).length 0 = none) ?_ ?_ (Nat.zero_le _) ⟨⟨st1, 0, by simp⟩, by omega⟩
      · rintro f s hf ⟨⟨st1, st2, hs⟩, hno⟩
        have ha := i64_inc hf (by omega)
        obtain ⟨F, hF, hFm⟩ := getE hf
        obtain ⟨sc, hsc, _⟩ := getE (l := l) (i := f) (by omega)
        obtain ⟨hh1, hh2⟩ := hsa f sc F hsc hF
        obtain ⟨k1, k2, k3⟩ := e2 F hFm
        simp at hs
        simp -implicitDefEqProofs [guard_Check_L1, hs, hf, ia_funcsE hF]
        refine W_up F.length (fun i s => (∃ st1 st2, At s [(1, sectsV l), (2, justsV js), (6, .ptr 0 0 1), (13, i64 f), (58, funcsV p.fs), (59, i64 p.fs.length), (60, i64 f), (65, nodesV F), (66, i64 F.length), (67, i64 i)] [⟨1, some [i64 0, i64 0, i64 0]⟩, ⟨st1, none⟩, ⟨st2, none⟩]) ∧ ∀ j < i, guardN p l js f j = none) ?_ ?_ (Nat.zero_le _) ⟨⟨st1, st2, by simp⟩, by omega⟩
        · rintro i s hi ⟨⟨st1, st2, hs⟩, hni⟩
          have hai := i64_inc hi (by omega)
          obtain ⟨x, hx, hxm⟩ := getE hi
          obtain ⟨held, hheld, _⟩ := getE (l := sc.held) (i := i) (by omega)
          obtain ⟨live, hlive, _⟩ := getE (l := sc.live) (i := i) (by omega)
          have hok : okG l js f i x = (!(decide (x.kind = 1 ∨ x.kind = 2)) || soloS sc i || holdsJ (js[x.arg.toNat]?.getD default) (decide (x.kind = 2)) held live) := by simp [okG, hsc, hheld, hlive]
          have hgn : guardN p l js f i = if okG l js f i x = true then none else some ((f : Int), (i : Int), 8) := by simp [guardN, hF, hx]
          have hit : guardN p l js f i = some ((f : Int), (i : Int), 8) → guardF p l js = ((f : Int), (i : Int), 8) := by
            intro h
            rw [hgf, firstN_hit hf hno (a := ((f : Int), (i : Int), 8)) (by rw [hF, Option.getD_some]; exact firstN_hit hi hni h)]
            rfl
          simp at hs
          by_cases hk : x.kind = 1 ∨ x.kind = 2
          · have dk : decide (x.kind = 1 ∨ x.kind = 2) = true := by simpa using hk
            obtain ⟨g1, g2⟩ := may_glob (k3 x hxm) hk
            obtain ⟨a, hae, hal⟩ := natI (N := js.length) g1 (by omega)
            obtain ⟨j, hj, _⟩ := getE hal
            have hiaj : iaS 2 (justsV js) (.int .i64 x.arg) = some (.fz j.v) := by rw [hae]; exact ia_justsE hj
            have hjd : js[x.arg.toNat]?.getD default = j := by simp [hae, hj]
            rw [hjd, dk] at hok
            cases hso : soloS sc i
            · cases hho : holdsJ j (decide (x.kind = 2)) held live
              · rw [hit (by rw [hgn, hok, hso, hho]; rfl)]
                simp -implicitDefEqProofs [guard_Check_L2, hs, hi, ia_nodesE hx, run_Access, dk, ia_sectsE hsc, run_Solo, hso, hiaj, ia_setsE hheld, ia_setsE hlive, run_Holds, hho, buildV]
              · simp -implicitDefEqProofs [guard_Check_L2, hs, hi, ia_nodesE hx, run_Access, dk, ia_sectsE hsc, run_Solo, hso, hiaj, ia_setsE hheld, ia_setsE hlive, run_Holds, hho, hai]
                exact forall_lt_succ hni (by rw [hgn, hok, hso, hho]; rfl)
            · simp -implicitDefEqProofs [guard_Check_L2, hs, hi, ia_nodesE hx, run_Access, dk, ia_sectsE hsc, run_Solo, hso, hai]
              exact forall_lt_succ hni (by rw [hgn, hok, hso]; rfl)
          · have dk : decide (x.kind = 1 ∨ x.kind = 2) = false := by simpa using hk
            rw [dk] at hok
            simp -implicitDefEqProofs [guard_Check_L2, hs, hi, ia_nodesE hx, run_Access, dk, hai]
            exact forall_lt_succ hni (by rw [hgn, hok]; rfl)
        · rintro s ⟨⟨st1, st2, hs⟩, hni⟩
          simp at hs
          simp -implicitDefEqProofs [guard_Check_L2, hs, ha]
          exact forall_lt_succ hno (by rw [hF]; exact firstN_miss hni)
      · rintro s ⟨⟨st1, st2, hs⟩, hno⟩
        have : guardF p l js = (0, 0, 0) := by rw [hgf, firstN_miss hno]; rfl
        rw [this]
        simp at hs
        simp -implicitDefEqProofs [guard_Check_L1, hs, buildV]
end Mini
end
section
namespace Mini
open Go
set_option linter.unusedSimpArgs false
set_option linter.unusedVariables false
/-! ### bytes -/
def bytesV (l : List (BitVec 8)) : V := .vec (l.map u8)
@[simp] theorem noRef_bytesV (l : List (BitVec 8)) : (bytesV l).noRef = true := rfl
@[simp] theorem fits_bytesV (l : List (BitVec 8)) : fitsV 0 (bytesV l) = true := rfl
@[simp] theorem cells_bytesV (l : List (BitVec 8)) : (bytesV l).cells = [bytesV l] := rfl
@[simp] theorem okc_bytesV (l : List (BitVec 8)) : (bytesV l).okCell = true := rfl
@[simp] theorem isa_bytesV (l : List (BitVec 8)) : (bytesV l).isAgg = false := rfl
@[simp] theorem len_bytesV (l : List (BitVec 8)) : lenV (bytesV l) = some (i64 l.length) := by simp [bytesV]
@[simp] theorem frz_bytesV (n : Nat) (l : List (BitVec 8)) (h : Heap) : frzV (n + 1) (bytesV l) h = some (bytesV l, h) := rfl
theorem wrap_u8 (n : Int) : IntKind.u8.wrap n = ((BitVec.ofInt 8 n).toNat : Int) := by
  have : IntKind.u8.wrap n = n % 256 := by simp [IntKind.wrap, IntKind.signed, IntKind.bits]
  rw [this, BitVec.toNat_ofInt]
  omega
theorem u32_to_u8 (m : BitVec 32) : toIntV .u8 (u32 m) = some (u8 (m.setWidth 8)) := by
  simp only [toIntV, u32, u8, wrap_u8, Option.some.injEq, V.int.injEq, true_and]
  simp
theorem u8_bits (a : BitVec 8) : BitVec.ofInt 8 (a.toNat : Int) = a := by simp
@[simp] theorem u8_or (a b : BitVec 8) : intV .or (u8 a) (u8 b) = some (u8 (a ||| b)) := by
  show some (V.int .u8 (IntKind.u8.wrap ((BitVec.ofInt 8 a.toNat ||| BitVec.ofInt 8 b.toNat).toNat))) = _
  rw [u8_bits, u8_bits, wrap_u8]
  simp [u8]
theorem u32_geq (m : BitVec 32) (k : Int) : intV .geq (u32 m) (.int .u32 k) = some (.bool (decide (k ≤ m.toNat))) := by
  simp [intV, isShift, intBin, u32]
def putN (m : BitVec 32) : List (BitVec 8) := if 128 ≤ m.toNat then (m.setWidth 8 ||| 128#8) :: putN (m >>> 7) else [m.setWidth 8]
termination_by m.toNat
decreasing_by
  rw [BitVec.toNat_ushiftRight, Nat.shiftRight_eq_div_pow]
  omega
theorem putN_len (m : BitVec 32) : (putN m).length ≤ m.toNat + 1 := by
  induction h : m.toNat using Nat.strongRecOn generalizing m with
  | ind k ih =>
    unfold putN
    split
    · have e : (m >>> 7).toNat < k := by rw [BitVec.toNat_ushiftRight, Nat.shiftRight_eq_div_pow]; omega
      have := ih _ e (m >>> 7) rfl
      simp
      omega
    · simp
theorem varint_Put (n : Nat) (m : BitVec 32) : RetD (n + 1) k_varint_Put [u32 m] (bytesV (putN m)) := by
  refine Ret.of rfl rfl (varint_Put_eq ..) ?_
  have hb := putN_len m
  have hm := m.isLt
  have l128 : V.int .u8 128 = u8 128#8 := rfl
  simp -implicitDefEqProofs [varint_Put_B, promV, slTo]
  refine W_loop (fun k s => ∃ (acc : List (BitVec 8)) (m' : BitVec 32) (st : Nat) (s1 : Slot), k = m'.toNat ∧ acc ++ putN m' = putN m ∧ At s [(0, u32 m'), (3, .sl 0 0 acc.length acc.length 0 st)] [⟨st, some (acc.map u8)⟩, s1]) ?_ m.toNat _ ⟨[], m, 1, ⟨0, none⟩, rfl, rfl, by simp⟩
  rintro k s ⟨acc, m', st, s1, rfl, hacc, hs⟩
  have hal : acc.length + (putN m').length = (putN m).length := by rw [← hacc]; simp
  have happ := fun (id : Nat) (x : BitVec 8) => app_row (id := id) (lim := 70368744177664) (k := 0) (i := acc.length) (st := st) (x := u8 x) (cs := acc.map u8) (h := [⟨st, some (acc.map u8)⟩, s1]) rfl (by simp) (by simp) (by omega)
  simp at hs
  by_cases h : 128 ≤ m'.toNat
  · have h' : (128 : Int) ≤ m'.toNat := by omega
    rw [putN, if_pos h] at hacc
    simp -implicitDefEqProofs [varint_Put_L0, hs, u32_geq, h', u32_to_u8, l128, fillV, rep, newSl, okE, elems, happ, u32_shr64]
    refine ⟨(m' >>> 7).toNat, ?_, acc ++ [m'.setWidth 8 ||| 128#8], m' >>> 7, by simp, by simpa using hacc, rfl, st + 1, ?_⟩
    · rw [BitVec.toNat_ushiftRight, Nat.shiftRight_eq_div_pow]; omega
    · simp
  · have h' : ¬ (128 : Int) ≤ m'.toNat := by omega
    rw [putN, if_neg h] at hacc
    have hfr := frz_rowG u8 (fun _ _ => rfl) (fun _ => rfl) (l := acc ++ [m'.setWidth 8]) (k := 0) (c := acc.length + 1) (st := st + 1) (h := [⟨st + 1, some (acc.map u8 ++ [u8 (m'.setWidth 8)])⟩, s1]) (by simp)
    rw [hacc] at hfr
    have hl : (putN m).length = acc.length + 1 := by rw [← hacc]; simp
    rw [hl] at hfr
    simp -implicitDefEqProofs [varint_Put_L0, hs, u32_geq, h', u32_to_u8, fillV, rep, newSl, okE, elems, happ, hfr, bytesV]
theorem run_Put (n : Nat) (m : BitVec 32) (h : Heap) : runF (tD (n + 1)) k_varint_Put {} [u32 m] h = some (bytesV (putN m), h) := (varint_Put n m).run h
theorem putN_len5 (m : BitVec 32) : 0 < (putN m).length ∧ (putN m).length ≤ 5 := by
  have key : ∀ (k : Nat) (m : BitVec 32), m.toNat < 2 ^ (7 * (k + 1)) → 0 < (putN m).length ∧ (putN m).length ≤ k + 1 := by
    intro k
    induction k with
    | zero =>
      intro m h
      unfold putN
      rw [if_neg (by omega)]
      simp
    | succ k ih =>
      intro m h
      unfold putN
      split
      · have := ih (m >>> 7) (by
          rw [BitVec.toNat_ushiftRight, Nat.shiftRight_eq_div_pow]
          have e : 7 * (k + 1 + 1) = 7 * (k + 1) + 7 := by omega
          rw [e, Nat.pow_add] at h
          exact Nat.div_lt_of_lt_mul (by rw [Nat.mul_comm]; exact h))
        simp
        omega
      · simp
  exact key 4 m (by have := m.isLt; omega)
/-! ### wire.Writer -/
theorem flat_cells {α : Type} (f : α → V) (hf : ∀ a, (f a).cells = [f a]) (l : List α) : (l.map f).flatMap V.cells = l.map f := by
  induction l with
  | nil => rfl
  | cons a l ih => simp [hf, ih]
theorem src_vec {α : Type} (f : α → V) (h1 : ∀ a, fitsV 0 (f a) = true) (h2 : ∀ a, (f a).cells = [f a]) (l : List α) (h : Heap) : srcV 0 (.vec (l.map f)) h = some (l.length, l.map f) := by
  simp [srcV, h1, flat_cells f h2]
/-- A row that fills its slot grows. -/
theorem app_rows {id lim k i st m : Nat} {x : V} {cs new : List V} {h : Heap} (hs : srcV 0 x h = some (m, new)) (ho : new.all V.okCell = true) (hm : 0 < m) (hc : cellsAt h k st = some cs) (hl : cs.length = i) (hlim : i + m ≤ lim) :
    appV (some id) lim 0 (.sl k 0 i i 0 st) x h = some (.sl k 0 (i + m) (i + m) 0 (st + 1), hset h k ⟨st + 1, some (cs ++ new)⟩) := by
  have hm' : ¬ m = 0 := by omega
  unfold appV
  rw [hs]
  simp only [Option.bind_some, ho, if_true, hc, hlim, hl, csz, Nat.mul_one, and_self, hm', if_false]
def numB (i : Int) : List (BitVec 8) := putN (BitVec.ofInt 32 i)
theorem numB_len (i : Int) : 0 < (numB i).length ∧ (numB i).length ≤ 5 := putN_len5 _
theorem i64_to_u32 (i : Int) : toIntV .u32 (i64 i) = some (u32 (BitVec.ofInt 32 i)) := by
  simp only [toIntV, wrap_u32, u32]
theorem okC_u8 (l : List (BitVec 8)) : (l.map u8).all V.okCell = true := by simp
def WH (bs : List (BitVec 8)) (s1 s2 : Slot) (st0 st3 : Nat) : Heap := [⟨st0, some [.sl 3 0 bs.length bs.length 0 st3]⟩, s1, s2, ⟨st3, some (bs.map u8)⟩]
theorem renL_u8 (f : Nat → Nat → Option (Nat × Nat)) (l : List (BitVec 8)) : renL f (l.map u8) = l.map u8 := (noRef_ren _).2 _ (noRef_map (fun _ => rfl) _)
theorem run_W {n f : Nat} {bs bs' : List (BitVec 8)} {s1 s2 : Slot} {st0 st3 st' : Nat} {args args' : List V} {v : V} {rest : Heap} (ha : renL (entM [0, 3] (WH bs s1 s2 st0 st3)) args = args')
    (e : dn PR gD anD n f args' [⟨0, some [.sl 1 0 bs.length bs.length 0 0]⟩, ⟨0, some (bs.map u8)⟩] = some (v, ⟨0, some [.sl 1 0 bs'.length bs'.length 0 st']⟩ :: ⟨st', some (bs'.map u8)⟩ :: rest)) (hv : v.noRef = true) :
    runF (tD n) f { ks := [0, 3] } args (WH bs s1 s2 st0 st3) = some (v, WH bs' s1 s2 st0 (st' + st3)) := by
  have e1 : entH [0, 3] (WH bs s1 s2 st0 st3) = [⟨0, some [.sl 1 0 bs.length bs.length 0 0]⟩, ⟨0, some (bs.map u8)⟩] := by
    simp only [entH, WH, List.map_cons, List.map_nil, hget, Option.map_some, renL, V.ren, renL_u8]
    simp [entM, hget, idxIn]
  have := runF_dn (P := PR) (G := gD) (An := anD) (n := n) (f := f) (a := { ks := [0, 3] }) (args := args) (h := WH bs s1 s2 st0 st3) (r := (v, ⟨0, some [.sl 1 0 bs'.length bs'.length 0 st']⟩ :: ⟨st', some (bs'.map u8)⟩ :: rest)) rfl (by rfl) (by rw [ha, e1]; exact e)
  rw [this]
  simp only [exO, exK, WH, hget, hset, renS, Option.map_some, renL, V.ren, renL_u8, (noRef_ren _).1 _ hv]
  simp [exM, hget]
theorem run_wNum (n : Nat) (bs : List (BitVec 8)) (s1 s2 : Slot) (st0 st3 : Nat) (i : Int) (hb : bs.length < 1000000) :
    ∃ st', runF (tD (n + 2)) k_wire_WriterP_Num { ks := [0, 3] } [.ptr 0 0 st0, i64 i] (WH bs s1 s2 st0 st3) = some (.tup [], WH (bs ++ numB i) s1 s2 st0 st') := by
  obtain ⟨h1, h2⟩ := numB_len i
  have happ := fun (id : Nat) (rest : Heap) => app_rows (id := id) (lim := 70368744177664) (k := 1) (i := bs.length) (st := 0) (cs := bs.map u8) (h := [⟨0, some [.sl 1 0 bs.length bs.length 0 0]⟩, ⟨0, some (bs.map u8)⟩] ++ rest) (src_vec u8 (fun _ => rfl) (fun _ => rfl) (numB i) _) (okC_u8 _) h1 (by simp) (by simp) (by omega)
  have happ := fun id => happ id [⟨0, none⟩]
  simp only [List.cons_append, List.nil_append, hset] at happ
  have happ : ∀ id, appV (some id) 70368744177664 0 (.sl 1 0 bs.length bs.length 0 0) (bytesV (putN (BitVec.ofInt 32 i))) _ = _ := happ
  refine ⟨_, run_W (st' := 1) (rest := [⟨0, none⟩]) (by simp [renL, V.ren, entM, WH, hget, idxIn]; rfl) ?_ rfl⟩
  rw [wire_WriterP_Num_eq]
  simp -implicitDefEqProofs [wire_WriterP_Num_B, nilV, i64_to_u32, run_Put, happ, numB]
theorem run_wRaw (n : Nat) (bs new : List (BitVec 8)) (s1 s2 : Slot) (st0 st3 : Nat) (h1 : 0 < new.length) (hb : bs.length + new.length < 1000000) :
    ∃ st', runF (tD (n + 1)) k_wire_WriterP_Raw { ks := [0, 3] } [.ptr 0 0 st0, bytesV new] (WH bs s1 s2 st0 st3) = some (.tup [], WH (bs ++ new) s1 s2 st0 st') := by
  have happ := fun (id : Nat) (rest : Heap) => app_rows (id := id) (lim := 70368744177664) (k := 1) (i := bs.length) (st := 0) (cs := bs.map u8) (h := [⟨0, some [.sl 1 0 bs.length bs.length 0 0]⟩, ⟨0, some (bs.map u8)⟩] ++ rest) (src_vec u8 (fun _ => rfl) (fun _ => rfl) new _) (okC_u8 _) h1 (by simp) (by simp) (by omega)
  have happ := fun id => happ id [⟨0, none⟩]
  simp only [List.cons_append, List.nil_append, hset] at happ
  have happ : ∀ id, appV (some id) 70368744177664 0 (.sl 1 0 bs.length bs.length 0 0) (bytesV new) _ = _ := happ
  refine ⟨_, run_W (st' := 1) (rest := [⟨0, none⟩]) (args' := [.ptr 0 0 0, bytesV new]) (by simp [renL, V.ren, entM, WH, hget, idxIn, (noRef_ren _).1 (bytesV new) rfl]) ?_ rfl⟩
  rw [wire_WriterP_Raw_eq]
  simp -implicitDefEqProofs [wire_WriterP_Raw_B, nilV, happ]
theorem run_wBytes (n : Nat) (bs : List (BitVec 8)) (s1 s2 : Slot) (st0 st3 : Nat) (h1 : 0 < bs.length) (hb : bs.length < 1000000) :
    runF (tD (n + 1)) k_wire_WriterP_Bytes { ks := [0, 3] } [.ptr 0 0 st0] (WH bs s1 s2 st0 st3) = some (bytesV bs, WH bs s1 s2 st0 st3) := by
  have e := run_W (n := n + 1) (f := k_wire_WriterP_Bytes) (bs := bs) (bs' := bs) (s1 := s1) (s2 := s2) (st0 := st0) (st3 := st3) (st' := 0) (args := [.ptr 0 0 st0]) (args' := [.ptr 0 0 0]) (v := bytesV bs) (rest := [⟨3, none⟩, ⟨0, none⟩]) (by simp [renL, V.ren, entM, WH, hget, idxIn]) ?_ rfl
  · simpa using e
  rw [wire_WriterP_Bytes_eq]
  have hsrc : srcV 0 (.sl 1 0 bs.length bs.length 0 0) [⟨0, some [.sl 1 0 bs.length bs.length 0 0]⟩, ⟨0, some (bs.map u8)⟩, ⟨1, some []⟩, ⟨0, none⟩] = some (bs.length, bs.map u8) := by
    have : (bs.map u8).take bs.length = bs.map u8 := by rw [List.take_of_length_le (by simp)]
    simp [srcV, this]
  have happ := app_rows (id := 3) (lim := 70368744177664) (k := 2) (i := 0) (st := 1) (cs := []) hsrc (okC_u8 _) h1 (by simp) rfl (by omega)
  simp only [Nat.zero_add, hset, List.nil_append] at happ
  have hfr := frz_rowG u8 (fun _ _ => rfl) (fun _ => rfl) (l := bs) (k := 2) (c := bs.length) (st := 2) (h := [⟨0, some [.sl 1 0 bs.length bs.length 0 0]⟩, ⟨0, some (bs.map u8)⟩, ⟨2, some (bs.map u8)⟩, ⟨0, none⟩]) (by simp)
  simp -implicitDefEqProofs [wire_WriterP_Bytes_B, nilV, fillV, rep, newSl, slTo, happ, hfr, bytesV]
end Mini
end
section
namespace Mini
open Go
set_option linter.unusedSimpArgs false
set_option linter.unusedVariables false
/-! ### pcode -/
def partsN (x : Node) : List Int := if x.kind = 9 then [] else if x.kind = 0 then [x.next] else if x.kind = 5 then [x.arg, x.next, x.alt] else if x.kind = 8 then [x.next, x.alt] else [x.arg, x.next]
def fzI (i : Int) : V := .fz (i64 i)
def partsV (x : Node) : V := if x.kind = 9 then .nils else .vec ((partsN x).map fzI)
theorem pcode_parts (n : Nat) (x : Node) : RetD (n + 1) k_pcode_parts [.fz x.v] (partsV x) := by
  refine Ret.of rfl (by unfold partsV; split <;> rfl) (pcode_parts_eq ..) ?_
  by_cases h9 : x.kind = 9
  · have d9 := eq_true h9
    simp -implicitDefEqProofs [pcode_parts_B, nilV, d9, partsV]
  have d9 := eq_false h9
  by_cases h0 : x.kind = 0
  · have d0 := eq_true h0
    simp -implicitDefEqProofs [pcode_parts_B, nilV, d9, d0, partsV, partsN, fillV, rep, newSl, okE, elems, fzI]
  have d0 := eq_false h0
  by_cases h5 : x.kind = 5
  · have d5 := eq_true h5
    simp -implicitDefEqProofs [pcode_parts_B, nilV, d9, d0, d5, partsV, partsN, fillV, rep, newSl, okE, elems, fzI]
  have d5 := eq_false h5
  by_cases h8 : x.kind = 8
  · have d8 := eq_true h8
    simp -implicitDefEqProofs [pcode_parts_B, nilV, d9, d0, d5, d8, partsV, partsN, fillV, rep, newSl, okE, elems, fzI]
  have d8 := eq_false h8
  simp -implicitDefEqProofs [pcode_parts_B, nilV, d9, d0, d5, d8, partsV, partsN, fillV, rep, newSl, okE, elems, fzI]
theorem len_partsV (x : Node) : lenV (partsV x) = some (i64 (partsN x).length) := by
  unfold partsV
  split
  · rename_i h; simp [partsN, h]
  · simp
theorem ia_partsV {x : Node} {j : Nat} {i : Int} (h : (partsN x)[j]? = some i) : iaS 0 (partsV x) (i64 j) = some (.fz (fzI i)) := by
  unfold partsV
  split
  · rename_i h9; simp [partsN, h9] at h
  · obtain ⟨h1, rfl⟩ := List.getElem?_eq_some_iff.1 h
    exact ia_map (fun _ => rfl) h1
theorem partsN_len (x : Node) : (partsN x).length ≤ 3 := by
  unfold partsN
  repeat' split
  all_goals simp
def nodeB (x : Node) : List (BitVec 8) := numB x.kind ++ (partsN x).flatMap numB
def funcB (F : List Node) : List (BitVec 8) := numB F.length ++ F.flatMap nodeB
def headB (p : Prg) : List (BitVec 8) := [97#8, 108#8, 112#8, 49#8] ++ [p.g, p.l, p.s, (p.fs.length : Int)].flatMap numB
def codeP (p : Prg) : List (BitVec 8) := headB p ++ p.fs.flatMap funcB
theorem flatMap_snoc {α β : Type} (f : α → List β) {l : List α} {i : Nat} {x : α} (h : l[i]? = some x) : (l.take (i + 1)).flatMap f = (l.take i).flatMap f ++ f x := by
  obtain ⟨h1, rfl⟩ := List.getElem?_eq_some_iff.1 h
  rw [List.take_succ_eq_append_getElem h1, List.flatMap_append]
  simp
theorem flatMap_le {α β : Type} (f : α → List β) (c : Nat) (l : List α) (h : ∀ x ∈ l, (f x).length ≤ c) : (l.flatMap f).length ≤ c * l.length := by
  induction l with
  | nil => simp
  | cons a l ih =>
    have := ih (fun x hx => h x (List.mem_cons_of_mem _ hx))
    have h2 := h a (List.mem_cons_self ..)
    simp only [List.flatMap_cons, List.length_append, List.length_cons]
    rw [Nat.mul_add]
    omega
theorem nodeB_len (x : Node) : (nodeB x).length ≤ 20 := by
  have h1 := numB_len x.kind
  have h2 := flatMap_le numB 5 (partsN x) (fun i _ => (numB_len i).2)
  have h3 := partsN_len x
  simp only [nodeB, List.length_append]
  omega
theorem funcB_len (F : List Node) : (funcB F).length ≤ 5 + 20 * F.length := by
  have h1 := numB_len F.length
  have h2 := flatMap_le nodeB 20 F (fun x _ => nodeB_len x)
  simp only [funcB, List.length_append]
  omega
theorem headB_len (p : Prg) : 0 < (headB p).length ∧ (headB p).length ≤ 24 := by
  have h2 := flatMap_le numB 5 [p.g, p.l, p.s, (p.fs.length : Int)] (fun i _ => (numB_len i).2)
  simp only [headB, List.length_append, List.length_cons, List.length_nil] at h2 ⊢
  omega
theorem nodes_fold (F : List Node) : V.vec (F.map Node.v) = nodesV F := rfl
theorem run_parts (n : Nat) (x : Node) (h : Heap) : runF (tD (n + 1)) k_pcode_parts {} [.fz x.v] h = some (partsV x, h) := (pcode_parts n x).run h
theorem pcode_Write (n : Nat) (p : Prg) (hsm : SmallP p) : (errP p ≠ 0 → RetD (n + 20) k_pcode_Write [p.v] (.tup [bytesV [], i64 (errP p)])) ∧
    (errP p = 0 → RetD (n + 20) k_pcode_Write [p.v] (.tup [bytesV (codeP p), i64 0])) := by
  obtain ⟨a, b, hchk⟩ := prog_Check n p hsm
  have hchk := hchk.run
  constructor
  · intro he
    have d0 := eq_false he
    refine Ret.of rfl rfl (pcode_Write_eq ..) ?_
    simp -implicitDefEqProofs [pcode_Write_B, hchk, d0]
    rfl
  · intro he
    refine Ret.of rfl rfl (pcode_Write_eq ..) ?_
    obtain ⟨e1, e2, e3⟩ := errP_zero he
    obtain ⟨st4, hraw⟩ := run_wRaw (n + 18) [] [97#8, 108#8, 112#8, 49#8] ⟨2, none⟩ ⟨0, none⟩ 1 1 (by simp) (by simp)
    simp only [List.nil_append] at hraw
    have hraw : runF (tD (n + 19)) k_wire_WriterP_Raw { ks := [0, 3] } [.ptr 0 0 1, .vec [.int .u8 97, .int .u8 108, .int .u8 112, .int .u8 49]] [⟨1, some [.sl 3 0 0 0 0 1]⟩, ⟨2, none⟩, ⟨0, none⟩, ⟨1, some []⟩] = _ := hraw
    simp -implicitDefEqProofs [pcode_Write_B, hchk, he, promC, cmds.faV', slTo, fillV, rep, newSl, slcV, isInt, hraw, okE, elems]
    have hWH : ∀ (bs : List (BitVec 8)) (s1 s2 : Slot) (st0 st3 : Nat), ldV 0 (.ptr 0 0 st0) (WH bs s1 s2 st0 st3) = some (.sl 3 0 bs.length bs.length 0 st3) := fun bs s1 s2 st0 st3 => by simp [WH]
    refine W_up 4 (fun j s => ∃ st3, At s [(1, .fz p.v), (7, .ptr 0 0 1), (37, intsV [p.g, p.l, p.s, (p.fs.length : Int)]), (38, i64 4), (39, i64 j)] (WH ([97#8, 108#8, 112#8, 49#8] ++ ([p.g, p.l, p.s, (p.fs.length : Int)].take j).flatMap numB) ⟨2, none⟩ ⟨0, none⟩ 1 st3)) ?_ ?_ (Nat.zero_le _) ⟨st4, by simp [intsV]⟩
    · rintro j s hj ⟨st3, hs⟩
      have ha := i64_inc hj (by omega)
      obtain ⟨i, hi, him⟩ := getE (l := [p.g, p.l, p.s, (p.fs.length : Int)]) (i := j) (by simpa using hj)
      have hfl := flatMap_le numB 5 ([p.g, p.l, p.s, (p.fs.length : Int)].take j) (fun i _ => (numB_len i).2)
      have htl : ([p.g, p.l, p.s, (p.fs.length : Int)].take j).length ≤ 4 := by simp; omega
      have hsn := flatMap_snoc numB hi
      obtain ⟨bs, hbs⟩ : ∃ bs, bs = [97#8, 108#8, 112#8, 49#8] ++ ([p.g, p.l, p.s, (p.fs.length : Int)].take j).flatMap numB := ⟨_, rfl⟩
      have hbl : bs.length ≤ 24 := by rw [hbs]; simp only [List.length_append, List.length_cons, List.length_nil]; omega
      rw [hsn]
      rw [← List.append_assoc, ← hbs]
      rw [← hbs] at hs
      obtain ⟨st', hnum⟩ := run_wNum (n + 17) bs ⟨2, none⟩ ⟨0, none⟩ 1 st3 i (by omega)
      have hnum : runF (tD (n + 19)) k_wire_WriterP_Num { ks := [0, 3] } [.ptr 0 0 1, i64 i] (WH bs ⟨2, none⟩ ⟨0, none⟩ 1 st3) = _ := hnum
      have hj' : (j : Int) < 4 := by omega
      simp at hs
      simp -implicitDefEqProofs [pcode_Write_L0, hs, hj, hj', ia_intsE hi, hnum, ha]
      exact ⟨st', rfl⟩
    · rintro s ⟨st3, hs⟩
      have hh0 : [97#8, 108#8, 112#8, 49#8] ++ ([p.g, p.l, p.s, (p.fs.length : Int)].take 4).flatMap numB = headB p := rfl
      rw [hh0] at hs
      clear hh0
      obtain ⟨hd1, hd2⟩ := headB_len p
      simp at hs
      simp -implicitDefEqProofs [pcode_Write_L0, hs]
      clear hs
      refine W_up p.fs.length (fun f s => ∃ st2 st3, At s [(7, .ptr 0 0 1), (47, funcsV p.fs), (48, i64 p.fs.length), (49, i64 f)] (WH (headB p ++ (p.fs.take f).flatMap funcB) ⟨2, none⟩ ⟨st2, none⟩ 1 st3)) ?_ ?_ (Nat.zero_le _) ⟨0, st3, by simp⟩
      · rintro f s hf ⟨st2, st3, hs⟩
        have ha := i64_inc hf (by omega)
        obtain ⟨F, hF, hFm⟩ := getE hf
        obtain ⟨k1, k2, k3⟩ := e2 F hFm
        have hfl := flatMap_le funcB 1285 (p.fs.take f) (fun F hF => by
          have := funcB_len F
          have := (e2 F (List.mem_of_mem_take hF)).2.1
          omega)
        have htl : (p.fs.take f).length ≤ 16 := by simp; omega
        have hmul : 1285 * (p.fs.take f).length ≤ 1285 * 16 := Nat.mul_le_mul_left _ htl
        have hsn := flatMap_snoc funcB hF
        obtain ⟨bs, hbs⟩ : ∃ bs, bs = headB p ++ (p.fs.take f).flatMap funcB := ⟨_, rfl⟩
        have hbl : bs.length ≤ 24 + 1285 * 16 := by rw [hbs, List.length_append]; omega
        rw [hsn, ← List.append_assoc, ← hbs]
        rw [← hbs] at hs
        have hnl := numB_len F.length
        obtain ⟨st', hnum⟩ := run_wNum (n + 17) bs ⟨2, none⟩ ⟨st2, none⟩ 1 st3 F.length (by omega)
        have hnum : runF (tD (n + 19)) k_wire_WriterP_Num { ks := [0, 3] } [.ptr 0 0 1, i64 F.length] (WH bs ⟨2, none⟩ ⟨st2, none⟩ 1 st3) = _ := hnum
        simp at hs
        simp -implicitDefEqProofs [pcode_Write_L1, hs, hf, ia_funcsE hF, hnum]
        clear hs
        refine W_up F.length (fun i s => ∃ st2 st3, At s [(7, .ptr 0 0 1), (47, funcsV p.fs), (48, i64 p.fs.length), (49, i64 f), (56, nodesV F), (57, i64 F.length), (58, i64 i)] (WH (bs ++ numB F.length ++ (F.take i).flatMap nodeB) ⟨2, none⟩ ⟨st2, none⟩ 1 st3)) ?_ ?_ (Nat.zero_le _) ⟨st2, st', by simp⟩
        · rintro i s hi ⟨st2, st3, hs⟩
          have hai := i64_inc hi (by omega)
          obtain ⟨x, hx, hxm⟩ := getE hi
          have hfl := flatMap_le nodeB 20 (F.take i) (fun x _ => nodeB_len x)
          have htl : (F.take i).length ≤ 64 := by simp; omega
          have hsn := flatMap_snoc nodeB hx
          obtain ⟨cs, hcs⟩ : ∃ cs, cs = bs ++ numB F.length ++ (F.take i).flatMap nodeB := ⟨_, rfl⟩
          have hcl : cs.length ≤ 30000 := by rw [hcs]; simp only [List.length_append]; omega
          rw [hsn, ← List.append_assoc, ← hcs]
          rw [← hcs] at hs
          have hnl := numB_len x.kind
          obtain ⟨st', hnum⟩ := run_wNum (n + 17) cs ⟨2, none⟩ ⟨st2 + 2, none⟩ 1 st3 x.kind (by omega)
          have hnum : runF (tD (n + 19)) k_wire_WriterP_Num { ks := [0, 3] } [.ptr 0 0 1, i64 x.kind] (WH cs ⟨2, none⟩ ⟨st2 + 2, none⟩ 1 st3) = _ := hnum
          have hal : allocV (some 2) 4 [.int .i64 0, .int .i64 0, .int .i64 0, .int .i64 0] (WH cs ⟨2, none⟩ ⟨st2, none⟩ 1 st3) = some (.ptr 2 0 (st2 + 1), WH cs ⟨2, none⟩ ⟨st2 + 1, some [.int .i64 0, .int .i64 0, .int .i64 0, .int .i64 0]⟩ 1 st3) := by simp [WH]
          have hst : stV 4 (.ptr 2 0 (st2 + 1)) x.v (WH cs ⟨2, none⟩ ⟨st2 + 1, some [.int .i64 0, .int .i64 0, .int .i64 0, .int .i64 0]⟩ 1 st3) = some (WH cs ⟨2, none⟩ ⟨st2 + 1, some [i64 x.kind, i64 x.arg, i64 x.next, i64 x.alt]⟩ 1 st3) := by simp [WH]
          have hfz : frzP 4 (.ptr 2 0 (st2 + 1)) (WH cs ⟨2, none⟩ ⟨st2 + 1, some [i64 x.kind, i64 x.arg, i64 x.next, i64 x.alt]⟩ 1 st3) = some (.fz x.v, WH cs ⟨2, none⟩ ⟨st2 + 2, none⟩ 1 st3) := by simp [WH]
          simp at hs
          simp -implicitDefEqProofs [-allocV, -stV_ptr, -frzP_ptr, pcode_Write_L2, hs, hi, ia_nodesE hx, hal, hst, hfz, hnum, run_parts, len_partsV]
          clear hs
          refine W_up (partsN x).length (fun j s => ∃ st3, At s [(7, .ptr 0 0 1), (47, funcsV p.fs), (48, i64 p.fs.length), (49, i64 f), (56, nodesV F), (57, i64 F.length), (58, i64 i), (65, partsV x), (66, i64 (partsN x).length), (67, i64 j)] (WH (cs ++ numB x.kind ++ ((partsN x).take j).flatMap numB) ⟨2, none⟩ ⟨st2 + 2, none⟩ 1 st3)) ?_ ?_ (Nat.zero_le _) ⟨st', by simp⟩
          · rintro j s hj ⟨st3, hs⟩
            have hp3 := partsN_len x
            have haj := i64_inc hj (by omega)
            obtain ⟨y, hy, hym⟩ := getE hj
            have hfl := flatMap_le numB 5 ((partsN x).take j) (fun i _ => (numB_len i).2)
            have htl : ((partsN x).take j).length ≤ 3 := by simp; omega
            have hsn := flatMap_snoc numB hy
            obtain ⟨ds, hds⟩ : ∃ ds, ds = cs ++ numB x.kind ++ ((partsN x).take j).flatMap numB := ⟨_, rfl⟩
            have hdl : ds.length ≤ 30100 := by rw [hds]; simp only [List.length_append]; omega
            rw [hsn, ← List.append_assoc, ← hds]
            rw [← hds] at hs
            obtain ⟨st', hnum⟩ := run_wNum (n + 17) ds ⟨2, none⟩ ⟨st2 + 2, none⟩ 1 st3 y (by omega)
            have hnum : runF (tD (n + 19)) k_wire_WriterP_Num { ks := [0, 3] } [.ptr 0 0 1, i64 y] (WH ds ⟨2, none⟩ ⟨st2 + 2, none⟩ 1 st3) = _ := hnum
            simp at hs
            simp -implicitDefEqProofs [pcode_Write_L3, hs, hj, ia_partsV hy, fzI, nilV, hnum, haj]
            exact ⟨st', rfl⟩
          · rintro s ⟨st3, hs⟩
            simp at hs
            simp -implicitDefEqProofs [pcode_Write_L3, hs, hai]
            exact ⟨st2 + 2, st3, by simp [nodeB]⟩
        · rintro s ⟨st2, st3, hs⟩
          simp at hs
          simp -implicitDefEqProofs [pcode_Write_L2, hs, ha]
          exact ⟨st2, st3, by simp [funcB]⟩
      · rintro s ⟨st2, st3, hs⟩
        rw [List.take_length] at hs
        have hcode : headB p ++ p.fs.flatMap funcB = codeP p := rfl
        rw [hcode] at hs
        have hfl := flatMap_le funcB 1285 p.fs (fun F hF => by
          have := funcB_len F
          have := (e2 F hF).2.1
          omega)
        have hmul : 1285 * p.fs.length ≤ 1285 * 16 := Nat.mul_le_mul_left _ (by omega)
        have hby := run_wBytes (n + 18) (codeP p) ⟨2, none⟩ ⟨st2, none⟩ 1 st3 (by rw [← hcode, List.length_append]; omega) (by rw [← hcode, List.length_append]; omega)
        have hby : runF (tD (n + 19)) k_wire_WriterP_Bytes { ks := [0, 3] } [.ptr 0 0 1] _ = _ := hby
        simp at hs
        simp -implicitDefEqProofs [pcode_Write_L1, hs, hby]
end Mini
end
section
namespace Mini
open Go
set_option linter.unusedSimpArgs false
set_option linter.unusedVariables false
/-! ### sha -/
theorem u32_shl64 {a : BitVec 32} {n : Int} (h : 0 ≤ n) : intV .shl (u32 a) (.int .u64 n) = some (u32 (a <<< n.toNat)) := u32_shl h
@[simp] theorem u32_not (a : BitVec 32) : unV .xor (u32 a) = some (u32 (~~~a)) := by
  show some (V.int .u32 (IntKind.u32.wrap ((BitVec.ofInt 32 (if IntKind.u32.signed then -1 else IntKind.u32.max) ^^^ BitVec.ofInt 32 a.toNat).toNat))) = _
  have : BitVec.ofInt 32 (if IntKind.u32.signed then -1 else IntKind.u32.max) = BitVec.allOnes 32 := by decide
  rw [this, u32_bits, BitVec.allOnes_xor, u32_wrap]
def rotr (x : BitVec 32) (k : Nat) : BitVec 32 := (x <<< (32 - k)) ||| (x >>> k)
theorem rot_num : ∀ k : Fin 32, 0 < k.val → IntKind.u64.wrap ((BitVec.ofInt 64 (IntKind.u64.wrap (IntKind.i64.wrap (0 - (k.val : Int)))) &&& BitVec.ofInt 64 31).toNat : Int) = ((32 - k.val : Nat) : Int) := by decide
theorem sha_turn (n : Nat) (x : BitVec 32) (k : Nat) (h0 : 0 < k) (hk : k < 32) : RetD (n + 2) k_sha_turn [u32 x, i64 k] (u32 (rotr x k)) := by
  have hn := rot_num ⟨k, hk⟩ h0
  have e1 : unV .neg (i64 (k : Int)) = some (i64 (IntKind.i64.wrap (0 - (k : Int)))) := rfl
  have e2 : intV .and (.int .u64 (IntKind.u64.wrap (IntKind.i64.wrap (0 - (k : Int))))) (.int .u64 31) = some (.int .u64 ((32 - k : Nat) : Int)) := by
    show some (V.int .u64 (IntKind.u64.wrap ((BitVec.ofInt 64 (IntKind.u64.wrap (IntKind.i64.wrap (0 - (k : Int)))) &&& BitVec.ofInt 64 31).toNat : Int))) = _
    rw [hn]
  have e3 : intV .sub (.int .u64 32) (.int .u64 ((32 - k : Nat) : Int)) = some (.int .u64 (k : Int)) := by
    show some (V.int .u64 (IntKind.u64.wrap (32 - ((32 - k : Nat) : Int)))) = _
    have : IntKind.u64.wrap (32 - ((32 - k : Nat) : Int)) = (k : Int) := by
      have : IntKind.u64.wrap (32 - ((32 - k : Nat) : Int)) = (32 - ((32 - k : Nat) : Int)) % 18446744073709551616 := by simp [IntKind.wrap, IntKind.signed, IntKind.bits]
      rw [this]
      omega
    rw [this]
  have hr : RetD (n + 1) k_bits_RotateLeft32 [u32 x, i64 (IntKind.i64.wrap (0 - (k : Int)))] (u32 (rotr x k)) := by
    refine ⟨rfl, rfl, [], ?_⟩
    rw [bits_RotateLeft32_eq]
    simp only [bits_RotateLeft32_B, toIntV, Option.bind_some, e2, u32_shl64 (Int.natCast_nonneg _), e3, u32_shr64 (Int.natCast_nonneg _), Int.toNat_natCast, u32_or]
    rfl
  have hr := hr.run
  refine ⟨rfl, rfl, [], ?_⟩
  rw [sha_turn_eq]
  simp only [sha_turn_B, e1, Option.bind_some, hr]
  rfl
theorem run_turn (n : Nat) (x : BitVec 32) (k : Nat) (h0 : 0 < k) (hk : k < 32) (h : Heap) : runF (tD (n + 2)) k_sha_turn {} [u32 x, i64 (k : Int)] h = some (u32 (rotr x k), h) := (sha_turn n x k h0 hk).run h
/-- Four bytes as a word. -/
def wordN (a b c d : BitVec 8) : BitVec 32 := (a.setWidth 32 <<< 24) ||| (b.setWidth 32 <<< 16) ||| (c.setWidth 32 <<< 8) ||| d.setWidth 32
theorem u8_to_u32 (a : BitVec 8) : toIntV .u32 (u8 a) = some (u32 (a.setWidth 32)) := by
  simp only [toIntV, wrap_u32, u8, u32, Option.some.injEq, V.int.injEq, true_and]
  have := a.isLt
  simp [BitVec.toNat_setWidth]
theorem ia_bytes {l : List (BitVec 8)} {i : Nat} {x : BitVec 8} (h : l[i]? = some x) : iaS 0 (bytesV l) (i64 i) = some (.fz (u8 x)) := by
  obtain ⟨h1, rfl⟩ := List.getElem?_eq_some_iff.1 h; exact ia_map (fun _ => rfl) h1
def wordL (l : List (BitVec 8)) : BitVec 32 := wordN (l[0]?.getD 0) (l[1]?.getD 0) (l[2]?.getD 0) (l[3]?.getD 0)
theorem sha_word (n : Nat) (l : List (BitVec 8)) (hl : 4 ≤ l.length) : RetD (n + 1) k_sha_word [bytesV l] (u32 (wordL l)) := by
  obtain ⟨a, ha, _⟩ := getE (l := l) (i := 0) (by omega)
  obtain ⟨b, hb, _⟩ := getE (l := l) (i := 1) (by omega)
  obtain ⟨c, hc, _⟩ := getE (l := l) (i := 2) (by omega)
  obtain ⟨d, hd, _⟩ := getE (l := l) (i := 3) (by omega)
  have i0 : iaS 0 (bytesV l) (.int .i64 0) = some (.fz (u8 a)) := ia_bytes ha
  have i1 : iaS 0 (bytesV l) (.int .i64 1) = some (.fz (u8 b)) := ia_bytes hb
  have i2 : iaS 0 (bytesV l) (.int .i64 2) = some (.fz (u8 c)) := ia_bytes hc
  have i3 : iaS 0 (bytesV l) (.int .i64 3) = some (.fz (u8 d)) := ia_bytes hd
  refine ⟨rfl, rfl, [], ?_⟩
  rw [sha_word_eq]
  simp -implicitDefEqProofs [sha_word_B, i0, i1, i2, i3, u8_to_u32, u32_shl64, wordL, wordN, ha, hb, hc, hd]
/-- The words of the rounds: 16 of the bytes, and k more. -/
def schedN (b : List (BitVec 8)) : Nat → List (BitVec 32)
  | 0 => (List.range 16).map fun i => wordL (b.drop (4 * i))
  | k + 1 => let w := schedN b k
    let x := w[k + 1]?.getD 0
    let y := w[k + 14]?.getD 0
    w ++ [w[k]?.getD 0 + ((rotr x 7 ^^^ rotr x 18) ^^^ x >>> 3) + w[k + 9]?.getD 0 + ((rotr y 17 ^^^ rotr y 19) ^^^ y >>> 10)]
theorem schedN_len (b : List (BitVec 8)) (k : Nat) : (schedN b k).length = 16 + k := by
  induction k with
  | zero => simp [schedN]
  | succ k ih => simp [schedN, ih]; omega
theorem rep_u32 (n : Nat) : rep n [V.int .u32 0] = (List.replicate n 0#32).map u32 := rep_map u32 0#32 n
theorem slS_bytes {l : List (BitVec 8)} {i : Nat} (h : i ≤ l.length) : slS 0 (bytesV l) (some (i64 i)) none = some (bytesV (l.drop i)) := by
  have : (l.map u8).take l.length = l.map u8 := by rw [List.take_of_length_le (by simp)]
  simp [slS, bytesV, bndV, h, this]
theorem slS_bytes_hi {l : List (BitVec 8)} {i : Nat} (h : i ≤ l.length) : slS 0 (bytesV l) none (some (i64 i)) = some (bytesV (l.take i)) := by
  simp [slS, bytesV, bndV, h]
theorem iaA_ptr {len k off st i : Nat} (h : i < len) : iaA len 0 (.ptr k off st) (i64 (i : Int)) = some (.ptr k (off + i) st) := by
  simp [iaA, h]
theorem noRef_agg (l : List V) : (V.agg l).noRef = noRefL l := rfl
theorem sha_spread_W (n : Nat) (b : List (BitVec 8)) (hb : b.length = 64) : W (sha_spread_B (n + 2) (bytesV b) [⟨0, none⟩, ⟨0, none⟩]) (fun _ => False) (fun o => ∃ h, o = .ret (.agg ((schedN b 48).map u32)) h) := by
  have hw := fun (l : List (BitVec 8)) (hl : 4 ≤ l.length) (h : Heap) => (sha_word (n + 1) l hl).run h
  obtain ⟨q, hq⟩ : ∃ q, q = schedN b 48 := ⟨_, rfl⟩
  rw [← hq]
  have hql : q.length = 64 := by rw [hq, schedN_len]
  have z0 : ∃ z, z = List.replicate 64 0#32 := ⟨_, rfl⟩
  obtain ⟨z, hz⟩ := z0
  have hzl : z.length = 64 := by rw [hz]; simp
  have hal : ∀ id h, allocV (some id) 64 (rep 64 [V.int .u32 0]) h = some (.ptr id 0 ((hget h id).st + 1), hset h id ⟨(hget h id).st + 1, some (z.map u32)⟩) := by
    intro id h
    rw [rep_u32, ← hz]
    rfl
  simp only [sha_spread_B, hal, Option.bind_some, W_seq, W_blk, hget, hset, List.map_map]
  refine W_up 16 (fun i s => At s [(0, bytesV b), (2, .ptr 0 0 1), (3, .ptr 1 0 1), (8, i64 i)] [⟨1, some (z.map u32)⟩, ⟨1, some (((schedN b 0).take i ++ z.drop i).map u32)⟩]) ?_ ?_ (Nat.zero_le _) (by simp)
  · rintro i s hi hs
    have ha := i64_inc hi (by omega)
    have hi' : (i : Int) < 16 := by omega
    obtain ⟨w0, hw0⟩ : ∃ w0, w0 = schedN b 0 := ⟨_, rfl⟩
    have hw0l : w0.length = 16 := by rw [hw0, schedN_len]
    have hw0i : w0[i]? = some (wordL (b.drop (4 * i))) := by rw [hw0]; simp [schedN, hi]
    rw [← hw0] at hs ⊢
    obtain ⟨r, hr⟩ : ∃ r, r = w0.take i ++ z.drop i := ⟨_, rfl⟩
    have hrl : r.length = 64 := by rw [hr]; simp; omega
    have hst := st_row (f := u32) (fun _ => rfl) (fun _ => rfl) (fun _ => rfl) (l := r) (i := i) (k := 1) (st := 1) (a := wordL (b.drop (4 * i))) (h := [⟨1, some (z.map u32)⟩, ⟨1, some (r.map u32)⟩]) (by simp) (by omega)
    simp only [hset] at hst
    have hset' : r.set i (wordL (b.drop (4 * i))) = w0.take (i + 1) ++ z.drop (i + 1) := by
      have e1 : w0.take (i + 1) = w0.take i ++ [wordL (b.drop (4 * i))] := by
        obtain ⟨h1, h2⟩ := List.getElem?_eq_some_iff.1 hw0i
        rw [List.take_succ_eq_append_getElem h1, h2]
      have e2 : z.drop i = z[i]'(by omega) :: z.drop (i + 1) := (List.drop_eq_getElem_cons (by omega))
      rw [hr, e1, e2, List.set_append_right _ _ (by simp; omega)]
      have : i - (w0.take i).length = 0 := by simp; omega
      rw [this, List.set_cons_zero, List.append_assoc]
      rfl
    rw [hset'] at hst
    rw [← hr] at hs
    have m4 : intV .mul (.int .i64 4) (i64 (i : Int)) = some (i64 ((4 * i : Nat) : Int)) := by rw [i64_mul (by omega) (by omega)]; simp
    have hsl := slS_bytes (l := b) (i := 4 * i) (by omega)
    have hia := iaA_ptr (k := 1) (off := 0) (st := 1) (show i < 64 by omega)
    simp only [Nat.zero_add] at hia
    obtain ⟨j4, hj4⟩ : ∃ j, j = 4 * i := ⟨_, rfl⟩
    have hwd := hw (b.drop (4 * i)) (by simp; omega)
    rw [← hj4] at m4 hsl hwd hst
    simp at hs
    simp -implicitDefEqProofs [-stV_ptr, sha_spread_L0, hs, hi', m4, hsl, hwd, hia, hst, ha]
  · rintro s hs
    have e16 : (schedN b 0).take 16 = schedN b 0 := by rw [List.take_of_length_le (by rw [schedN_len]; omega)]
    rw [e16] at hs
    simp at hs
    simp -implicitDefEqProofs only [sha_spread_L0, hs, Option.bind_some, i64_lss, condV_bool, Int.lt_irrefl, decide_false, Bool.false_eq_true, if_false, seqX_some_exit, W_exit, blkP_exit, if_true, Int.reduceLT]
    simp -implicitDefEqProofs [-W_seq]
    clear hs
    refine W_up 48 (fun k s => At s [(2, .ptr 0 0 1), (3, .ptr 1 0 1), (5, i64 ((16 + k : Nat) : Int))] [⟨1, some (z.map u32)⟩, ⟨1, some ((schedN b k ++ z.drop (16 + k)).map u32)⟩]) ?_ ?_ (Nat.zero_le _) (by simp)
    · rintro k s hk hs
      have hr := schedN_len b k
      obtain ⟨r, hrr⟩ : ∃ r, r = schedN b k ++ z.drop (16 + k) := ⟨_, rfl⟩
      have hrl : r.length = 64 := by rw [hrr]; simp [hr]; omega
      have hri : ∀ i, i < 16 + k → r[i]? = some ((schedN b k)[i]?.getD 0) := by
        intro i hi
        rw [hrr, List.getElem?_append_left (by omega)]
        rw [List.getElem?_eq_getElem (by omega)]
        rfl
      have hld := fun i (hi : i < 16 + k) => ld_row (f := u32) (fun _ => rfl) (l := r) (i := i) (k := 1) (st := 1) (h := [⟨1, some (z.map u32)⟩, ⟨1, some (r.map u32)⟩]) (by simp) (hri i hi)
      have l1 := hld (k + 1) (by omega)
      have l2 := hld (k + 14) (by omega)
      have l3 := hld k (by omega)
      have l4 := hld (k + 9) (by omega)
      have hia := fun i (hi : i < 64) => iaA_ptr (k := 1) (off := 0) (st := 1) hi
      simp only [Nat.zero_add] at hia
      have a1 := hia (k + 1) (by omega)
      have a2 := hia (k + 14) (by omega)
      have a3 := hia k (by omega)
      have a4 := hia (k + 9) (by omega)
      have a5 := hia (16 + k) (by omega)
      have s1 : intV .sub (i64 ((16 + k : Nat) : Int)) (i64 15) = some (i64 ((k + 1 : Nat) : Int)) := by
        have e : ((16 + k : Nat) : Int) - 15 = ((k + 1 : Nat) : Int) := by omega
        rw [i64_sub (by omega) (by omega), e]
      have s2 : intV .sub (i64 ((16 + k : Nat) : Int)) (i64 2) = some (i64 ((k + 14 : Nat) : Int)) := by
        have e : ((16 + k : Nat) : Int) - 2 = ((k + 14 : Nat) : Int) := by omega
        rw [i64_sub (by omega) (by omega), e]
      have s3 : intV .sub (i64 ((16 + k : Nat) : Int)) (i64 16) = some (i64 (k : Int)) := by
        have e : ((16 + k : Nat) : Int) - 16 = (k : Int) := by omega
        rw [i64_sub (by omega) (by omega), e]
      have s4 : intV .sub (i64 ((16 + k : Nat) : Int)) (i64 7) = some (i64 ((k + 9 : Nat) : Int)) := by
        have e : ((16 + k : Nat) : Int) - 7 = ((k + 9 : Nat) : Int) := by omega
        rw [i64_sub (by omega) (by omega), e]
      have s5 : intV .add (i64 ((16 + k : Nat) : Int)) (i64 1) = some (i64 ((16 + (k + 1) : Nat) : Int)) := by
        have e : ((16 + k : Nat) : Int) + 1 = ((16 + (k + 1) : Nat) : Int) := by omega
        rw [i64_add (by omega) (by omega), e]
      have t7 : ∀ x h, runF (tD (n + 2)) k_sha_turn {} [u32 x, .int .i64 7] h = some (u32 (rotr x 7), h) := fun x h => run_turn n x 7 (by omega) (by omega) h
      have t18 : ∀ x h, runF (tD (n + 2)) k_sha_turn {} [u32 x, .int .i64 18] h = some (u32 (rotr x 18), h) := fun x h => run_turn n x 18 (by omega) (by omega) h
      have t17 : ∀ x h, runF (tD (n + 2)) k_sha_turn {} [u32 x, .int .i64 17] h = some (u32 (rotr x 17), h) := fun x h => run_turn n x 17 (by omega) (by omega) h
      have t19 : ∀ x h, runF (tD (n + 2)) k_sha_turn {} [u32 x, .int .i64 19] h = some (u32 (rotr x 19), h) := fun x h => run_turn n x 19 (by omega) (by omega) h
      have hlt : (((16 + k : Nat) : Int) < 64) := by omega
      have hnew : r.set (16 + k) ((schedN b k)[k]?.getD 0 + ((rotr ((schedN b k)[k + 1]?.getD 0) 7 ^^^ rotr ((schedN b k)[k + 1]?.getD 0) 18) ^^^ ((schedN b k)[k + 1]?.getD 0) >>> 3) + (schedN b k)[k + 9]?.getD 0 + ((rotr ((schedN b k)[k + 14]?.getD 0) 17 ^^^ rotr ((schedN b k)[k + 14]?.getD 0) 19) ^^^ ((schedN b k)[k + 14]?.getD 0) >>> 10)) = schedN b (k + 1) ++ z.drop (16 + (k + 1)) := by
        have e2 : z.drop (16 + k) = z[16 + k]'(by omega) :: z.drop (16 + k + 1) := (List.drop_eq_getElem_cons (by omega))
        rw [hrr, e2, List.set_append_right _ _ (by omega)]
        have : 16 + k - (schedN b k).length = 0 := by omega
        rw [this, List.set_cons_zero]
        simp only [schedN, List.append_assoc]
        rfl
      have hst := fun v => st_row (f := u32) (fun _ => rfl) (fun _ => rfl) (fun _ => rfl) (l := r) (i := 16 + k) (k := 1) (st := 1) (a := v) (h := [⟨1, some (z.map u32)⟩, ⟨1, some (r.map u32)⟩]) (by simp) (by omega)
      simp only [hset] at hst
      rw [← hrr] at hs
      rw [← hnew]
      obtain ⟨i, hi⟩ : ∃ i, i = 16 + k := ⟨_, rfl⟩
      simp only [← hi] at hs a5 s1 s2 s3 s4 s5 hlt hst ⊢
      obtain ⟨i', hi'⟩ : ∃ i', i' = 16 + (k + 1) := ⟨_, rfl⟩
      rw [← hi'] at s5
      rw [← hi']
      obtain ⟨k1, hk1⟩ : ∃ j, j = k + 1 := ⟨_, rfl⟩
      obtain ⟨k2, hk2⟩ : ∃ j, j = k + 14 := ⟨_, rfl⟩
      obtain ⟨k3, hk3⟩ : ∃ j, j = k + 9 := ⟨_, rfl⟩
      simp only [← hk1, ← hk2, ← hk3] at s1 s2 s4 a1 a2 a4 l1 l2 l4 ⊢
      simp at hs
      simp -implicitDefEqProofs [-stV_ptr, -ldV_ptr, sha_spread_L1, hs, hlt, s1, s2, s3, s4, s5, a1, a2, a3, a4, a5, l1, l2, l3, l4, t7, t18, t17, t19, u32_shr64, hst]
    · rintro s hs
      have hq' : schedN b 48 ++ z.drop (16 + 48) = q := by rw [List.drop_of_length_le (by omega), List.append_nil, hq]
      rw [hq'] at hs
      have hld : ldV 64 (.ptr 1 0 1) [⟨1, some (z.map u32)⟩, ⟨1, some (q.map u32)⟩] = some (.agg (q.map u32)) := by
        have : (q.map u32).take 64 = q.map u32 := by rw [List.take_of_length_le (by simp; omega)]
        simp [hql, this]
      have hst : stV 64 (.ptr 0 0 1) (.agg (q.map u32)) [⟨1, some (z.map u32)⟩, ⟨1, some (q.map u32)⟩] = some [⟨1, some (q.map u32)⟩, ⟨1, some (q.map u32)⟩] := by
        have : (z.map u32).drop 64 = [] := by rw [List.drop_of_length_le (by simp; omega)]
        simp [hql, hzl, this]
      have hld2 : ldV 64 (.ptr 0 0 1) [⟨1, some (q.map u32)⟩, ⟨1, some (q.map u32)⟩] = some (.agg (q.map u32)) := by
        have : (q.map u32).take 64 = q.map u32 := by rw [List.take_of_length_le (by simp; omega)]
        simp [hql, this]
      simp at hs
      simp -implicitDefEqProofs [-stV_ptr, -ldV_ptr, sha_spread_L1, hs, hld, hst, hld2]
theorem sha_spread (n : Nat) (b : List (BitVec 8)) (hb : b.length = 64) : RetD (n + 3) k_sha_spread [bytesV b] (.agg ((schedN b 48).map u32)) := by
  have hn : (V.agg ((schedN b 48).map u32)).noRef = true := by rw [noRef_agg]; exact noRef_map (fun _ => rfl) _
  obtain ⟨q, hq⟩ : ∃ q, q = schedN b 48 := ⟨_, rfl⟩
  have hW := sha_spread_W n b hb
  rw [← hq] at hW hn ⊢
  obtain ⟨o, ho, hw⟩ := hW
  cases o with
  | normal s => exact hw.elim
  | exit i s => obtain ⟨h, e⟩ := hw; simp at e
  | ret v h =>
    obtain ⟨h', e⟩ := hw
    injection e with e1 e2
    subst e1
    refine ⟨rfl, hn, h, ?_⟩
    rw [sha_spread_eq]
    have : ([] ++ pad 2 : Heap) = [⟨0, none⟩, ⟨0, none⟩] := rfl
    rw [this, ho]
    rfl
theorem st_set {cs : List V} {i k st : Nat} {x : V} {h : Heap} (hx : fitsV 0 x = true) (ho : x.okCell = true) (hcx : x.cells = [x]) (hc : cellsAt h k st = some cs) (hi : i < cs.length) :
    stV 0 (.ptr k i st) x h = some (hset h k ⟨st, some (cs.set i x)⟩) := by
  have := put_map (fun v : V => v) (l := cs) (i := i) (a := x) hi
  rw [stV_ptr, hc]
  simp only [Option.bind_some, hx, hcx, Bool.true_and, List.all_cons, ho, List.all_nil, csz, if_pos]
  rw [if_pos (by simp; omega)]
  simp only [List.map_id_fun', id_eq] at this
  rw [this]
def keysL : List (BitVec 32) := [0x428a2f98, 0x71374491, 0xb5c0fbcf, 0xe9b5dba5, 0x3956c25b, 0x59f111f1, 0x923f82a4, 0xab1c5ed5,
  0xd807aa98, 0x12835b01, 0x243185be, 0x550c7dc3, 0x72be5d74, 0x80deb1fe, 0x9bdc06a7, 0xc19bf174,
  0xe49b69c1, 0xefbe4786, 0x0fc19dc6, 0x240ca1cc, 0x2de92c6f, 0x4a7484aa, 0x5cb0a9dc, 0x76f988da,
  0x983e5152, 0xa831c66d, 0xb00327c8, 0xbf597fc7, 0xc6e00bf3, 0xd5a79147, 0x06ca6351, 0x14292967,
  0x27b70a85, 0x2e1b2138, 0x4d2c6dfc, 0x53380d13, 0x650a7354, 0x766a0abb, 0x81c2c92e, 0x92722c85,
  0xa2bfe8a1, 0xa81a664b, 0xc24b8b70, 0xc76c51a3, 0xd192e819, 0xd6990624, 0xf40e3585, 0x106aa070,
  0x19a4c116, 0x1e376c08, 0x2748774c, 0x34b0bcb5, 0x391c0cb3, 0x4ed8aa4a, 0x5b9cca4f, 0x682e6ff3,
  0x748f82ee, 0x78a5636f, 0x84c87814, 0x8cc70208, 0x90befffa, 0xa4506ceb, 0xbef9a3f7, 0xc67178f2]
theorem gD_keys : gD g_sha_keys = .fz (.agg (keysL.map u32)) := by kernel_rfl
/-- One round. -/
def roundL : List (BitVec 32) → BitVec 32 → BitVec 32 → List (BitVec 32)
  | [a, b, c, d, e, f, g, h], k, w =>
    let t := h + ((rotr e 6 ^^^ rotr e 11) ^^^ rotr e 25) + ((e &&& f) ^^^ (~~~e &&& g)) + k + w
    let u := ((rotr a 2 ^^^ rotr a 13) ^^^ rotr a 22) + (((a &&& b) ^^^ (a &&& c)) ^^^ (b &&& c))
    [t + u, a, b, c, d + t, e, f, g]
  | l, _, _ => l
theorem roundL_len (l : List (BitVec 32)) (k w : BitVec 32) (h : l.length = 8) : (roundL l k w).length = 8 := by
  unfold roundL
  split
  · rfl
  · exact h
def roundsL (h w : List (BitVec 32)) (i : Nat) : List (BitVec 32) := ((keysL.zip w).take i).foldl (fun l p => roundL l p.1 p.2) h
def mixL (h : List (BitVec 32)) (b : List (BitVec 8)) : List (BitVec 32) := List.zipWith (· + ·) h (roundsL h (schedN b 48) 64)
theorem eight {l : List (BitVec 32)} (h : l.length = 8) : ∃ a b c d e f g i, l = [a, b, c, d, e, f, g, i] := by
  match l, h with
  | [a, b, c, d, e, f, g, i], _ => exact ⟨a, b, c, d, e, f, g, i, rfl⟩
theorem roundsL_len (q : List (BitVec 32)) (i : Nat) {H : List (BitVec 32)} (hH : H.length = 8) : (roundsL H q i).length = 8 := by
  unfold roundsL
  generalize (keysL.zip q).take i = l
  induction l generalizing H with
  | nil => exact hH
  | cons p l ih => exact ih (roundL_len _ _ _ hH)
theorem sha_mix_W (n : Nat) (H : List (BitVec 32)) (hH : H.length = 8) (b : List (BitVec 8)) (hb : b.length = 64) (left nv : V) :
    W (sha_StateP_mix_B (n + 3) (.ptr 0 0 0) (bytesV b) [⟨0, some (H.map u32 ++ [left, nv])⟩, ⟨0, none⟩, ⟨0, none⟩]) (fun s => ∃ rest, s.h = ⟨0, some ((mixL H b).map u32 ++ [left, nv])⟩ :: rest) (fun _ => False) := by
  have hsp : ∀ h, runF (tD (n + 3)) k_sha_spread {} [bytesV b] h = some (.agg ((schedN b 48).map u32), h) := fun h => (sha_spread n b hb).run h
  have hmix : mixL H b = List.zipWith (· + ·) H (roundsL H (schedN b 48) 64) := rfl
  rw [hmix]
  have hql := schedN_len b 48
  obtain ⟨q, hq⟩ : ∃ q, q = schedN b 48 := ⟨_, rfl⟩
  rw [← hq] at hsp hql ⊢
  obtain ⟨K, hK⟩ : ∃ K, K = keysL := ⟨_, rfl⟩
  have hKl : K.length = 64 := by rw [hK]; rfl
  have hgl := gD_keys
  rw [← hK] at hgl
  have hql : q.length = 64 := hql
  obtain ⟨z, hz⟩ : ∃ z, z = List.replicate 64 0#32 := ⟨_, rfl⟩
  have hzl : z.length = 64 := by rw [hz]; simp
  have hrep : rep 64 [u32 0#32] = z.map u32 := by rw [hz]; exact rep_map u32 0#32 64
  have hzd : z.drop 64 = [] := List.drop_of_length_le (by omega)
  obtain ⟨Z, hZ⟩ : ∃ Z, Z = List.zipWith (· + ·) H (roundsL H q 64) := ⟨_, rfl⟩
  rw [← hZ]
  obtain ⟨a, b', c, d, e, f, g, h, hHe⟩ := eight hH
  simp -implicitDefEqProofs [sha_StateP_mix_B, hsp, hrep, hzl, hzd, nilV, hgl, hKl, hHe, hql, show z.length ≤ 64 by omega]
  refine W_up 64 (fun i s => At s [(0, .ptr 0 0 0), (4, .ptr 1 0 1), (5, .ptr 2 0 1), (19, .agg (K.map u32)), (20, i64 i)] [⟨0, some (H.map u32 ++ [left, nv])⟩, ⟨1, some (q.map u32)⟩, ⟨1, some ((roundsL H q i).map u32)⟩]) ?_ ?_ (Nat.zero_le _) (by simp [hHe, roundsL]; omega)
  · rintro i s hi hs
    have ha := i64_inc hi (by omega)
    have hi' : (i : Int) < 64 := by omega
    obtain ⟨k, hk, _⟩ := getE (l := K) (i := i) (by omega)
    obtain ⟨w, hw, _⟩ := getE (l := q) (i := i) (by omega)
    have hsucc : roundsL H q (i + 1) = roundL (roundsL H q i) k w := by
      have hzi : (K.zip q)[i]? = some (k, w) := by rw [List.getElem?_zip_eq_some]; exact ⟨hk, hw⟩
      obtain ⟨h1, h2⟩ := List.getElem?_eq_some_iff.1 hzi
      unfold roundsL
      rw [← hK, List.take_succ_eq_append_getElem h1, List.foldl_append, h2]
      rfl
    obtain ⟨v0, v1, v2, v3, v4, v5, v6, v7, hv⟩ := eight (roundsL_len q i hH)
    rw [hsucc, hv]
    rw [hv] at hs
    have hix : ixA 64 0 (.agg (K.map u32)) (i64 (i : Int)) = some (u32 k) := by
      have : (K.map u32)[i]? = some (u32 k) := by simp [hk]
      simp [ixA, hi', this]
    have hia := iaA_ptr (k := 1) (off := 0) (st := 1) hi
    simp only [Nat.zero_add] at hia
    have hld := fun s0 s2 => ld_row (f := u32) (fun _ => rfl) (l := q) (i := i) (k := 1) (st := 1) (h := [s0, ⟨1, some (q.map u32)⟩, s2]) (by simp) hw
    have t6 : ∀ x h, runF (tD (n + 3)) k_sha_turn {} [u32 x, .int .i64 6] h = some (u32 (rotr x 6), h) := fun x h => run_turn (n + 1) x 6 (by omega) (by omega) h
    have t11 : ∀ x h, runF (tD (n + 3)) k_sha_turn {} [u32 x, .int .i64 11] h = some (u32 (rotr x 11), h) := fun x h => run_turn (n + 1) x 11 (by omega) (by omega) h
    have t25 : ∀ x h, runF (tD (n + 3)) k_sha_turn {} [u32 x, .int .i64 25] h = some (u32 (rotr x 25), h) := fun x h => run_turn (n + 1) x 25 (by omega) (by omega) h
    have t2 : ∀ x h, runF (tD (n + 3)) k_sha_turn {} [u32 x, .int .i64 2] h = some (u32 (rotr x 2), h) := fun x h => run_turn (n + 1) x 2 (by omega) (by omega) h
    have t13 : ∀ x h, runF (tD (n + 3)) k_sha_turn {} [u32 x, .int .i64 13] h = some (u32 (rotr x 13), h) := fun x h => run_turn (n + 1) x 13 (by omega) (by omega) h
    have t22 : ∀ x h, runF (tD (n + 3)) k_sha_turn {} [u32 x, .int .i64 22] h = some (u32 (rotr x 22), h) := fun x h => run_turn (n + 1) x 22 (by omega) (by omega) h
    simp at hs
    simp -implicitDefEqProofs [sha_StateP_mix_L0, hs, hi', hix, hia, hk, hw, t6, t11, t25, t2, t13, t22, iaA, slA, bndV, copyV, srcV, okF, fpP, disjL, ha]
    rfl
  · rintro s hs
    obtain ⟨v, hve⟩ : ∃ v, v = roundsL H q 64 := ⟨_, rfl⟩
    have hvl : v.length = 8 := by rw [hve]; exact roundsL_len q 64 hH
    rw [← hve] at hs hZ
    simp at hs
    simp -implicitDefEqProofs [sha_StateP_mix_L0, hs]
    clear hs
    have hZl : Z.length = 8 := by rw [hZ]; simp [hH, hvl]
    refine W_up 8 (fun i s => At s [(0, .ptr 0 0 0), (5, .ptr 2 0 1), (93, i64 i)] [⟨0, some ((Z.take i ++ H.drop i).map u32 ++ [left, nv])⟩, ⟨1, some (q.map u32)⟩, ⟨1, some (v.map u32)⟩]) ?_ ?_ (Nat.zero_le _) (by simp)
    · rintro i s hi hs
      have ha := i64_inc hi (by omega)
      have hi' : (i : Int) < 8 := by omega
      obtain ⟨x, hx, _⟩ := getE (l := H) (i := i) (by omega)
      obtain ⟨y, hy, _⟩ := getE (l := v) (i := i) (by omega)
      obtain ⟨r, hr⟩ : ∃ r, r = Z.take i ++ H.drop i := ⟨_, rfl⟩
      have hrl : r.length = 8 := by rw [hr]; simp; omega
      have hri : r[i]? = some x := by rw [hr, List.getElem?_append_right (by simp; omega)]; simp [hx, hZl, Nat.min_eq_left (Nat.le_of_lt hi)]
      have hrs : r.set i (x + y) = Z.take (i + 1) ++ H.drop (i + 1) := by
        have e1 : Z[i]? = some (x + y) := by rw [hZ, List.getElem?_zipWith, hx, hy]
        obtain ⟨h1, h2⟩ := List.getElem?_eq_some_iff.1 e1
        have e2 : H.drop i = H[i]'(by omega) :: H.drop (i + 1) := (List.drop_eq_getElem_cons (by omega))
        rw [hr, e2, List.take_succ_eq_append_getElem h1, h2, List.set_append_right _ _ (by simp; omega)]
        have : i - (Z.take i).length = 0 := by simp; omega
        rw [this, List.set_cons_zero, List.append_assoc]
        rfl
      have hcs : (r.map u32 ++ [left, nv])[i]? = some (u32 x) := by rw [List.getElem?_append_left (by simp; omega)]; simp [hri]
      have hst := st_set (cs := r.map u32 ++ [left, nv]) (i := i) (k := 0) (st := 0) (x := u32 (x + y)) (h := [⟨0, some (r.map u32 ++ [left, nv])⟩, ⟨1, some (q.map u32)⟩, ⟨1, some (v.map u32)⟩]) rfl rfl rfl (by simp) (by simp; omega)
      have hset : (r.map u32 ++ [left, nv]).set i (u32 (x + y)) = (r.set i (x + y)).map u32 ++ [left, nv] := by rw [List.set_append_left _ _ (by simp; omega)]; simp
      rw [hset, hrs] at hst
      simp only [Mini.hset] at hst
      have i1 := iaA_ptr (len := 8) (k := 0) (off := 0) (st := 0) hi
      have i2 := iaA_ptr (len := 8) (k := 2) (off := 0) (st := 1) hi
      simp only [Nat.zero_add] at i1 i2
      have l1 : ldV 0 (.ptr 0 i 0) [⟨0, some (r.map u32 ++ [left, nv])⟩, ⟨1, some (q.map u32)⟩, ⟨1, some (v.map u32)⟩] = some (u32 x) := by rw [ldV_ptr, cellsAt_0, if_pos rfl, Option.bind_some, takeV_one, hcs]; rfl
      have l2 : ldV 0 (.ptr 2 i 1) [⟨0, some (r.map u32 ++ [left, nv])⟩, ⟨1, some (q.map u32)⟩, ⟨1, some (v.map u32)⟩] = some (u32 y) := by simp [hy]
      rw [← hr] at hs
      simp only [At_cons, At_nil] at hs
      simp -implicitDefEqProofs [-ldV_ptr, -stV_ptr, sha_StateP_mix_L1, hs, hi', nilV, i1, i2, l1, l2, hst, ha, okF, fpP, disjL]
    · rintro s hs
      have e1 : Z.take 8 ++ H.drop 8 = Z := by rw [List.take_of_length_le (by omega), List.drop_of_length_le (by omega), List.append_nil]
      rw [e1] at hs
      simp at hs
      simp -implicitDefEqProofs [sha_StateP_mix_L1, hs]
end Mini
end
section
namespace Mini
open Go
set_option linter.unusedSimpArgs false
set_option linter.unusedVariables false
theorem u64_bits (a : BitVec 64) : BitVec.ofInt 64 (a.toNat : Int) = a := by simp
theorem wrap_u64 (n : Int) : IntKind.u64.wrap n = ((BitVec.ofInt 64 n).toNat : Int) := by
  have : IntKind.u64.wrap n = n % 18446744073709551616 := by simp [IntKind.wrap, IntKind.signed, IntKind.bits]
  rw [this, BitVec.toNat_ofInt]
  omega
@[simp] theorem u64_add (a b : BitVec 64) : intV .add (u64 a) (u64 b) = some (u64 (a + b)) := by
  show some (V.int .u64 (IntKind.u64.wrap ((a.toNat : Int) + b.toNat))) = _
  rw [wrap_u64]
  have : (BitVec.ofInt 64 ((a.toNat : Int) + b.toNat)).toNat = (a + b).toNat := by
    rw [BitVec.toNat_ofInt, BitVec.toNat_add]
    omega
  rw [this]
  rfl
@[simp] theorem u64_mul (a b : BitVec 64) : intV .mul (u64 a) (u64 b) = some (u64 (a * b)) := by
  show some (V.int .u64 (IntKind.u64.wrap ((a.toNat : Int) * b.toNat))) = _
  rw [wrap_u64]
  have : (BitVec.ofInt 64 ((a.toNat : Int) * b.toNat)).toNat = (a * b).toNat := by
    rw [BitVec.toNat_ofInt, BitVec.toNat_mul]
    have : ((a.toNat : Int) * b.toNat) = ((a.toNat * b.toNat : Nat) : Int) := by simp
    rw [this]
    omega
  rw [this]
  rfl
theorem i64_to_u64 (m : Nat) : toIntV .u64 (i64 (m : Int)) = some (u64 (BitVec.ofNat 64 m)) := by
  simp only [toIntV, wrap_u64, u64, Option.some.injEq, V.int.injEq, true_and]
  congr 1
/-- What bytes may come from, where a state is written. -/
inductive BSrc (X : Slot) : V → List (BitVec 8) → Prop
  | nils : BSrc X .nils []
  | vec (L : List (BitVec 8)) : BSrc X (bytesV L) L
  | sl (L : List (BitVec 8)) (st : Nat) (h : X = ⟨st, some (L.map u8)⟩) (c : Nat) : BSrc X (.sl 1 0 L.length c 0 st) L
theorem BSrc.src {X : Slot} {v : V} {L : List (BitVec 8)} (h : BSrc X v L) (s0 : Slot) (rest : Heap) : srcV 0 v (s0 :: X :: rest) = some (L.length, L.map u8) ∧ lenV v = some (i64 L.length) := by
  cases h with
  | nils => exact ⟨rfl, rfl⟩
  | vec L => exact ⟨src_vec u8 (fun _ => rfl) (fun _ => rfl) L _, by simp⟩
  | sl L st h c =>
    subst h
    have : (L.map u8).take L.length = L.map u8 := by rw [List.take_of_length_le (by simp)]
    exact ⟨by simp [srcV, this], rfl⟩
theorem app_2 {lim st id : Nat} {x : V} {new : List (BitVec 8)} {cs : List (BitVec 8)} {s0 X s3 s4 : Slot} (hs : srcV 0 x [s0, X, ⟨st, some (cs.map u8)⟩, s3, s4] = some (new.length, new.map u8)) (hlim : cs.length + new.length ≤ lim) :
    ∃ st', appV (some id) lim 0 (.sl 2 0 cs.length cs.length 0 st) x [s0, X, ⟨st, some (cs.map u8)⟩, s3, s4] = some (.sl 2 0 (cs ++ new).length (cs ++ new).length 0 st', [s0, X, ⟨st', some ((cs ++ new).map u8)⟩, s3, s4]) := by
  cases new with
  | nil =>
    refine ⟨st, ?_⟩
    unfold appV
    rw [hs]
    simp at hlim ⊢
    omega
  | cons a new =>
    refine ⟨st + 1, ?_⟩
    rw [app_rows (cs := cs.map u8) hs (okC_u8 _) (by simp) (by simp) (by simp) hlim]
    simp
/-- Blocks are taken. -/
def eatL (H : List (BitVec 32)) (all : List (BitVec 8)) : List (BitVec 32) × List (BitVec 8) := if 64 ≤ all.length then eatL (mixL H (all.take 64)) (all.drop 64) else (H, all)
termination_by all.length
decreasing_by simp; omega
theorem mixL_len (H : List (BitVec 32)) (b : List (BitVec 8)) (h : H.length = 8) : (mixL H b).length = 8 := by
  simp [mixL, h, roundsL_len _ _ h]
theorem eatL_len (H : List (BitVec 32)) (all : List (BitVec 8)) (h : H.length = 8) : (eatL H all).1.length = 8 ∧ (eatL H all).2.length < 64 := by
  induction hn : all.length using Nat.strongRecOn generalizing H all with
  | ind n ih =>
    unfold eatL
    split
    · exact ih (all.drop 64).length (by simp; omega) _ _ (mixL_len _ _ h) rfl
    · exact ⟨h, by simp; omega⟩
def stC (H : List (BitVec 32)) (lv : V) (cnt : BitVec 64) : List V := H.map u32 ++ [lv, u64 cnt]
theorem stC_8 {H : List (BitVec 32)} (h : H.length = 8) (lv : V) (cnt : BitVec 64) : (stC H lv cnt)[8]? = some lv ∧ (stC H lv cnt)[9]? = some (u64 cnt) ∧ (stC H lv cnt).length = 10 ∧ (∀ x, (stC H lv cnt).set 8 x = stC H x cnt) ∧ ∀ x, (stC H lv cnt).set 9 (u64 x) = stC H lv x := by
  obtain ⟨a, b, c, d, e, f, g, i, rfl⟩ := eight h
  exact ⟨rfl, rfl, rfl, fun _ => rfl, fun _ => rfl⟩
theorem run_mix (n : Nat) (H : List (BitVec 32)) (hH : H.length = 8) (b : List (BitVec 8)) (hb : b.length = 64) (lv : V) (cnt : BitVec 64) (st0 : Nat) (rest : Heap) :
    ∃ lv', runF (tD (n + 4)) k_sha_StateP_mix { ks := [0] } [.ptr 0 0 st0, bytesV b] (⟨st0, some (stC H lv cnt)⟩ :: rest) = some (.tup [], ⟨st0, some (stC (mixL H b) lv' cnt)⟩ :: rest) := by
  have hren : ∀ f (H : List (BitVec 32)) lv, renL f (stC H lv cnt) = stC H (lv.ren f) cnt := by
    intro f H lv
    unfold stC
    rw [renL_map, List.map_append]
    congr 1
    · rw [← renL_map]
      exact (noRef_ren _).2 _ (noRef_map (fun _ => rfl) _)
  obtain ⟨o, ho, hw⟩ := sha_mix_W n H hH b hb (lv.ren (entM [0] (⟨st0, some (stC H lv cnt)⟩ :: rest))) (u64 cnt)
  cases o with
  | exit i s => exact hw.elim
  | ret v h => exact hw.elim
  | normal s =>
    obtain ⟨r, hr⟩ := hw
    have e : dn PR gD anD (n + 4) k_sha_StateP_mix (renL (entM [0] (⟨st0, some (stC H lv cnt)⟩ :: rest)) [.ptr 0 0 st0, bytesV b]) (entH [0] (⟨st0, some (stC H lv cnt)⟩ :: rest)) = some (.tup [], ⟨0, some (stC (mixL H b) (lv.ren (entM [0] (⟨st0, some (stC H lv cnt)⟩ :: rest))) cnt)⟩ :: r) := by
      have e1 : renL (entM [0] (⟨st0, some (stC H lv cnt)⟩ :: rest)) [.ptr 0 0 st0, bytesV b] = [.ptr 0 0 0, bytesV b] := by
        simp [renL, V.ren, entM, hget, idxIn, (noRef_ren _).1 (bytesV b) rfl]
      have e2 : entH [0] (⟨st0, some (stC H lv cnt)⟩ :: rest) = [⟨0, some (stC H (lv.ren (entM [0] (⟨st0, some (stC H lv cnt)⟩ :: rest))) cnt)⟩] := by
        simp [entH, hget, hren]
      rw [e1, e2, sha_StateP_mix_eq]
      have e3 : ∀ x : Slot, ([x] ++ pad 2 : Heap) = [x, ⟨0, none⟩, ⟨0, none⟩] := fun _ => rfl
      have ho' : sha_StateP_mix_B (n + 3) (.ptr 0 0 0) (bytesV b) [⟨0, some (stC H (lv.ren (entM [0] (⟨st0, some (stC H lv cnt)⟩ :: rest))) cnt)⟩, ⟨0, none⟩, ⟨0, none⟩] = _ := ho
      rw [e3, ho', fin_normal0, hr]
      rfl
    have := runF_dn (P := PR) (G := gD) (An := anD) (a := { ks := [0] }) rfl (by rfl) e
    refine ⟨(lv.ren (entM [0] (⟨st0, some (stC H lv cnt)⟩ :: rest))).ren (exM [0] [] (⟨st0, some (stC H lv cnt)⟩ :: rest)), this.trans ?_⟩
    simp only [exO, exK, hget, hset, renS, Option.map_some, hren, Nat.zero_add]
    rfl
theorem sha_Write (n : Nat) (H : List (BitVec 32)) (hH : H.length = 8) (X : Slot) (lv bv : V) (L B : List (BitVec 8)) (cnt : BitVec 64) (hl : BSrc X lv L) (hb : BSrc X bv B) (hlen : L.length + B.length < 1000000) :
    ∃ rest, dn PR gD anD (n + 5) k_sha_StateP_Write [.ptr 0 0 0, bv] [⟨0, some (stC H lv cnt)⟩, X] = some (.tup [], ⟨0, some (stC (eatL H (L ++ B)).1 (bytesV (eatL H (L ++ B)).2) (cnt + BitVec.ofNat 64 B.length))⟩ :: X :: rest) := by
  suffices h : W (sha_StateP_Write_B (n + 4) (.ptr 0 0 0) bv [⟨0, some (stC H lv cnt)⟩, X, ⟨0, none⟩, ⟨0, none⟩, ⟨0, none⟩]) (fun s => ∃ rest, s.h = ⟨0, some (stC (eatL H (L ++ B)).1 (bytesV (eatL H (L ++ B)).2) (cnt + BitVec.ofNat 64 B.length))⟩ :: X :: rest) (fun _ => False) by
    obtain ⟨o, ho, hw⟩ := h
    cases o with
    | exit i s => exact hw.elim
    | ret v h => exact hw.elim
    | normal s =>
      obtain ⟨r, hr⟩ := hw
      refine ⟨r, ?_⟩
      rw [sha_StateP_Write_eq]
      have e3 : ([⟨0, some (stC H lv cnt)⟩, X] ++ pad 3 : Heap) = [⟨0, some (stC H lv cnt)⟩, X, ⟨0, none⟩, ⟨0, none⟩, ⟨0, none⟩] := rfl
      rw [e3, ho, fin_normal0, hr]
  obtain ⟨c8, c9, cl, cs8, cs9⟩ := stC_8 hH lv cnt
  obtain ⟨d8, d9, dl, ds8, ds9⟩ := stC_8 hH lv (cnt + BitVec.ofNat 64 B.length)
  have hbl := (hb.src ⟨0, none⟩ []).2
  have l9 : ∀ rest, ldV 0 (.ptr 0 9 0) (⟨0, some (stC H lv cnt)⟩ :: rest) = some (u64 cnt) := fun rest => by simp [c9]
  have s9 : ∀ rest x, stV 0 (.ptr 0 9 0) (u64 x) (⟨0, some (stC H lv cnt)⟩ :: rest) = some (⟨0, some (stC H lv x)⟩ :: rest) := fun rest x => by
    rw [st_set (cs := stC H lv cnt) rfl rfl rfl (by simp) (by omega), cs9]; rfl
  have hlv : lv.isAgg = false := by cases hl <;> rfl
  have l8 : ∀ rest, ldV 0 (.ptr 0 8 0) (⟨0, some (stC H lv (cnt + BitVec.ofNat 64 B.length))⟩ :: rest) = some lv := fun rest => by simp [d8, hlv]
  have hnew : ∀ s0, newSl (some 2) 0 0 [] [s0, X, ⟨0, none⟩, ⟨0, none⟩, ⟨0, none⟩] = some (.sl 2 0 0 0 0 1, [s0, X, ⟨1, some []⟩, ⟨0, none⟩, ⟨0, none⟩]) := fun _ => rfl
  obtain ⟨st1, ha1⟩ := app_2 (lim := 70368744177664) (st := 1) (id := 3) (x := lv) (new := L) (cs := []) (s0 := ⟨0, some (stC H lv (cnt + BitVec.ofNat 64 B.length))⟩) (X := X) (s3 := ⟨0, none⟩) (s4 := ⟨0, none⟩) (hl.src _ _).1 (by simp; omega)
  obtain ⟨st2, ha2⟩ := app_2 (lim := 70368744177664) (st := st1) (id := 4) (x := bv) (new := B) (cs := L) (s0 := ⟨0, some (stC H lv (cnt + BitVec.ofNat 64 B.length))⟩) (X := X) (s3 := ⟨0, none⟩) (s4 := ⟨0, none⟩) (hb.src _ _).1 (by omega)
  have hfr := frz_rowG u8 (fun _ _ => rfl) (fun _ => rfl) (l := L ++ B) (k := 2) (c := (L ++ B).length) (st := st2) (h := [⟨0, some (stC H lv (cnt + BitVec.ofNat 64 B.length))⟩, X, ⟨st2, some ((L ++ B).map u8)⟩, ⟨0, none⟩, ⟨0, none⟩]) (by simp)
  simp only [List.nil_append, List.map_nil, List.length_nil] at ha1
  obtain ⟨all, hall⟩ : ∃ all, all = L ++ B := ⟨_, rfl⟩
  rw [← hall] at ha2 hfr ⊢
  have hall' : all.length < 1000000 := by rw [hall]; simpa using hlen
  have hfr : frzV 8 (.sl 2 0 all.length all.length 0 st2) [⟨0, some (stC H lv (cnt + BitVec.ofNat 64 B.length))⟩, X, ⟨st2, some (all.map u8)⟩, ⟨0, none⟩, ⟨0, none⟩] = some (bytesV all, [⟨0, some (stC H lv (cnt + BitVec.ofNat 64 B.length))⟩, X, ⟨st2 + 1, none⟩, ⟨0, none⟩, ⟨0, none⟩]) := hfr
  have hfill : fillV (rep 0 [.int .u8 0]) [] = some [] := rfl
  simp -implicitDefEqProofs only [sha_StateP_Write_B, nilV, Option.bind_some, faV_ptr, Nat.zero_add, l9, hbl, i64_to_u64, u64_add, s9, hfill, hnew, l8, ha1, ha2, hfr]
  simp -implicitDefEqProofs only [W_seq, W_blk]
  refine W_loop (fun m s => ∃ (H' : List (BitVec 32)) (a : List (BitVec 8)) (lv' : V) (rest : Heap), H'.length = 8 ∧ m = a.length ∧ a.length ≤ all.length ∧ eatL H' a = eatL H all ∧ At s [(0, .ptr 0 0 0), (4, bytesV a)] (⟨0, some (stC H' lv' (cnt + BitVec.ofNat 64 B.length))⟩ :: X :: rest)) ?_ all.length _ ⟨H, all, lv, _, hH, rfl, Nat.le_refl _, rfl, by simp; rfl⟩
  rintro m s ⟨H', a, lv', rest, hH', rfl, hal, hea, hs⟩
  simp only [At_cons, At_nil] at hs
  obtain ⟨hs0, hs4, hsh⟩ := hs
  by_cases h64 : 64 ≤ a.length
  · have h64' : (64 : Int) ≤ a.length := by omega
    obtain ⟨lv'', hmix⟩ := run_mix n H' hH' (a.take 64) (by simp; omega) lv' (cnt + BitVec.ofNat 64 B.length) 0 (X :: rest)
    have sl1 : slS 0 (bytesV a) none (some (.int .i64 64)) = some (bytesV (a.take 64)) := slS_bytes_hi (i := 64) h64
    have sl2 : slS 0 (bytesV a) (some (.int .i64 64)) none = some (bytesV (a.drop 64)) := slS_bytes (i := 64) h64
    rw [eatL, if_pos h64] at hea
    simp -implicitDefEqProofs [sha_StateP_Write_L0, hs0, hs4, hsh, h64', sl1, sl2, hmix]
    exact ⟨(a.drop 64).length, by simp; omega, mixL H' (a.take 64), mixL_len _ _ hH', a.drop 64, rfl, by simp; omega, hea, rfl, lv'', rfl⟩
  · have h64' : ¬ (64 : Int) ≤ a.length := by omega
    rw [eatL, if_neg h64] at hea
    rw [← hea]
    obtain ⟨f8, f9, fl, fs8, fs9⟩ := stC_8 hH' lv' (cnt + BitVec.ofNat 64 B.length)
    have s8 : stV 0 (.ptr 0 8 0) (bytesV a) (⟨0, some (stC H' lv' (cnt + BitVec.ofNat 64 B.length))⟩ :: X :: rest) = some (⟨0, some (stC H' (bytesV a) (cnt + BitVec.ofNat 64 B.length))⟩ :: X :: rest) := by
      rw [st_set (cs := stC H' lv' (cnt + BitVec.ofNat 64 B.length)) rfl rfl rfl (by simp) (by omega), fs8]; rfl
    simp -implicitDefEqProofs [-stV_ptr, sha_StateP_Write_L0, hs0, hs4, hsh, h64', nilV, s8]
end Mini
end
section
namespace Mini
open Go
set_option linter.unusedSimpArgs false
set_option linter.unusedVariables false
theorem eatL_append (H : List (BitVec 32)) (a b : List (BitVec 8)) : eatL (eatL H a).1 ((eatL H a).2 ++ b) = eatL H (a ++ b) := by
  induction hn : a.length using Nat.strongRecOn generalizing H a with
  | ind n ih =>
    by_cases h : 64 ≤ a.length
    · have e1 : eatL H a = eatL (mixL H (a.take 64)) (a.drop 64) := by rw [eatL, if_pos h]
      have e2 : eatL H (a ++ b) = eatL (mixL H ((a ++ b).take 64)) ((a ++ b).drop 64) := by rw [eatL, if_pos (by simp; omega)]
      have e3 : (a ++ b).take 64 = a.take 64 := by rw [List.take_append_of_le_length h]
      have e4 : (a ++ b).drop 64 = a.drop 64 ++ b := by rw [List.drop_append_of_le_length h]
      rw [e1, e2, e3, e4]
      exact ih (a.drop 64).length (by simp; omega) _ _ rfl
    · have e1 : eatL H a = (H, a) := by rw [eatL, if_neg h]
      rw [e1]
theorem eatL_left (H : List (BitVec 32)) (a : List (BitVec 8)) : (eatL H a).2.length = a.length % 64 := by
  induction hn : a.length using Nat.strongRecOn generalizing H a with
  | ind n ih =>
    by_cases h : 64 ≤ a.length
    · rw [eatL, if_pos h, ih (a.drop 64).length (by simp; omega) _ _ rfl]
      simp
      omega
    · rw [eatL, if_neg h]
      simp
      omega
theorem run_sWrite (n : Nat) (h : Heap) (i j : Nat) (hij : i ≠ j) (H : List (BitVec 32)) (hH : H.length = 8) (lv bv : V) (cnt : BitVec 64) (L B : List (BitVec 8)) (st0 st1 : Nat) (xb : Option (List (BitVec 8)))
    (hi : hget h i = ⟨st0, some (stC H lv cnt)⟩) (hj : hget h j = ⟨st1, xb.map (List.map u8)⟩)
    (hl : BSrc ⟨0, xb.map (List.map u8)⟩ (lv.ren (entM [i, j] h)) L) (hb : BSrc ⟨0, xb.map (List.map u8)⟩ (bv.ren (entM [i, j] h)) B) (hlen : L.length + B.length < 1000000) :
    runF (tD (n + 5)) k_sha_StateP_Write { ks := [i, j] } [.ptr i 0 st0, bv] h = some (.tup [], hset (hset h i ⟨st0, some (stC (eatL H (L ++ B)).1 (bytesV (eatL H (L ++ B)).2) (cnt + BitVec.ofNat 64 B.length))⟩) j ⟨st1, xb.map (List.map u8)⟩) := by
  have hren : ∀ f (H : List (BitVec 32)) lv (cnt : BitVec 64), renL f (stC H lv cnt) = stC H (lv.ren f) cnt := by
    intro f H lv cnt
    unfold stC
    rw [renL_map, List.map_append]
    congr 1
    · rw [← renL_map]
      exact (noRef_ren _).2 _ (noRef_map (fun _ => rfl) _)
  have hxb : ∀ f, (xb.map (List.map u8)).map (renL f) = xb.map (List.map u8) := by
    intro f
    cases xb with
    | none => rfl
    | some l => simp [renL_u8]
  obtain ⟨rest, e⟩ := sha_Write n H hH ⟨0, xb.map (List.map u8)⟩ _ _ L B cnt hl hb hlen
  have e1 : renL (entM [i, j] h) [.ptr i 0 st0, bv] = [.ptr 0 0 0, bv.ren (entM [i, j] h)] := by simp [renL, V.ren, entM, hi, idxIn]
  have e2 : entH [i, j] h = [⟨0, some (stC H (lv.ren (entM [i, j] h)) cnt)⟩, ⟨0, xb.map (List.map u8)⟩] := by
    simp only [entH, List.map_cons, List.map_nil, hi, hj, hxb, Option.map_some, hren]
  have := runF_dn (P := PR) (G := gD) (An := anD) (a := { ks := [i, j] }) (args := [.ptr i 0 st0, bv]) (h := h) rfl (by simp [nodupB, hij]) (by rw [e1, e2]; exact e)
  rw [this]
  simp only [exO, exK, hi, hj, hget, renS, Option.map_some, hren, hxb, Nat.zero_add, (noRef_ren _).1 (bytesV _) rfl]
  rfl
def zerosN (n : Nat) : Nat := (119 - n % 64) % 64
def be8 (x : BitVec 64) : List (BitVec 8) := (List.range 8).map fun i => (x >>> (56 - 8 * i)).setWidth 8
def padB (b : List (BitVec 8)) : List (BitVec 8) := b ++ [128#8] ++ List.replicate (zerosN b.length) 0#8 ++ be8 (BitVec.ofNat 64 b.length * 8#64)
def wordB (x : BitVec 32) : List (BitVec 8) := (List.range 4).map fun k => (x >>> (24 - 8 * k)).setWidth 8
def h0L : List (BitVec 32) := [0x6a09e667, 0xbb67ae85, 0x3c6ef372, 0xa54ff53a, 0x510e527f, 0x9b05688c, 0x1f83d9ab, 0x5be0cd19]
def shaL (b : List (BitVec 8)) : List (BitVec 8) := (eatL h0L (padB b)).1.flatMap wordB
theorem u64_to_u8 (m : BitVec 64) : toIntV .u8 (u64 m) = some (u8 (m.setWidth 8)) := by
  simp only [toIntV, u64, u8, wrap_u8, Option.some.injEq, V.int.injEq, true_and]
  simp
theorem u64_shr {a : BitVec 64} {n : Int} (h : 0 ≤ n) : intV .shr (u64 a) (.int .i64 n) = some (u64 (a >>> n.toNat)) := by
  show (if n < 0 then none else some (V.int .u64 ((a.toNat : Int).fdiv (2 ^ (min n.toNat 64))))) = _
  rw [if_neg (by omega)]
  have : (a.toNat : Int).fdiv (2 ^ (min n.toNat 64)) = ((a >>> n.toNat).toNat : Int) := by
    rw [BitVec.toNat_ushiftRight, Nat.shiftRight_eq_div_pow]
    have e : (2 : Int) ^ (min n.toNat 64) = ((2 ^ (min n.toNat 64) : Nat) : Int) := by norm_cast
    rw [e, Int.fdiv_eq_ediv_of_nonneg _ (Int.natCast_nonneg _)]
    have e2 : (a.toNat : Int) / ((2 ^ (min n.toNat 64) : Nat) : Int) = ((a.toNat / 2 ^ (min n.toNat 64) : Nat) : Int) := rfl
    rw [e2]
    by_cases hn : n.toNat ≤ 64
    · rw [Nat.min_eq_left hn]
    · rw [Nat.min_eq_right (by omega)]
      have hlt : a.toNat < 2 ^ 64 := a.isLt
      have hlt' : a.toNat < 2 ^ n.toNat := Nat.lt_of_lt_of_le hlt (Nat.pow_le_pow_right (by omega) (by omega))
      rw [Nat.div_eq_of_lt hlt, Nat.div_eq_of_lt hlt']
  rw [this]
  rfl
theorem rep_u8 (n : Nat) : rep n [V.int .u8 0] = (List.replicate n 0#8).map u8 := rep_map u8 0#8 n
theorem wordB_get {F : List (BitVec 32)} {i k : Nat} {x : BitVec 32} (h : F[i]? = some x) (hk : k < 4) : (F.flatMap wordB)[4 * i + k]? = some ((x >>> (24 - 8 * k)).setWidth 8) := by
  induction F generalizing i with
  | nil => simp at h
  | cons a F ih =>
    have hw : (wordB a).length = 4 := by simp [wordB]
    cases i with
    | zero =>
      simp at h
      subst h
      rw [List.flatMap_cons, List.getElem?_append_left (by omega)]
      simp [wordB, hk]
    | succ i =>
      simp at h
      rw [List.flatMap_cons, List.getElem?_append_right (by omega), hw]
      have : 4 * (i + 1) + k - 4 = 4 * i + k := by omega
      rw [this]
      exact ih h
theorem wordB_len (F : List (BitVec 32)) : (F.flatMap wordB).length = 4 * F.length := by
  induction F with
  | nil => rfl
  | cons a F ih =>
    have hw : (wordB a).length = 4 := by simp [wordB]
    simp only [List.flatMap_cons, List.length_append, List.length_cons, hw, ih]
    omega
/-- A row that is filled from below. -/
theorem fill_step {α : Type} {T z : List α} {i : Nat} {x : α} (h : T[i]? = some x) (hl : T.length = z.length) : (T.take i ++ z.drop i).set i x = T.take (i + 1) ++ z.drop (i + 1) := by
  obtain ⟨h1, h2⟩ := List.getElem?_eq_some_iff.1 h
  have e2 : z.drop i = z[i]'(by omega) :: z.drop (i + 1) := (List.drop_eq_getElem_cons (by omega))
  rw [e2, List.take_succ_eq_append_getElem h1, h2, List.set_append_right _ _ (by simp; omega)]
  have : i - (T.take i).length = 0 := by simp; omega
  rw [this, List.set_cons_zero, List.append_assoc]
  rfl
theorem fill_len {α : Type} {T z : List α} {i : Nat} (hl : T.length = z.length) (hi : i ≤ T.length) : (T.take i ++ z.drop i).length = T.length := by
  simp; omega
theorem fpP_ptr (k o st : Nat) : fpP (.ptr k o st) = [k] := rfl
theorem fpP_sl (k o l c sz st : Nat) : fpP (.sl k o l c sz st) = [k] := rfl
theorem fpP_bytes (l : List (BitVec 8)) : fpP (bytesV l) = [] := rfl
theorem sha_Sum_W (n : Nat) (H : List (BitVec 32)) (hH : H.length = 8) (L : List (BitVec 8)) (hL : L.length < 64) (cnt : BitVec 64) (z : Nat) (hz : (L.length + 1 + z) % 64 = 56) (hz2 : z < 64) :
    W (sha_StateP_Sum_B (n + 5) (.ptr 0 0 0) [⟨0, some (stC H (bytesV L) cnt)⟩, ⟨0, none⟩, ⟨0, none⟩, ⟨0, none⟩, ⟨0, none⟩, ⟨0, none⟩, ⟨0, none⟩]) (fun _ => False)
      (fun o => ∃ rest, o = .ret (.agg (((eatL H (L ++ [128#8] ++ List.replicate z 0#8 ++ be8 (cnt * 8#64))).1.flatMap wordB).map u8)) (⟨0, some (stC H (bytesV L) cnt)⟩ :: rest)) := by
  obtain ⟨D, hD⟩ : ∃ D, D = ((eatL H (L ++ [128#8] ++ List.replicate z 0#8 ++ be8 (cnt * 8#64))).1.flatMap wordB) := ⟨_, rfl⟩
  rw [← hD]
  have hHe := eight hH
  obtain ⟨a, b, c, d, e, f, g, i, hHe⟩ := hHe
  obtain ⟨z32, hz32⟩ : ∃ z, z = List.replicate 32 0#8 := ⟨_, rfl⟩
  have hz32l : z32.length = 32 := by rw [hz32]; simp
  have hal : ∀ id h, allocV (some id) 32 (rep 32 [V.int .u8 0]) h = some (.ptr id 0 ((hget h id).st + 1), hset h id ⟨(hget h id).st + 1, some (z32.map u8)⟩) := by
    intro id h
    rw [rep_u8, ← hz32]
    rfl
  -- the left bytes' copy
  have hsrc : ∀ h, srcV 0 (bytesV L) h = some (L.length, L.map u8) := fun h => src_vec u8 (fun _ => rfl) (fun _ => rfl) L h
  have hnew : ∀ s0 s1, newSl (some 2) 0 0 [] [s0, s1, ⟨0, none⟩, ⟨0, none⟩, ⟨0, none⟩, ⟨0, none⟩, ⟨0, none⟩] = some (.sl 2 0 0 0 0 1, [s0, s1, ⟨1, some []⟩, ⟨0, none⟩, ⟨0, none⟩, ⟨0, none⟩, ⟨0, none⟩]) := fun _ _ => rfl
  have happ : ∃ st2, ∀ s0 s1, appV (some 6) 70368744177664 0 (.sl 2 0 0 0 0 1) (bytesV L) [s0, s1, ⟨1, some []⟩, ⟨0, none⟩, ⟨0, none⟩, ⟨0, none⟩, ⟨0, none⟩] = some (.sl 2 0 L.length L.length 0 st2, [s0, s1, ⟨st2, some (L.map u8)⟩, ⟨0, none⟩, ⟨0, none⟩, ⟨0, none⟩, ⟨0, none⟩]) := by
    cases hLe : L with
    | nil => exact ⟨1, fun _ _ => rfl⟩
    | cons x xs =>
      refine ⟨2, fun s0 s1 => ?_⟩
      rw [← hLe]
      have := app_rows (id := 6) (lim := 70368744177664) (k := 2) (i := 0) (st := 1) (cs := []) (hsrc [s0, s1, ⟨1, some []⟩, ⟨0, none⟩, ⟨0, none⟩, ⟨0, none⟩, ⟨0, none⟩]) (okC_u8 _) (by rw [hLe]; simp) rfl rfl (by omega)
      rw [this]
      simp
  obtain ⟨st2, happ⟩ := happ
  have hfill : fillV (rep 0 [.int .u8 0]) [] = some [] := rfl
  have hld8 : ∀ rest, ldV 8 (.ptr 0 0 0) (⟨0, some (stC H (bytesV L) cnt)⟩ :: rest) = some (.agg (H.map u32)) := fun rest => by rw [hHe]; rfl
  have hldl : ∀ rest, ldV 0 (.ptr 0 8 0) (⟨0, some (stC H (bytesV L) cnt)⟩ :: rest) = some (bytesV L) := fun rest => by simp [(stC_8 hH _ _).1]
  have hldn : ∀ rest, ldV 0 (.ptr 0 9 0) (⟨0, some (stC H (bytesV L) cnt)⟩ :: rest) = some (u64 cnt) := fun rest => by simp [(stC_8 hH _ _).2.1]
  have hbuild : buildV [.int .u32 0, .int .u32 0, .int .u32 0, .int .u32 0, .int .u32 0, .int .u32 0, .int .u32 0, .int .u32 0, .nils, .int .u64 0] [(0, 8, .agg (H.map u32)), (8, 0, .sl 2 0 L.length L.length 0 st2), (9, 0, u64 cnt)] = some (.agg (stC H (.sl 2 0 L.length L.length 0 st2) cnt)) := by
    rw [hHe]; rfl
  have hal3 : ∀ s0 s1 s2, allocV (some 3) 10 [.int .u32 0, .int .u32 0, .int .u32 0, .int .u32 0, .int .u32 0, .int .u32 0, .int .u32 0, .int .u32 0, .nils, .int .u64 0] [s0, s1, s2, ⟨0, none⟩, ⟨0, none⟩, ⟨0, none⟩, ⟨0, none⟩] = some (.ptr 3 0 1, [s0, s1, s2, ⟨1, some [.int .u32 0, .int .u32 0, .int .u32 0, .int .u32 0, .int .u32 0, .int .u32 0, .int .u32 0, .int .u32 0, .nils, .int .u64 0]⟩, ⟨0, none⟩, ⟨0, none⟩, ⟨0, none⟩]) := fun _ _ _ => rfl
  have hst3 : ∀ s0 s1 s2, stV 10 (.ptr 3 0 1) (.agg (stC H (.sl 2 0 L.length L.length 0 st2) cnt)) [s0, s1, s2, ⟨1, some [.int .u32 0, .int .u32 0, .int .u32 0, .int .u32 0, .int .u32 0, .int .u32 0, .int .u32 0, .int .u32 0, .nils, .int .u64 0]⟩, ⟨0, none⟩, ⟨0, none⟩, ⟨0, none⟩] = some [s0, s1, s2, ⟨1, some (stC H (.sl 2 0 L.length L.length 0 st2) cnt)⟩, ⟨0, none⟩, ⟨0, none⟩, ⟨0, none⟩] := by
    intro _ _ _; rw [hHe]; rfl
  have hw1 := fun s0 s1 => run_sWrite n [s0, s1, ⟨st2, some (L.map u8)⟩, ⟨1, some (stC H (.sl 2 0 L.length L.length 0 st2) cnt)⟩, ⟨0, none⟩, ⟨0, none⟩, ⟨0, none⟩] 3 2 (by omega) H hH (.sl 2 0 L.length L.length 0 st2) (bytesV [128#8]) cnt L [128#8] 1 st2 (some L) rfl rfl
    (by simp [V.ren, entM, hget, idxIn]; exact BSrc.sl L 0 rfl _) (by rw [(noRef_ren _).1 _ rfl]; exact BSrc.vec _) (by simp; omega)
  simp only [hset] at hw1
  have hw1 : ∀ s0 s1, runF (tD (n + 5)) k_sha_StateP_Write { ks := [3, 2] } [.ptr 3 0 1, .vec [.int .u8 128]] [s0, s1, ⟨st2, some (L.map u8)⟩, ⟨1, some (stC H (.sl 2 0 L.length L.length 0 st2) cnt)⟩, ⟨0, none⟩, ⟨0, none⟩, ⟨0, none⟩] = _ := hw1
  have l8 : V.int .u64 8 = u64 8#64 := rfl
  simp -implicitDefEqProofs only [sha_StateP_Sum_B, hal, Option.bind_some, nilV, faV_ptr, Nat.zero_add, hget, hset, hld8, hfill, hnew, hldl, happ]
  simp -implicitDefEqProofs [-ldV_ptr, -stV_ptr, -allocV, -u32_0, okF, fpP_ptr, fpP_sl, fpP_bytes, disjL, hldn, hbuild, hal3, hst3, l8, fillV, rep, newSl, okE, elems, hw1]
  -- how many zeros are written so far
  refine W_loop (fun m s => ∃ (k : Nat), m + k = z ∧ At s [(2, .ptr 1 0 1), (3, .ptr 3 0 1), (4, u64 (cnt * 8#64))] [⟨0, some (stC H (bytesV L) cnt)⟩, ⟨1, some (z32.map u8)⟩, ⟨st2, some (L.map u8)⟩, ⟨1, some (stC (eatL H (L ++ [128#8] ++ List.replicate k 0#8)).1 (bytesV (eatL H (L ++ [128#8] ++ List.replicate k 0#8)).2) (cnt + BitVec.ofNat 64 (1 + k)))⟩, ⟨0, none⟩, ⟨0, none⟩, ⟨0, none⟩]) ?_ z _ ⟨0, by omega, by simp⟩
  rintro m s ⟨k, hmk, hs⟩
  obtain ⟨M, hM⟩ : ∃ M, M = L ++ [128#8] ++ List.replicate k 0#8 := ⟨_, rfl⟩
  have hMl : M.length = L.length + 1 + k := by rw [hM]; simp; omega
  have hel := (eatL_len H M hH).1
  have hle := eatL_left H M
  rw [← hM] at hs
  obtain ⟨E, hE⟩ : ∃ E, E = eatL H M := ⟨_, rfl⟩
  rw [← hE] at hs hel hle
  have hll : ∀ a b c d e f, ldV 0 (.ptr 3 8 1) [a, b, c, ⟨1, some (stC E.1 (bytesV E.2) (cnt + BitVec.ofNat 64 (1 + k)))⟩, d, e, f] = some (bytesV E.2) := fun a b c d e f => by simp [(stC_8 hel _ _).1]
  simp at hs
  by_cases h56 : m = 0
  · subst h56
    have hkz : k = z := by omega
    subst hkz
    have h56' : E.2.length = 56 := by rw [hle, hMl]; exact hz
    simp -implicitDefEqProofs [-ldV_ptr, -allocV, sha_StateP_Sum_L0, hs, hll, h56']
    obtain ⟨T, hT⟩ : ∃ T, T = be8 (cnt * 8#64) := ⟨_, rfl⟩
    have hTl : T.length = 8 := by rw [hT]; simp [be8]
    rw [← hM, ← hT] at hD
    obtain ⟨C, hC⟩ : ∃ C, C = cnt + BitVec.ofNat 64 (1 + k) := ⟨_, rfl⟩
    rw [← hC]
    obtain ⟨S0, hS0⟩ : ∃ S : Slot, S = ⟨0, some (stC H (bytesV L) cnt)⟩ := ⟨_, rfl⟩
    rw [← hS0]
    obtain ⟨z8, hz8⟩ : ∃ z, z = List.replicate 8 0#8 := ⟨_, rfl⟩
    have hz8l : z8.length = 8 := by rw [hz8]; simp
    have hal8 : ∀ a b c d e f, allocV (some 4) 8 [.int .u8 0, .int .u8 0, .int .u8 0, .int .u8 0, .int .u8 0, .int .u8 0, .int .u8 0, .int .u8 0] [a, b, c, d, ⟨0, none⟩, e, f] = some (.ptr 4 0 1, [a, b, c, d, ⟨1, some (z8.map u8)⟩, e, f]) := by
      intro _ _ _ _ _ _; rw [hz8]; rfl
    simp -implicitDefEqProofs [-ldV_ptr, -allocV, hal8]
    refine W_up 8 (fun i s => At s [(2, .ptr 1 0 1), (3, .ptr 3 0 1), (4, u64 (cnt * 8#64)), (5, .ptr 4 0 1), (39, i64 i)] [S0, ⟨1, some (z32.map u8)⟩, ⟨st2, some (L.map u8)⟩, ⟨1, some (stC E.1 (bytesV E.2) C)⟩, ⟨1, some ((T.take i ++ z8.drop i).map u8)⟩, ⟨0, none⟩, ⟨0, none⟩]) ?_ ?_ (Nat.zero_le _) (by simp)
    · rintro i s hi hs
      have ha := i64_inc hi (by omega)
      have hi' : (i : Int) < 8 := by omega
      have hTi : T[i]? = some (((cnt * 8#64) >>> (56 - 8 * i)).setWidth 8) := by rw [hT]; simp [be8, hi]
      have hfs := fill_step hTi (z := z8) (by omega)
      have hfl := fill_len (T := T) (z := z8) (i := i) (by omega) (by omega)
      obtain ⟨r, hr⟩ : ∃ r, r = T.take i ++ z8.drop i := ⟨_, rfl⟩
      rw [← hr] at hfs hfl hs
      have hst := st_row (f := u8) (fun _ => rfl) (fun _ => rfl) (fun _ => rfl) (l := r) (i := i) (k := 4) (st := 1) (a := ((cnt * 8#64) >>> (56 - 8 * i)).setWidth 8) (h := [S0, ⟨1, some (z32.map u8)⟩, ⟨st2, some (L.map u8)⟩, ⟨1, some (stC E.1 (bytesV E.2) C)⟩, ⟨1, some (r.map u8)⟩, ⟨0, none⟩, ⟨0, none⟩]) (by simp) (by omega)
      simp only [hset] at hst
      rw [hfs] at hst
      have m1 : intV .mul (.int .i64 8) (i64 (i : Int)) = some (i64 ((8 * i : Nat) : Int)) := by rw [i64_mul (by omega) (by omega)]; simp
      have m2 : intV .sub (.int .i64 56) (i64 ((8 * i : Nat) : Int)) = some (i64 ((56 - 8 * i : Nat) : Int)) := by
        have e : (56 : Int) - ((8 * i : Nat) : Int) = ((56 - 8 * i : Nat) : Int) := by omega
        rw [i64_sub (by omega) (by omega), e]
      have m3 := u64_shr (a := cnt * 8#64) (n := ((56 - 8 * i : Nat) : Int)) (by omega)
      rw [Int.toNat_natCast] at m3
      have hia := iaA_ptr (len := 8) (k := 4) (off := 0) (st := 1) hi
      simp only [Nat.zero_add] at hia
      obtain ⟨q1, hq1⟩ : ∃ q, q = 8 * i := ⟨_, rfl⟩
      rw [← hq1] at m1 m2 m3 hst
      obtain ⟨q2, hq2⟩ : ∃ q, q = 56 - q1 := ⟨_, rfl⟩
      rw [← hq2] at m2 m3 hst
      simp only [At_cons, At_nil] at hs
      simp -implicitDefEqProofs [-stV_ptr, -ldV_ptr, sha_StateP_Sum_L1, hs, hi', m1, m2, m3, u64_to_u8, hia, hst, ha]
    · rintro s hs
      have e8 : T.take 8 ++ z8.drop 8 = T := by rw [List.take_of_length_le (by omega), List.drop_of_length_le (by omega), List.append_nil]
      rw [e8] at hs
      have hsl : slA 8 0 (.ptr 4 0 1) none none [S0, ⟨1, some (z32.map u8)⟩, ⟨st2, some (L.map u8)⟩, ⟨1, some (stC E.1 (bytesV E.2) C)⟩, ⟨1, some (T.map u8)⟩, ⟨0, none⟩, ⟨0, none⟩] = some (.sl 4 0 8 8 0 1) := by simp [slA, bndV, hTl]
      have hw3 := run_sWrite n [S0, ⟨1, some (z32.map u8)⟩, ⟨st2, some (L.map u8)⟩, ⟨1, some (stC E.1 (bytesV E.2) C)⟩, ⟨1, some (T.map u8)⟩, ⟨0, none⟩, ⟨0, none⟩] 3 4 (by omega) E.1 hel (bytesV E.2) (.sl 4 0 8 8 0 1) C E.2 T 1 1 (some T) rfl rfl
        (by rw [(noRef_ren _).1 _ rfl]; exact BSrc.vec _) (by simp [V.ren, entM, hget, idxIn]; have := BSrc.sl T 0 (X := ⟨0, some (T.map u8)⟩) rfl 8; rw [hTl] at this; exact this) (by rw [hle]; omega)
      have hap : eatL E.1 (E.2 ++ T) = eatL H (M ++ T) := by rw [hE]; exact eatL_append H M T
      rw [hap] at hw3
      simp only [hset, Option.map_some] at hw3
      obtain ⟨F, hF⟩ : ∃ F, F = (eatL H (M ++ T)).1 := ⟨_, rfl⟩
      have hFl : F.length = 8 := by rw [hF]; exact (eatL_len H _ hH).1
      rw [← hF] at hw3 hD
      have hDl : D.length = 32 := by rw [hD, wordB_len, hFl]
      obtain ⟨S3, hS3⟩ : ∃ S : Slot, S = ⟨1, some (stC F (bytesV (eatL H (M ++ T)).2) (C + BitVec.ofNat 64 T.length))⟩ := ⟨_, rfl⟩
      have hld8 : ∀ a b c d e f, ldV 8 (.ptr 3 0 1) [a, b, c, S3, d, e, f] = some (.agg (F.map u32)) := by
        intro a b c d e f
        rw [hS3]
        obtain ⟨x0, x1, x2, x3, x4, x5, x6, x7, hx⟩ := eight hFl
        rw [hx]; rfl
      rw [← hS3] at hw3
      simp only [At_cons, At_nil] at hs
      simp -implicitDefEqProofs [-stV_ptr, -ldV_ptr, sha_StateP_Sum_L1, hs, hsl, hw3, hld8]
      clear hs
      refine W_up 8 (fun i s => At s [(2, .ptr 1 0 1), (7, .ptr 5 0 1), (54, .agg (F.map u32)), (55, i64 i)] [S0, ⟨1, some (z32.map u8)⟩, ⟨st2, some (L.map u8)⟩, S3, ⟨1, some (T.map u8)⟩, ⟨1, some ((D.take (4 * i) ++ z32.drop (4 * i)).map u8)⟩, ⟨0, none⟩]) ?_ ?_ (Nat.zero_le _) (by simp)
      · rintro i s hi hs
        have ha := i64_inc hi (by omega)
        have hi' : (i : Int) < 8 := by omega
        obtain ⟨x, hx, _⟩ := getE (l := F) (i := i) (by omega)
        have hix : ixA 8 0 (.agg (F.map u32)) (i64 (i : Int)) = some (u32 x) := by
          have : (F.map u32)[i]? = some (u32 x) := by simp [hx]
          simp [ixA, hi', this]
        simp only [At_cons, At_nil] at hs
        simp -implicitDefEqProofs [-stV_ptr, -ldV_ptr, sha_StateP_Sum_L2, hs, hi', hix]
        clear hs
        refine W_up 4 (fun k s => At s [(2, .ptr 1 0 1), (7, .ptr 5 0 1), (8, i64 i), (9, u32 x), (54, .agg (F.map u32)), (55, i64 i), (59, i64 k)] [S0, ⟨1, some (z32.map u8)⟩, ⟨st2, some (L.map u8)⟩, S3, ⟨1, some (T.map u8)⟩, ⟨1, some ((D.take (4 * i + k) ++ z32.drop (4 * i + k)).map u8)⟩, ⟨0, none⟩]) ?_ ?_ (Nat.zero_le _) (by simp)
        · rintro k s hk hs
          have hak := i64_inc hk (by omega)
          have hk' : (k : Int) < 4 := by omega
          have hDi : D[4 * i + k]? = some ((x >>> (24 - 8 * k)).setWidth 8) := by rw [hD]; exact wordB_get hx hk
          have hfs := fill_step hDi (z := z32) (by omega)
          have hfl := fill_len (T := D) (z := z32) (i := 4 * i + k) (by omega) (by omega)
          have hfs : (D.take (4 * i + k) ++ z32.drop (4 * i + k)).set (4 * i + k) _ = D.take (4 * i + (k + 1)) ++ z32.drop (4 * i + (k + 1)) := hfs
          obtain ⟨r, hr⟩ : ∃ r, r = D.take (4 * i + k) ++ z32.drop (4 * i + k) := ⟨_, rfl⟩
          obtain ⟨r', hr'⟩ : ∃ r', r' = D.take (4 * i + (k + 1)) ++ z32.drop (4 * i + (k + 1)) := ⟨_, rfl⟩
          rw [← hr, ← hr'] at hfs
          rw [← hr] at hfl hs
          rw [← hr']
          have hst := st_row (f := u8) (fun _ => rfl) (fun _ => rfl) (fun _ => rfl) (l := r) (i := 4 * i + k) (k := 5) (st := 1) (a := (x >>> (24 - 8 * k)).setWidth 8) (h := [S0, ⟨1, some (z32.map u8)⟩, ⟨st2, some (L.map u8)⟩, S3, ⟨1, some (T.map u8)⟩, ⟨1, some (r.map u8)⟩, ⟨0, none⟩]) (by simp) (by omega)
          simp only [hset] at hst
          rw [hfs] at hst
          have m1 : intV .mul (.int .i64 4) (i64 (i : Int)) = some (i64 ((4 * i : Nat) : Int)) := by rw [i64_mul (by omega) (by omega)]; simp
          have m2 : intV .add (i64 ((4 * i : Nat) : Int)) (i64 (k : Int)) = some (i64 ((4 * i + k : Nat) : Int)) := by rw [i64_add (by omega) (by omega)]; simp
          have m3 : intV .mul (.int .i64 8) (i64 (k : Int)) = some (i64 ((8 * k : Nat) : Int)) := by rw [i64_mul (by omega) (by omega)]; simp
          have m4 : intV .sub (.int .i64 24) (i64 ((8 * k : Nat) : Int)) = some (i64 ((24 - 8 * k : Nat) : Int)) := by
            have e : (24 : Int) - ((8 * k : Nat) : Int) = ((24 - 8 * k : Nat) : Int) := by omega
            rw [i64_sub (by omega) (by omega), e]
          have m5 := u32_shr (a := x) (n := ((24 - 8 * k : Nat) : Int)) (by omega)
          rw [Int.toNat_natCast] at m5
          have hia := iaA_ptr (len := 32) (k := 5) (off := 0) (st := 1) (i := 4 * i + k) (by omega)
          simp only [Nat.zero_add] at hia
          obtain ⟨q3, hq3⟩ : ∃ q, q = 4 * i + k := ⟨_, rfl⟩
          rw [← hq3] at m2 hia hst
          obtain ⟨q1, hq1⟩ : ∃ q, q = 4 * i := ⟨_, rfl⟩
          rw [← hq1] at m1 m2
          obtain ⟨q2, hq2⟩ : ∃ q, q = 8 * k := ⟨_, rfl⟩
          rw [← hq2] at m3 m4 m5 hst
          obtain ⟨q4, hq4⟩ : ∃ q, q = 24 - q2 := ⟨_, rfl⟩
          rw [← hq4] at m4 m5 hst
          simp only [At_cons, At_nil] at hs
          simp -implicitDefEqProofs [-stV_ptr, -ldV_ptr, sha_StateP_Sum_L3, hs, hk', m1, m2, m3, m4, m5, u32_to_u8, hia, hst, hak]
        · rintro s hs
          have e4 : 4 * i + 4 = 4 * (i + 1) := by omega
          rw [e4] at hs
          simp only [At_cons, At_nil] at hs
          simp -implicitDefEqProofs [-stV_ptr, -ldV_ptr, sha_StateP_Sum_L3, hs, ha]
      · rintro s hs
        have e8 : D.take (4 * 8) ++ z32.drop (4 * 8) = D := by rw [List.take_of_length_le (by omega), List.drop_of_length_le (by omega), List.append_nil]
        rw [e8] at hs
        have hl1 : ∀ a b c d e f, ldV 32 (.ptr 5 0 1) [a, b, c, d, e, ⟨1, some (D.map u8)⟩, f] = some (.agg (D.map u8)) := by
          intro a b c d e f
          have : (D.map u8).take 32 = D.map u8 := by rw [List.take_of_length_le (by simp; omega)]
          simp [hDl, this]
        have hs1 : ∀ a c d e f g, stV 32 (.ptr 1 0 1) (.agg (D.map u8)) [a, ⟨1, some (z32.map u8)⟩, c, d, e, f, g] = some [a, ⟨1, some (D.map u8)⟩, c, d, e, f, g] := by
          intro a c d e f g
          have : z32.drop 32 = [] := List.drop_of_length_le (by omega)
          simp [hDl, hz32l, this]
        have hl2 : ∀ a c d e f g, ldV 32 (.ptr 1 0 1) [a, ⟨1, some (D.map u8)⟩, c, d, e, f, g] = some (.agg (D.map u8)) := by
          intro a c d e f g
          have : (D.map u8).take 32 = D.map u8 := by rw [List.take_of_length_le (by simp; omega)]
          simp [hDl, this]
        simp only [At_cons, At_nil] at hs
        simp -implicitDefEqProofs [-stV_ptr, -ldV_ptr, sha_StateP_Sum_L2, hs, hl1, hs1, hl2]
  · have h56' : ¬ (E.2.length : Int) = 56 := by
      rw [hle, hMl]
      omega
    have hw2 := run_sWrite n [⟨0, some (stC H (bytesV L) cnt)⟩, ⟨1, some (z32.map u8)⟩, ⟨st2, some (L.map u8)⟩, ⟨1, some (stC E.1 (bytesV E.2) (cnt + BitVec.ofNat 64 (1 + k)))⟩, ⟨0, none⟩, ⟨0, none⟩, ⟨0, none⟩] 3 2 (by omega) E.1 hel (bytesV E.2) (bytesV [0#8]) (cnt + BitVec.ofNat 64 (1 + k)) E.2 [0#8] 1 st2 (some L) rfl rfl
      (by rw [(noRef_ren _).1 _ rfl]; exact BSrc.vec _) (by rw [(noRef_ren _).1 _ rfl]; exact BSrc.vec _) (by rw [hle]; simp; omega)
    have hw2 : runF (tD (n + 5)) k_sha_StateP_Write { ks := [3, 2] } [.ptr 3 0 1, .vec [.int .u8 0]] [⟨0, some (stC H (bytesV L) cnt)⟩, ⟨1, some (z32.map u8)⟩, ⟨st2, some (L.map u8)⟩, ⟨1, some (stC E.1 (bytesV E.2) (cnt + BitVec.ofNat 64 (1 + k)))⟩, ⟨0, none⟩, ⟨0, none⟩, ⟨0, none⟩] = _ := hw2
    have hap : eatL E.1 (E.2 ++ [0#8]) = eatL H (M ++ [0#8]) := by rw [hE]; exact eatL_append H M [0#8]
    have hM1 : M ++ [0#8] = L ++ [128#8] ++ List.replicate (k + 1) 0#8 := by rw [hM, List.replicate_succ']; simp
    rw [hap, hM1] at hw2
    simp only [hset, Option.map_some, List.length_singleton] at hw2
    have hcnt : cnt + BitVec.ofNat 64 (1 + k) + BitVec.ofNat 64 1 = cnt + BitVec.ofNat 64 (1 + (k + 1)) := by
      rw [BitVec.add_assoc, ← BitVec.ofNat_add, Nat.add_assoc]
    rw [hcnt] at hw2
    simp -implicitDefEqProofs [-ldV_ptr, sha_StateP_Sum_L0, hs, hll, h56', fillV, rep, newSl, okE, elems, hw2]
    exact ⟨m - 1, by omega, k + 1, by omega, by simp⟩
end Mini
end
section
namespace Mini
open Go
set_option linter.unusedSimpArgs false
set_option linter.unusedVariables false
def digV (D : List (BitVec 8)) : V := .agg (D.map u8)
theorem renL_digV (f : Nat → Nat → Option (Nat × Nat)) (D : List (BitVec 8)) : (digV D).ren f = digV D := (noRef_ren _).1 _ (by show noRefL _ = true; exact noRef_map (fun _ => rfl) _)
theorem run_New (n : Nat) (s0 s2 : Slot) : runF (tD (n + 1)) k_sha_New { outs := [(0, 1)] } [] [s0, ⟨0, none⟩, s2] = some (.ptr 1 0 2, [s0, ⟨2, some (stC h0L .nils 0#64)⟩, s2]) := by
  have e : dn PR gD anD (n + 1) k_sha_New [] [] = some (.ptr 0 0 1, [⟨1, some (stC h0L .nils 0#64)⟩]) := by
    rw [sha_New_eq]
    rfl
  have := runF_dn (P := PR) (G := gD) (An := anD) (n := n + 1) (f := k_sha_New) (a := { outs := [(0, 1)] }) (args := []) (h := [s0, ⟨0, none⟩, s2]) rfl (by rfl) e
  rw [this]
  rfl
theorem zerosN_ok (n : Nat) : (n % 64 + 1 + zerosN n) % 64 = 56 ∧ zerosN n < 64 := by
  unfold zerosN
  omega
theorem run_Sum (n : Nat) (s0 s2 : Slot) (b : List (BitVec 8)) (st : Nat) : runF (tD (n + 6)) k_sha_StateP_Sum { ks := [1] } [.ptr 1 0 st] [s0, ⟨st, some (stC (eatL h0L b).1 (bytesV (eatL h0L b).2) (BitVec.ofNat 64 b.length))⟩, s2] =
    some (digV (shaL b), [s0, ⟨st, some (stC (eatL h0L b).1 (bytesV (eatL h0L b).2) (BitVec.ofNat 64 b.length))⟩, s2]) := by
  obtain ⟨hz1, hz2⟩ := zerosN_ok b.length
  have hel := eatL_len h0L b rfl
  have hle := eatL_left h0L b
  obtain ⟨o, ho, hw⟩ := sha_Sum_W n (eatL h0L b).1 hel.1 (eatL h0L b).2 hel.2 (BitVec.ofNat 64 b.length) (zerosN b.length) (by rw [hle]; exact hz1) hz2
  have hD : ((eatL (eatL h0L b).1 ((eatL h0L b).2 ++ [128#8] ++ List.replicate (zerosN b.length) 0#8 ++ be8 (BitVec.ofNat 64 b.length * 8#64))).1.flatMap wordB) = shaL b := by
    have : (eatL h0L b).2 ++ [128#8] ++ List.replicate (zerosN b.length) 0#8 ++ be8 (BitVec.ofNat 64 b.length * 8#64) = (eatL h0L b).2 ++ ([128#8] ++ List.replicate (zerosN b.length) 0#8 ++ be8 (BitVec.ofNat 64 b.length * 8#64)) := by simp
    rw [this, eatL_append]
    simp only [shaL, padB, List.append_assoc]
  rw [hD] at hw
  obtain ⟨C, hC⟩ : ∃ C, C = stC (eatL h0L b).1 (bytesV (eatL h0L b).2) (BitVec.ofNat 64 b.length) := ⟨_, rfl⟩
  rw [← hC] at ho ⊢
  have hren : ∀ f, renL f C = C := fun f => by
    rw [hC]
    refine (noRef_ren _).2 _ ?_
    unfold stC
    obtain ⟨a, b, c, d, e, f, g, i, hx⟩ := eight hel.1
    rw [hx]
    rfl
  cases o with
  | normal s => exact hw.elim
  | exit i s => obtain ⟨h, e⟩ := hw; simp at e
  | ret v hc =>
    obtain ⟨rest, e⟩ := hw
    obtain ⟨rfl, rfl⟩ := Out.ret.inj e
    have e : dn PR gD anD (n + 6) k_sha_StateP_Sum (renL (entM [1] [s0, ⟨st, some C⟩, s2]) [.ptr 1 0 st]) (entH [1] [s0, ⟨st, some C⟩, s2]) = some (digV (shaL b), ⟨0, some C⟩ :: rest) := by
      have e1 : renL (entM [1] [s0, ⟨st, some C⟩, s2]) [.ptr 1 0 st] = [.ptr 0 0 0] := by simp [renL, V.ren, entM, hget, idxIn]
      have e2 : entH [1] [s0, ⟨st, some C⟩, s2] = [⟨0, some C⟩] := by simp [entH, hget, hren]
      rw [e1, e2, sha_StateP_Sum_eq]
      have e3 : ([⟨0, some C⟩] ++ pad 6 : Heap) = [⟨0, some C⟩, ⟨0, none⟩, ⟨0, none⟩, ⟨0, none⟩, ⟨0, none⟩, ⟨0, none⟩, ⟨0, none⟩] := rfl
      rw [e3, ho, fin_ret, ← hC]
      rfl
    have := runF_dn (P := PR) (G := gD) (An := anD) (a := { ks := [1] }) rfl (by rfl) e
    rw [this]
    simp only [exO, exK, hget, hset, renS, Option.map_some, hren, Nat.zero_add, renL_digV]
theorem sha_Of (n : Nat) (b : List (BitVec 8)) (hb : b.length < 999900) : RetD (n + 7) k_sha_Of [.vec [bytesV b]] (digV (shaL b)) := by
  refine Ret.of rfl (by show noRefL _ = true; exact noRef_map (fun _ => rfl) _) (sha_Of_eq ..) ?_
  obtain ⟨z32, hz32⟩ : ∃ z, z = List.replicate 32 0#8 := ⟨_, rfl⟩
  have hz32l : z32.length = 32 := by rw [hz32]; simp
  have hal : ∀ id h, allocV (some id) 32 (rep 32 [V.int .u8 0]) h = some (.ptr id 0 ((hget h id).st + 1), hset h id ⟨(hget h id).st + 1, some (z32.map u8)⟩) := by
    intro id h
    rw [rep_u8, ← hz32]
    rfl
  have hnew := run_New (n + 5) ⟨1, some (z32.map u8)⟩ ⟨0, none⟩
  have hnew : runF (tD (n + 6)) k_sha_New { outs := [(0, 1)] } [] [⟨1, some (z32.map u8)⟩, ⟨0, none⟩, ⟨0, none⟩] = _ := hnew
  have hw := run_sWrite (n + 1) [⟨1, some (z32.map u8)⟩, ⟨2, some (stC h0L .nils 0#64)⟩, ⟨0, none⟩] 1 2 (by omega) h0L rfl .nils (bytesV b) 0#64 [] b 2 0 none rfl rfl BSrc.nils (by rw [(noRef_ren _).1 _ rfl]; exact BSrc.vec _) (by simp; omega)
  simp only [List.nil_append, BitVec.zero_add, hset, Option.map_none] at hw
  have hw : runF (tD (n + 6)) k_sha_StateP_Write { ks := [1, 2] } [.ptr 1 0 2, bytesV b] [⟨1, some (z32.map u8)⟩, ⟨2, some (stC h0L .nils 0#64)⟩, ⟨0, none⟩] = _ := hw
  have hsum := run_Sum n ⟨1, some (z32.map u8)⟩ ⟨0, none⟩ b 2
  obtain ⟨C0, hC0⟩ : ∃ C, C = stC h0L .nils 0#64 := ⟨_, rfl⟩
  obtain ⟨C, hC⟩ : ∃ C, C = stC (eatL h0L b).1 (bytesV (eatL h0L b).2) (BitVec.ofNat 64 b.length) := ⟨_, rfl⟩
  have hDl : (shaL b).length = 32 := by
    rw [shaL, wordB_len, (eatL_len h0L _ rfl).1]
  obtain ⟨D, hD⟩ : ∃ D, D = shaL b := ⟨_, rfl⟩
  rw [← hD] at hsum hDl ⊢
  rw [← hC0] at hnew hw
  rw [← hC] at hw hsum
  have hia : iaS 0 (.vec [bytesV b]) (.int .i64 0) = some (.fz (bytesV b)) := rfl
  simp -implicitDefEqProofs only [sha_Of_B, hal, Option.bind_some, List.nil_append, pad, hget, hset, Nat.zero_add, hnew]
  simp -implicitDefEqProofs only [W_seq, W_blk, lenV_vec, List.length_cons, List.length_nil, Option.bind_some, Nat.zero_add]
  refine W_loop (fun m s => if m = 0 then At s [(2, .ptr 0 0 1), (3, .ptr 1 0 2), (7, .vec [bytesV b]), (8, i64 1), (9, i64 1)] [⟨1, some (z32.map u8)⟩, ⟨2, some C⟩, ⟨0, none⟩] else At s [(2, .ptr 0 0 1), (3, .ptr 1 0 2), (7, .vec [bytesV b]), (8, i64 1), (9, i64 0)] [⟨1, some (z32.map u8)⟩, ⟨2, some C0⟩, ⟨0, none⟩]) ?_ 1 _ (by simp)
  intro m s hs
  by_cases hm : m = 0
  · rw [if_pos hm] at hs
    have hs1 : stV 32 (.ptr 0 0 1) (digV D) [⟨1, some (z32.map u8)⟩, ⟨2, some C⟩, ⟨0, none⟩] = some [⟨1, some (D.map u8)⟩, ⟨2, some C⟩, ⟨0, none⟩] := by
      have : z32.drop 32 = [] := List.drop_of_length_le (by omega)
      simp [hDl, hz32l, this, digV]
    have hl1 : ldV 32 (.ptr 0 0 1) [⟨1, some (D.map u8)⟩, ⟨2, some C⟩, ⟨0, none⟩] = some (digV D) := by
      have : (D.map u8).take 32 = D.map u8 := by rw [List.take_of_length_le (by simp; omega)]
      simp [hDl, this, digV]
    simp only [At_cons, At_nil] at hs
    simp -implicitDefEqProofs [-ldV_ptr, -stV_ptr, sha_Of_L0, hs, hsum, hs1, hl1]
  · rw [if_neg hm] at hs
    have ha : intV .add (.int .i64 0) (.int .i64 1) = some (.int .i64 1) := rfl
    simp only [At_cons, At_nil] at hs
    simp -implicitDefEqProofs [-ldV_ptr, -stV_ptr, sha_Of_L0, hs, hia, hw, ha]
    omega
theorem run_Of (n : Nat) (b : List (BitVec 8)) (hb : b.length < 999900) (h : Heap) : runF (tD (n + 7)) k_sha_Of {} [.vec [bytesV b]] h = some (digV (shaL b), h) := (sha_Of n b hb).run h
theorem shaL_len (b : List (BitVec 8)) : (shaL b).length = 32 := by rw [shaL, wordB_len, (eatL_len h0L _ rfl).1]
theorem codeP_len {p : Prg} (he : errP p = 0) : (codeP p).length ≤ 24 + 1285 * 16 := by
  obtain ⟨e1, e2, e3⟩ := errP_zero he
  have hfl := flatMap_le funcB 1285 p.fs (fun F hF => by
    have := funcB_len F
    have := (e2 F hF).2.1
    omega)
  have hmul : 1285 * p.fs.length ≤ 1285 * 16 := Nat.mul_le_mul_left _ (by omega)
  have := headB_len p
  rw [codeP, List.length_append]
  omega
def digP (p : Prg) : List (BitVec 8) := shaL (codeP p)
def z32L : List (BitVec 8) := List.replicate 32 0#8
theorem pcode_Digest (n : Nat) (p : Prg) (hsm : SmallP p) : (errP p ≠ 0 → RetD (n + 21) k_pcode_Digest [p.v] (.tup [digV z32L, i64 (errP p)])) ∧
    (errP p = 0 → RetD (n + 21) k_pcode_Digest [p.v] (.tup [digV (digP p), i64 0])) := by
  obtain ⟨hw1, hw2⟩ := pcode_Write n p hsm
  have hal : ∀ id h, allocV (some id) 32 (rep 32 [V.int .u8 0]) h = some (.ptr id 0 ((hget h id).st + 1), hset h id ⟨(hget h id).st + 1, some (z32L.map u8)⟩) := by
    intro id h
    rw [rep_u8]
    rfl
  obtain ⟨z, hz⟩ : ∃ z, z = z32L := ⟨_, rfl⟩
  have hzl : z.length = 32 := by rw [hz]; rfl
  have hbz : buildV (rep 32 [V.int .u8 0]) [] = some (digV z) := by rw [rep_u8, hz]; rfl
  rw [← hz] at hal ⊢
  have hnr : ∀ D, (V.tup [digV D, i64 (errP p)]).noRef = true ∧ (V.tup [digV D, i64 0]).noRef = true := fun D => by
    have : (digV D).noRef = true := by show noRefL _ = true; exact noRef_map (fun _ => rfl) _
    simp [this]
  have hs1 : ∀ D : List (BitVec 8), D.length = 32 → stV 32 (.ptr 0 0 1) (digV D) [⟨1, some (z.map u8)⟩] = some [⟨1, some (D.map u8)⟩] := by
    intro D hD
    have : z.drop 32 = [] := List.drop_of_length_le (by omega)
    simp [hD, hzl, this, digV]
  have hl1 : ∀ D : List (BitVec 8), D.length = 32 → ldV 32 (.ptr 0 0 1) [⟨1, some (D.map u8)⟩] = some (digV D) := by
    intro D hD
    have : (D.map u8).take 32 = D.map u8 := by rw [List.take_of_length_le (by simp; omega)]
    simp [hD, this, digV]
  constructor
  · intro he
    have hr := (hw1 he).run
    have d0 := eq_false he
    refine Ret.of rfl (hnr z).1 (pcode_Digest_eq ..) ?_
    simp -implicitDefEqProofs [-ldV_ptr, -stV_ptr, -allocV, pcode_Digest_B, hal, hr, d0, hbz, hs1 z hzl, hl1 z hzl]
  · intro he
    have hr := (hw2 he).run
    have hDl := shaL_len (codeP p)
    have hof := run_Of (n + 13) (codeP p) (by have := codeP_len he; omega)
    have hof : ∀ h, runF (tD (n + 20)) k_sha_Of {} [.vec [bytesV (codeP p)]] h = some (digV (digP p), h) := hof
    refine Ret.of rfl (hnr _).2 (pcode_Digest_eq ..) ?_
    have hf : ∀ c, fillV (rep 1 [.nils]) [(0, 0, bytesV c)] = some [bytesV c] := fun _ => rfl
    have h1 := hs1 (digP p) hDl
    have h2 := hl1 (digP p) hDl
    simp -implicitDefEqProofs [-ldV_ptr, -stV_ptr, -allocV, pcode_Digest_B, hal, hr, hf, newSl, okE, elems, hof, h1, h2]
theorem run_Digest (n : Nat) (p : Prg) (hsm : SmallP p) (h : Heap) : ∃ D, D.length = 32 ∧ runF (tD (n + 21)) k_pcode_Digest {} [p.v] h = some (.tup [digV D, i64 (errP p)], h) ∧ (errP p = 0 → D = digP p) ∧ (errP p ≠ 0 → D = z32L) := by
  obtain ⟨h1, h2⟩ := pcode_Digest n p hsm
  by_cases he : errP p = 0
  · exact ⟨digP p, shaL_len _, by rw [he]; exact (h2 he).run h, fun _ => rfl, fun h => absurd he h⟩
  · exact ⟨z32L, rfl, (h1 he).run h, fun h => absurd h he, fun _ => rfl⟩
end Mini
end
