/- A part of the proof: CallS, Step, Local, Region, Congr, Drawn, Drawn2, Exec, Base, Lib, Data, Ann. -/
import Derived.Test.YtpfekfkkcjfimaaDoorMini0
import Derived.LoopN
import Derived.Test.YtpfekfkkcjfimaaDoorProg
/- Calls: the callee sees a part of the slots. -/
section
set_option linter.unusedVariables false
set_option linter.unusedSimpArgs false
namespace Mini
open Go
theorem renL_map (f : Nat → Nat → Option (Nat × Nat)) (l : List V) : renL f l = l.map (V.ren f) := by
  induction l with
  | nil => rfl
  | cons v l ih => simp [renL, ih]
theorem map_same {l : List V} {g : V → V} (h : ∀ i (h : i < l.length), g (l[i]) = l[i]) : l.map g = l := by
  apply List.ext_getElem (by simp)
  intro i h1 h2
  simp [h i h2]
theorem FRel.ren {fr : Nat → Prop} {w : World} {v : V} {x : Value} (h : FRel fr w v x) (f : Nat → Nat → Option (Nat × Nat)) : v.ren f = v := by
  induction h with
  | undef x => rfl
  | bool b => rfl
  | int k n => rfl
  | str s => rfl
  | nilp => rfl
  | nils => rfl
  | nilf => rfl
  | nili => rfl
  | fz v b o c hf hc hr ih => rfl
  | vec0 a cp => rfl
  | vec xs b o cp sz c hf hcp hs hc hr ih => rfl
  | fn g a b xs ys ha hb hx hy ihx ihy => simp only [V.ren, renL_map, map_same ihx, map_same ihy]
  | iface t v x h ih => simp only [V.ren, ih]
  | agg cs xs hl h ih => simp only [V.ren, renL_map, map_same ih]
  | tup cs xs hl h ih => simp only [V.ren, renL_map, map_same ih]
/-- Values, renamed. -/
theorem VRel.rename {σ σ' : Sg} {w : World} {f : Nat → Nat → Option (Nat × Nat)} (hfz : ∀ b, Frz σ w b → Frz σ' w b)
    (hf : ∀ k st k' st', f k st = some (k', st') → st ≤ (σ k).st → st' ≤ (σ' k').st ∧ ∀ bl, σ' k' = ⟨st', bl⟩ → σ k = ⟨st, bl⟩) {v : V} {x : Value} (h : VRel σ w v x) : VRel σ' w (v.ren f) x := by
  induction h with
  | frz h =>
    rw [h.ren f]
    exact .frz (h.mono fun b hb => ⟨hfz b hb, rfl⟩)
  | ptr k off st b hst h =>
    simp only [V.ren]
    cases e : f k st with
    | none => exact .frz (.undef _)
    | some r =>
      obtain ⟨h1, h2⟩ := hf k st r.1 r.2 e hst
      exact .ptr _ _ _ _ h1 fun b' R hk => h b' R (h2 _ hk)
  | sl0 k off sz st a hst =>
    simp only [V.ren]
    cases e : f k st with
    | none => exact .frz (.undef _)
    | some r =>
      obtain ⟨h1, h2⟩ := hf k st r.1 r.2 e hst
      exact .sl0 _ _ _ _ _ h1
  | sl k off len cap sz st b c hst h1 h2 h hv =>
    simp only [V.ren]
    cases e : f k st with
    | none => exact .frz (.undef _)
    | some r =>
      obtain ⟨g1, g2⟩ := hf k st r.1 r.2 e hst
      exact .sl _ _ _ _ _ _ _ _ g1 h1 h2 (fun b' R hk => h b' R (g2 _ hk)) fun hk => hv (g2 _ hk)
  | fn g a b xs ys ha hb h1 h2 ih1 ih2 =>
    simp only [V.ren, renL_map]
    exact .fn _ _ _ _ _ (by simpa using ha) (by simpa using hb) (fun i hi => by simpa using ih1 i (by simpa using hi)) (fun i hi => by simpa using ih2 i (by simpa using hi))
  | iface t v x h ih => exact .iface _ _ _ ih
  | agg cs xs hl h ih =>
    simp only [V.ren, renL_map]
    exact .agg _ _ (by simpa using hl) fun i hi => by simpa using ih i (by simpa using hi)
  | tup cs xs hl h ih =>
    simp only [V.ren, renL_map]
    exact .tup _ _ (by simpa using hl) fun i hi => by simpa using ih i (by simpa using hi)
theorem SlotRel.rename {σ σ' : Sg} {w : World} {f : Nat → Nat → Option (Nat × Nat)} (hr : ∀ v x, VRel σ w v x → VRel σ' w (v.ren f) x) {c : Option (List V)} {e : Option (Option (Nat × Nat))} (h : SlotRel σ w c e) : SlotRel σ' w (c.map (renL f)) e := by
  match c, e, h with
  | none, none, _ => trivial
  | some cs, some none, h =>
    have h : cs = [] := h
    subst h
    rfl
  | some cs, some (some (b, R)), ⟨xs, ty, fr, h1, h2, h3, h4, h5⟩ =>
    refine ⟨xs, ty, fr, h1, h2, by rw [renL_map]; simpa using h3, h4, fun j a a' => ?_⟩
    simp only [Option.map, renL_map] at a ⊢
    simpa using hr _ _ (h5 j (by simpa using a) a')

/-! ### names -/
theorem idxIn_some {ks : List Nat} {k i : Nat} (h : idxIn ks k = some i) : ks[i]? = some k := by
  induction ks generalizing i with
  | nil => simp [idxIn] at h
  | cons a l ih =>
    simp only [idxIn] at h
    split at h
    · rename_i e
      injection h with h
      subst h
      simp [e]
    · obtain ⟨j, hj, rfl⟩ := Option.map_eq_some_iff.1 h
      simpa using ih hj
theorem idxIn_none {ks : List Nat} {k : Nat} (h : k ∉ ks) : idxIn ks k = none := by
  induction ks with
  | nil => rfl
  | cons a l ih =>
    simp only [List.mem_cons, not_or] at h
    simp [idxIn, Ne.symm h.1, ih h.2]
theorem idxIn_mem {ks : List Nat} {k i : Nat} (h : idxIn ks k = some i) : k ∈ ks := List.mem_of_getElem? (idxIn_some h)
theorem nodupB_spec {l : List Nat} (h : nodupB l = true) : l.Nodup := by
  induction l with
  | nil => exact List.nodup_nil
  | cons a l ih =>
    simp only [nodupB, Bool.and_eq_true, Bool.not_eq_true', List.contains_eq_mem, decide_eq_false_iff_not] at h
    exact List.nodup_cons.2 ⟨h.1, ih h.2⟩
theorem idxIn_of_get {ks : List Nat} (hn : ks.Nodup) {k i : Nat} (h : ks[i]? = some k) : idxIn ks k = some i := by
  induction ks generalizing i with
  | nil => simp at h
  | cons a l ih =>
    obtain ⟨ha, hl⟩ := List.nodup_cons.1 hn
    cases i with
    | zero => simp at h; simp [idxIn, h]
    | succ i =>
      simp at h
      have : a ≠ k := fun e => ha (e ▸ List.mem_of_getElem? h)
      simp [idxIn, this, ih hl h]
theorem hget_exK (f : Nat → Nat → Option (Nat × Nat)) (h0 hc : Heap) : ∀ (ks : List Nat) (i0 : Nat) (hb : Heap), ks.Nodup → ∀ k, hget (exK f h0 ks i0 hc hb) k = match idxIn ks k with | some i => renS f (hget h0 k).st (hget hc (i0 + i)) | none => hget hb k := by
  intro ks
  induction ks with
  | nil => intro i0 hb _ k; rfl
  | cons a l ih =>
    intro i0 hb hn k
    obtain ⟨ha, hl⟩ := List.nodup_cons.1 hn
    simp only [exK, ih _ _ hl, idxIn, hget_hset]
    by_cases hak : a = k
    · subst hak
      simp [idxIn_none ha]
    · simp only [if_neg hak, if_neg (Ne.symm hak)]
      cases idxIn l k with
      | none => rfl
      | some i => simp [Nat.add_assoc, Nat.add_comm 1 i]
def outOf (outs : List (Nat × Nat)) (k : Nat) : Option Nat :=
  match outs with
  | [] => none
  | (j, id) :: l => if id = k then some j else outOf l k
theorem outOf_none {outs : List (Nat × Nat)} {k : Nat} (h : k ∉ outs.map (·.2)) : outOf outs k = none := by
  induction outs with
  | nil => rfl
  | cons a l ih =>
    simp only [List.map_cons, List.mem_cons, not_or] at h
    simp [outOf, Ne.symm h.1, ih h.2]
theorem outOf_some {outs : List (Nat × Nat)} {k j : Nat} (h : outOf outs k = some j) : (j, k) ∈ outs := by
  induction outs with
  | nil => simp [outOf] at h
  | cons a l ih =>
    simp only [outOf] at h
    split at h
    · rename_i e
      injection h with h
      subst h
      subst e
      simp
    · exact List.mem_cons_of_mem _ (ih h)
theorem outOf_of_mem {outs : List (Nat × Nat)} (hn : (outs.map (·.2)).Nodup) {k j : Nat} (h : (j, k) ∈ outs) : outOf outs k = some j := by
  induction outs with
  | nil => simp at h
  | cons a l ih =>
    obtain ⟨ha, hl⟩ := List.nodup_cons.1 hn
    rcases List.mem_cons.1 h with h | h
    · subst h
      simp [outOf]
    · have : a.2 ≠ k := fun e => ha (List.mem_map.2 ⟨(j, k), h, e.symm⟩)
      simp [outOf, this, ih hl h]
theorem hget_exO (f : Nat → Nat → Option (Nat × Nat)) (h0 hc : Heap) : ∀ (outs : List (Nat × Nat)) (hb : Heap), (outs.map (·.2)).Nodup → ∀ k, hget (exO f h0 outs hc hb) k = match outOf outs k with | some j => renS f ((hget h0 k).st + 1) (hget hc j) | none => hget hb k := by
  intro outs
  induction outs with
  | nil => intro hb _ k; rfl
  | cons a l ih =>
    intro hb hn k
    obtain ⟨ha, hl⟩ := List.nodup_cons.1 hn
    obtain ⟨j, id⟩ := a
    simp only [exO, ih _ hl, outOf, hget_hset]
    by_cases hak : id = k
    · subst hak
      simp [outOf_none ha]
    · simp only [if_neg hak, if_neg (Ne.symm hak)]
theorem exM_spec {ks : List Nat} {outs : List (Nat × Nat)} {h : Heap} {i st k' st' : Nat} (e : exM ks outs h i st = some (k', st')) :
    (ks[i]? = some k' ∧ st' = st + (hget h k').st) ∨ ((i, k') ∈ outs ∧ ks[i]? = none ∧ st' = st + ((hget h k').st + 1)) := by
  have tail : ∀ (outs : List (Nat × Nat)), exM [] outs h i st = some (k', st') → (i, k') ∈ outs ∧ st' = st + ((hget h k').st + 1) := by
    intro outs
    induction outs with
    | nil => intro e; simp [exM] at e
    | cons a l ih =>
      intro e
      obtain ⟨j, id⟩ := a
      simp only [exM, List.getElem?_nil] at e
      split at e
      · rename_i hij
        injection e with e
        injection e with e1 e2
        subst e1 e2 hij
        simp
      · obtain ⟨h1, h2⟩ := ih e
        exact ⟨List.mem_cons_of_mem _ h1, h2⟩
  cases hk : ks[i]? with
  | some k =>
    have : exM ks outs h i st = some (k, st + (hget h k).st) := by
      unfold exM
      rw [hk]
    rw [this] at e
    injection e with e
    injection e with e1 e2
    subst e1 e2
    exact .inl ⟨rfl, rfl⟩
  | none =>
    have : exM ks outs h i st = exM [] outs h i st := by
      rw [exM.eq_def, hk, exM.eq_def [] outs]
      rfl
    rw [this] at e
    obtain ⟨h1, h2⟩ := tail outs e
    exact .inr ⟨h1, rfl, h2⟩

/-! ### the callee's view, and what comes back -/
def entS (σ : Sg) (ks bs : List Nat) : Sg :=
  ⟨fun i => ⟨0, match ks[i]? with | some k => (σ k).bl | none => none⟩, fun b => σ.nf b ∨ ∃ k R, k ∉ ks ∧ k ∉ bs ∧ (σ k).bl = some (some (b, R))⟩
theorem hget_entH (ks : List Nat) (h : Heap) (i : Nat) : hget (entH ks h) i = ⟨0, match ks[i]? with | some k => (hget h k).bl.map (renL (entM ks h)) | none => none⟩ := by
  have : ∀ (f : Nat → Slot) (l : List Nat) (i : Nat), hget (l.map f) i = match l[i]? with | some k => f k | none => ⟨0, none⟩ := by
    intro f l
    induction l with
    | nil => intro i; simp
    | cons a l ih =>
      intro i
      cases i with
      | zero => rfl
      | succ i => simp [hget, ih]
  unfold entH
  rw [this]
  cases ks[i]? <;> rfl
section
variable {P : Program} {σ : Sg} {w : World} {h : Heap}
theorem entM_spec {ks : List Nat} {k st i st' : Nat} (e : entM ks h k st = some (i, st')) : st = (hget h k).st ∧ ks[i]? = some k ∧ st' = 0 := by
  unfold entM at e
  split at e
  · rename_i hs
    obtain ⟨j, hj, e⟩ := Option.map_eq_some_iff.1 e
    injection e with e1 e2
    subst e1 e2
    exact ⟨hs, idxIn_some hj, rfl⟩
  · simp at e
theorem frz_ent {ks bs : List Nat} (b : Nat) (hb : Frz σ w b) : Frz (entS σ ks bs) w b := by
  refine ⟨hb.1, fun i R e => ?_, fun e => ?_⟩
  · simp only [entS] at e
    split at e
    · exact hb.2.1 _ _ e
    · simp at e
  · rcases e with e | ⟨k, R, _, _, e⟩
    · exact hb.2.2 e
    · exact hb.2.1 _ _ e
theorem ren_in (H : HRel σ h w) {ks bs : List Nat} {v : V} {x : Value} (hv : VRel σ w v x) : VRel (entS σ ks bs) w (v.ren (entM ks h)) x := by
  refine hv.rename (fun b => frz_ent b) fun k st i st' e hst => ?_
  obtain ⟨h1, h2, rfl⟩ := entM_spec e
  refine ⟨Nat.zero_le _, fun bl hbl => ?_⟩
  simp only [entS, h2, Ent.mk.injEq, true_and] at hbl
  have := H.st k
  cases hk : σ k with
  | mk a b => rw [hk] at hbl this; simp_all
theorem ent_hrel (H : HRel σ h w) {ks bs : List Nat} (hn : ks.Nodup) : HRel (entS σ ks bs) (entH ks h) w where
  st := fun i => by rw [hget_entH]; rfl
  sl := fun i => by
    rw [hget_entH]
    simp only [entS]
    cases hi : ks[i]? with
    | none => trivial
    | some k => exact (H.sl k).rename fun v x hv => ren_in H hv
  inj := fun i j b R R' hi hj => by
    simp only [entS] at hi hj
    cases hk : ks[i]? with
    | none => rw [hk] at hi; simp at hi
    | some k =>
      cases hk' : ks[j]? with
      | none => rw [hk'] at hj; simp at hj
      | some k' =>
        rw [hk] at hi
        rw [hk'] at hj
        have := H.inj k k' b R R' hi hj
        subst this
        have e1 := idxIn_of_get hn hk
        have e2 := idxIn_of_get hn hk'
        rw [e1] at e2
        injection e2
  nfl := fun b hb => by
    rcases hb with hb | ⟨k, R, _, _, e⟩
    · exact H.nfl b hb
    · exact H.lt e
  nfd := fun i b R hi hb => by
    simp only [entS] at hi
    split at hi
    · rename_i k hk
      rcases hb with hb | ⟨k', R', h1, _, e⟩
      · exact H.nfd _ _ _ hi hb
      · exact h1 (H.inj _ _ _ _ _ hi e ▸ List.mem_of_getElem? hk)
    · simp at hi
/-- What is seen frozen. -/
theorem plain_cell {fr : Nat → Prop} {c : V} {x : Value} (hp : c.plain = true) (ho : c.okCell = true) (h : VRel σ w c x) : FRel fr w (c.ren fun _ _ => none) x := by
  cases c <;> simp [V.plain, V.okCell] at hp ho
  · rw [h.bool_inv]; exact .bool _
  · rw [h.int_inv]; exact .int _ _
  · rw [h.str_inv]; exact .str _
  · rw [h.nilp_inv]; exact .nilp
  · exact .undef _
  · rw [h.nils_inv]; exact .nils
  · exact .undef _
  · rw [h.nilf_inv]; exact .nilf
  · rw [h.nili_inv]; exact .nili
theorem okCell_ren {z : V} (h : z.okCell = true) : (!(z.ren fun _ _ => none).isAgg) = true := by
  cases z <;> first | rfl | simp [V.okCell] at h
theorem snapV_in (H : HRel σ h w) {ks bs : List Nat} (hd : ∀ k ∈ bs, k ∉ ks) {v : V} {x : Value} (hv : VRel σ w v x) : VRel (entS σ ks bs) w ((snapV bs h v).ren (entM ks h)) x := by
  unfold snapV
  split
  · rename_i k off len cap sz st
    split
    · rename_i hkb
      have hkb : k ∈ bs := by simpa using hkb
      split
      · rename_i cs hcs
        split
        · rename_i hh
          obtain ⟨h1, h2, h3⟩ := hh
          simp only [V.ren]
          have hlen : (renL (fun _ _ => none) ((cs.drop off).take (len * csz sz))).length = len * csz sz := by rw [renL_map]; simp; omega
          rcases hv.sl_inv with ⟨hst, ⟨a, rfl, rfl, rfl⟩ | ⟨b, c, rfl, g2, g3, g4, g5⟩⟩
          · exact .frz (.vec0 _ _)
          · rcases H.cells hcs with ⟨hk, _⟩ | ⟨b', R, xs, ty, fr, hk, hb, hR, hl, hfr, hrel⟩
            · exact absurd hk g5
            · obtain ⟨rfl, hR2⟩ := g4 b' R hk
              have hok : okE sz (renL (fun _ _ => none) ((cs.drop off).take (len * csz sz))) = true := by
                unfold okE
                rw [Bool.or_eq_true]
                right
                rw [List.all_eq_true]
                intro y hy
                rw [renL_map] at hy
                obtain ⟨z, hz, rfl⟩ := List.mem_map.1 hy
                have := List.all_eq_true.1 h3 z (List.mem_of_mem_drop (List.mem_of_mem_take hz))
                exact okCell_ren this
              have hfz : Frz (entS σ ks bs) w b' := by
                refine ⟨H.lt (by rw [hk]), fun i R' e => ?_, fun e => ?_⟩
                · simp only [entS] at e
                  split at e
                  · rename_i k' hk'
                    have := H.inj k k' b' R R' (by rw [hk]) e
                    subst this
                    exact hd k hkb (List.mem_of_getElem? hk')
                  · simp at e
                · rcases e with e | ⟨k', R', e1, e2, e⟩
                  · exact H.nfd _ _ _ (by rw [hk]) e
                  · have := H.inj k k' b' R R' (by rw [hk]) e
                    subst this
                    exact e2 hkb
              refine .frz (vec_flat hok hlen hfz (by omega) (fun j => xs.getD (off + j) undef) (fun j hj => ?_) fun j hj => ?_)
              · rw [hlen] at hj
                rw [cell_of hb, getD_lt (by omega), Array.getElem?_eq_getElem (by omega)]
              · have hj' := hj
                rw [hlen] at hj'
                simp only [renL_map, List.getElem_map, List.getElem_take, List.getElem_drop]
                rw [getD_lt (by omega)]
                exact plain_cell (List.all_eq_true.1 h2 _ (List.getElem_mem _)) (List.all_eq_true.1 h3 _ (List.getElem_mem _)) (hrel _ _ _)
        · exact .frz (.undef _)
      · exact .frz (.undef _)
    · exact ren_in H hv
  · exact ren_in H hv
theorem snapA_in (H : HRel σ h w) {ks bs : List Nat} (hd : ∀ k ∈ bs, k ∉ ks) {v : V} {x : Value} (hv : VRel σ w v x) : VRel (entS σ ks bs) w ((snapA bs h v).ren (entM ks h)) x := by
  unfold snapA
  split
  · rename_i cs
    obtain ⟨xs, rfl, hl, hr⟩ := hv.agg_inv
    simp only [V.ren, renL_map]
    exact .agg _ _ (by simpa using hl) fun i hi => by simpa using snapV_in H hd (hr i (by simpa using hi) _)
  · exact snapV_in H hd hv

/-- What a caller's slots are behind the call. -/
def exS (σ σ' : Sg) (ks : List Nat) (outs : List (Nat × Nat)) : Sg :=
  ⟨fun k => match outOf outs k with
    | some j => ⟨(σ k).st + 1 + (σ' j).st, (σ' j).bl⟩
    | none => match idxIn ks k with
      | some i => ⟨(σ k).st + (σ' i).st, (σ' i).bl⟩
      | none => σ k, σ.nf⟩
structure Names (ks bs : List Nat) (outs : List (Nat × Nat)) : Prop where
  k : ks.Nodup
  o : (outs.map (·.2)).Nodup
  ko : ∀ k ∈ ks, k ∉ outs.map (·.2)
  j : (outs.map (·.1)).Nodup
  jk : ∀ o ∈ outs, ks.length ≤ o.1
  kb : ∀ k ∈ bs, k ∉ ks
theorem ex_ext (H : HRel σ h w) {ks bs : List Nat} {outs : List (Nat × Nat)} (N : Names ks bs outs) {σ' : Sg} {w' : World} (hx : Ext (entS σ ks bs) w σ' w') : Ext σ w (exS σ σ' ks outs) w' where
  os := hx.os
  tape := hx.tape
  output := hx.output
  size := hx.size
  block := fun b hb hn => hx.block b hb fun i R e => by
    simp only [entS] at e
    split at e
    · exact hn _ _ e
    · simp at e
  news := fun k b R e hb => by
    have key : ∀ i, (σ' i).bl = some (some (b, R)) → ∃ k' R', (σ k').bl = some (some (b, R')) := by
      intro i e
      obtain ⟨i', R', e'⟩ := hx.news i b R e hb
      simp only [entS] at e'
      split at e'
      · exact ⟨_, _, e'⟩
      · simp at e'
    simp only [exS] at e
    split at e
    · exact key _ e
    · split at e
      · exact key _ e
      · exact ⟨k, R, e⟩
  sts := fun k => by
    simp only [exS]
    split
    · right
      simp only
      omega
    · split
      · rename_i i hi
        rcases hx.sts i with h1 | h1
        · left
          simp only [entS, idxIn_some hi] at h1
          rw [h1]
          simp
        · right
          simp only [entS] at h1
          simp only
          omega
      · exact .inl rfl
  nf := rfl
theorem ex_out {ks bs : List Nat} {outs : List (Nat × Nat)} (H : HRel σ h w) (N : Names ks bs outs) {σ' : Sg} {w' : World} (hx : Ext (entS σ ks bs) w σ' w') (hfz : ∀ b, Frz σ' w' b → Frz (exS σ σ' ks outs) w' b) {v : V} {x : Value} (hv : VRel σ' w' v x) :
    VRel (exS σ σ' ks outs) w' (v.ren (exM ks outs h)) x := by
  refine hv.rename hfz fun i st k' st' e hst => ?_
  rcases exM_spec e with ⟨h1, rfl⟩ | ⟨h1, h2, rfl⟩
  · have hi := idxIn_of_get N.k h1
    have hmem := List.mem_of_getElem? h1
    have ho := outOf_none (N.ko _ hmem)
    simp only [exS, ho, hi, H.st]
    refine ⟨by omega, fun bl hbl => ?_⟩
    simp only [Ent.mk.injEq] at hbl
    cases hs : σ' i with
    | mk a b =>
      simp only [hs] at hbl
      obtain ⟨e1, e2⟩ := hbl
      rw [e2]
      congr 1
      omega
  · have ho := outOf_of_mem N.o h1
    simp only [exS, ho, H.st]
    refine ⟨by omega, fun bl hbl => ?_⟩
    simp only [Ent.mk.injEq] at hbl
    cases hs : σ' i with
    | mk a b =>
      simp only [hs] at hbl
      obtain ⟨e1, e2⟩ := hbl
      rw [e2]
      congr 1
      omega
theorem ex_hrel (H : HRel σ h w) {ks bs : List Nat} {outs : List (Nat × Nat)} (N : Names ks bs outs) {σ' : Sg} {w' : World} {hc : Heap} (hx : Ext (entS σ ks bs) w σ' w') (H' : HRel σ' hc w')
    (hout : ks = [] ∧ outs = [] ∨ ∀ v x, VRel σ' w' v x → VRel (exS σ σ' ks outs) w' (v.ren (exM ks outs h)) x) :
    HRel (exS σ σ' ks outs) (exO (exM ks outs h) h outs hc (exK (exM ks outs h) h ks 0 hc h)) w' := by
  have hxe := ex_ext H N hx
  have hg : ∀ k, hget (exO (exM ks outs h) h outs hc (exK (exM ks outs h) h ks 0 hc h)) k = match outOf outs k with
      | some j => renS (exM ks outs h) ((hget h k).st + 1) (hget hc j)
      | none => match idxIn ks k with
        | some i => renS (exM ks outs h) (hget h k).st (hget hc i)
        | none => hget h k := by
    intro k
    rw [hget_exO _ _ _ _ _ N.o, hget_exK _ _ _ _ _ _ N.k]
    simp
  have ren : ∀ i k, (outOf outs k = some i ∨ idxIn ks k = some i) → SlotRel (exS σ σ' ks outs) w' ((hget hc i).bl.map (renL (exM ks outs h))) (σ' i).bl := by
    intro i k hk
    rcases hout with ⟨rfl, rfl⟩ | hout
    · rcases hk with hk | hk <;> simp [outOf, idxIn] at hk
    · exact (H'.sl i).rename hout
  refine ⟨fun k => ?_, fun k => ?_, fun k k' b R R' hk hk' => ?_, fun b hb => Nat.lt_of_lt_of_le (H.nfl b hb) hx.size, fun k b R hk hb => ?_⟩
  · rw [hg]
    simp only [exS]
    cases outOf outs k with
    | some j => simp only [renS, H'.st, H.st]; omega
    | none =>
      cases idxIn ks k with
      | some i => simp only [renS, H'.st, H.st]; omega
      | none => exact H.st k
  · rw [hg]
    simp only [exS]
    cases ho : outOf outs k with
    | some j => exact ren j k (.inl ho)
    | none =>
      cases hi : idxIn ks k with
      | some i => exact ren i k (.inr hi)
      | none =>
        refine (H.sl k).mono hxe fun b R e => hx.block b (H.lt e) fun i R' e' => ?_
        simp only [entS] at e'
        split at e'
        · rename_i k' hk'
          have := H.inj k k' _ _ _ e e'
          subst this
          rw [idxIn_of_get N.k hk'] at hi
          simp at hi
        · simp at e'
  · -- a block of the callee's, and one that the caller kept
    have cross : ∀ i b R k R', (σ' i).bl = some (some (b, R)) → (σ k).bl = some (some (b, R')) → idxIn ks k = none → False := by
      intro i b R k R' h1 h2 h3
      obtain ⟨i', R'', e⟩ := hx.news i b R h1 (H.lt h2)
      simp only [entS] at e
      split at e
      · rename_i k' hk'
        have := H.inj k k' _ _ _ h2 e
        subst this
        rw [idxIn_of_get N.k hk'] at h3
        simp at h3
      · simp at e
    have jk : ∀ k j k' i, outOf outs k = some j → idxIn ks k' = some i → j ≠ i := by
      intro k j k' i h1 h2 e
      subst e
      have := N.jk _ (outOf_some h1)
      have := (List.getElem?_eq_some_iff.1 (idxIn_some h2)).1
      simp only at *
      omega
    simp only [exS] at hk hk'
    cases ho : outOf outs k with
    | some j =>
      rw [ho] at hk
      cases ho' : outOf outs k' with
      | some j' =>
        rw [ho'] at hk'
        have := H'.inj _ _ _ _ _ hk hk'
        subst this
        have m1 := outOf_some ho
        have m2 := outOf_some ho'
        have : ∀ (l : List (Nat × Nat)), (l.map (·.1)).Nodup → (j, k) ∈ l → (j, k') ∈ l → k = k' := by
          intro l
          induction l with
          | nil => intro _ h; simp at h
          | cons a l ih =>
            intro hn h1 h2
            obtain ⟨ha, hl⟩ := List.nodup_cons.1 hn
            rcases List.mem_cons.1 h1 with h1 | h1 <;> rcases List.mem_cons.1 h2 with h2 | h2
            · rw [← h1] at h2; injection h2 with _ h2; exact h2.symm
            · exact absurd (List.mem_map.2 ⟨_, h2, by rw [← h1]⟩) ha
            · exact absurd (List.mem_map.2 ⟨_, h1, by rw [← h2]⟩) ha
            · exact ih hl h1 h2
        exact this outs N.j m1 m2
      | none =>
        rw [ho'] at hk'
        cases hi' : idxIn ks k' with
        | some i' =>
          rw [hi'] at hk'
          exact absurd (H'.inj _ _ _ _ _ hk hk') (jk _ _ _ _ ho hi')
        | none =>
          rw [hi'] at hk'
          exact (cross _ _ _ _ _ hk hk' hi').elim
    | none =>
      rw [ho] at hk
      cases hi : idxIn ks k with
      | some i =>
        rw [hi] at hk
        cases ho' : outOf outs k' with
        | some j' =>
          rw [ho'] at hk'
          exact absurd (H'.inj _ _ _ _ _ hk' hk) (jk _ _ _ _ ho' hi)
        | none =>
          rw [ho'] at hk'
          cases hi' : idxIn ks k' with
          | some i' =>
            rw [hi'] at hk'
            have := H'.inj _ _ _ _ _ hk hk'
            subst this
            have e1 := idxIn_some hi
            have e2 := idxIn_some hi'
            rw [e1] at e2
            injection e2
          | none =>
            rw [hi'] at hk'
            exact (cross _ _ _ _ _ hk hk' hi').elim
      | none =>
        rw [hi] at hk
        cases ho' : outOf outs k' with
        | some j' =>
          rw [ho'] at hk'
          exact (cross _ _ _ _ _ hk' hk hi).elim
        | none =>
          rw [ho'] at hk'
          cases hi' : idxIn ks k' with
          | some i' =>
            rw [hi'] at hk'
            exact (cross _ _ _ _ _ hk' hk hi).elim
          | none =>
            rw [hi'] at hk'
            exact H.inj _ _ _ _ _ hk hk'
  · have nf : ∀ i, (σ' i).bl = some (some (b, R)) → False := fun i e => H'.nfd i b R e (by rw [hx.nf]; exact .inl hb)
    simp only [exS] at hk
    split at hk
    · exact nf _ hk
    · split at hk
      · exact nf _ hk
      · exact H.nfd _ _ _ hk hb
/-- Package-level variables. -/
def GRel (G : Nat → V) (σ : Sg) (w : World) : Prop := ∀ g, FRel (Frz σ w) w (G g) (.pointer (some ⟨g, 0, none⟩))
theorem GRel.ext {G : Nat → V} {σ' : Sg} {w' : World} (h : GRel G σ w) (hx : Ext σ w σ' w') : GRel G σ' w' := fun g => (h g).mono fun b hf => ⟨hx.frz hf, hx.frzBlock hf⟩
/-- What a call comes to. -/
def Post (σ : Sg) (w : World) (v : V) (h' : Heap) (e : Ending) (w' : World) : Prop := ∃ x σ', e = .returned x ∧ Ext σ w σ' w' ∧ HRel σ' h' w' ∧ VRel σ' w' v x
/-- A function of the program does what F says. -/
structure SoundF (P : Program) (G : Nat → V) (f : Nat) (F : FS) : Prop where
  fn : ∃ fn, P.funcs[f]? = some fn ∧ (fn.name == "runtime.NumGoroutine") = false ∧ fn.body.isNone = false
  run : ∀ (args : List V) (h : Heap) (v : V) (h' : Heap), F args h = some (v, h') → ∀ (σ : Sg) (w : World) (xs : Array Value), HRel σ h w → GRel G σ w → CRel σ w args xs → Calls P f xs w (Post σ w v h')
theorem plain_any {σ σ' : Sg} {w : World} {v : V} {x : Value} (hp : v.plain = true) (f : Nat → Nat → Option (Nat × Nat)) (hf : ∀ k st, f k st = none) (h : VRel σ w v x) : VRel σ' w (v.ren f) x := by
  have one : ∀ {c : V} {y : Value}, (match c with | .bool _ | .int .. | .str _ | .nilp | .ptr .. | .nils | .sl .. | .nilf | .nili => true | _ => false) = true → VRel σ w c y → VRel σ' w (c.ren f) y := by
    intro c y hc hr
    cases c <;> simp at hc
    · rw [hr.bool_inv]; exact .frz (.bool _)
    · rw [hr.int_inv]; exact .frz (.int _ _)
    · rw [hr.str_inv]; exact .frz (.str _)
    · rw [hr.nilp_inv]; exact .frz .nilp
    · simp only [V.ren, hf]; exact .frz (.undef _)
    · rw [hr.nils_inv]; exact .frz .nils
    · simp only [V.ren, hf]; exact .frz (.undef _)
    · rw [hr.nilf_inv]; exact .frz .nilf
    · rw [hr.nili_inv]; exact .frz .nili
  cases v with
  | agg cs =>
    obtain ⟨xs, rfl, hl, hx⟩ := h.agg_inv
    simp only [V.ren, renL_map]
    refine .agg _ _ (by simpa using hl) fun i hi => ?_
    have hi' : i < cs.length := by simpa using hi
    have hpc : cs.all _ = true := hp
    simpa using one (List.all_eq_true.1 hpc _ (List.getElem_mem hi')) (hx i hi' (by omega))
  | tup cs =>
    obtain ⟨xs, rfl, hl, hx⟩ := h.tup_inv
    simp only [V.ren, renL_map]
    refine .tup _ _ (by simpa using hl) fun i hi => ?_
    have hi' : i < cs.length := by simpa using hi
    have hpc : cs.all _ = true := hp
    simpa using one (List.all_eq_true.1 hpc _ (List.getElem_mem hi')) (hx i hi' (by omega))
  | _ => exact one hp h
theorem callV_sound {P : Program} {G : Nat → V} {f : Nat} {F : FS} (S : SoundF P G f F) {ks bs : List Nat} {outs : List (Nat × Nat)} {args : List V} {v : V} {h' : Heap} (e : callV F ks bs outs args h = some (v, h')) {xs : Array Value}
    (H : HRel σ h w) (hG : GRel G σ w) (ha : CRel σ w args xs) : Calls P f xs w (Post σ w v h') := by
  unfold callV at e
  split at e
  case isFalse => simp at e
  case isTrue hn =>
  simp only [Bool.and_eq_true, List.all_eq_true, decide_eq_true_eq] at hn
  obtain ⟨⟨⟨n1, n2⟩, n3⟩, n4⟩ := hn
  have n1 := nodupB_spec n1
  have N : Names ks bs outs := by
    obtain ⟨a1, a2, a3⟩ := List.nodup_append.1 n1
    refine ⟨a1, a2, fun k hk hk' => a3 k hk k hk' rfl, nodupB_spec n2, fun o ho => n3 o ho, fun k hk => ?_⟩
    unfold disjL at n4
    have := List.all_eq_true.1 n4 k hk
    simpa using this
  obtain ⟨⟨v1, hc⟩, e1, e2⟩ := Option.bind_eq_some_iff.1 e
  simp only at e2
  split at e2
  case isFalse => simp at e2
  case isTrue hb =>
  injection e2 with e2
  injection e2 with ea eb
  subst ea eb
  have hargs : CRel (entS σ ks bs) w (renL (entM ks h) (if bs.isEmpty = true then args else args.map (snapA bs h))) xs := by
    rw [renL_map]
    split
    · exact ⟨by simpa using ha.1, fun i h1 h2 => by simpa using ren_in H (ha.2 i (by simpa using h1) h2)⟩
    · exact ⟨by simpa using ha.1, fun i h1 h2 => by simpa using snapA_in H N.kb (ha.2 i (by simpa using h1) h2)⟩
  have hG' : GRel G (entS σ ks bs) w := fun g => (hG g).mono fun b hf => ⟨frz_ent b hf, rfl⟩
  refine (S.run _ _ _ _ e1 _ w xs (ent_hrel H N.k) hG' hargs).mono ?_
  rintro en w' ⟨x, σ', rfl, hx, H', hv⟩
  have hxe := ex_ext H N hx
  by_cases hbs : bs = []
  · subst hbs
    have hfz : ∀ b, Frz σ' w' b → Frz (exS σ σ' ks outs) w' b := by
      intro b hb
      refine ⟨hb.1, fun k R e => ?_, fun e => hb.2.2 (by rw [hx.nf]; exact .inl e)⟩
      simp only [exS] at e
      cases ho : outOf outs k with
      | some j => rw [ho] at e; exact hb.2.1 _ _ e
      | none =>
        rw [ho] at e
        cases hi : idxIn ks k with
        | some i => rw [hi] at e; exact hb.2.1 _ _ e
        | none =>
          rw [hi] at e
          refine hb.2.2 ?_
          rw [hx.nf]
          exact .inr ⟨k, R, fun hk => by
            obtain ⟨i, hi', rfl⟩ := List.mem_iff_getElem.1 hk
            rw [idxIn_of_get N.k (List.getElem?_eq_getElem hi')] at hi
            simp at hi, by simp, e⟩
    have ho := fun v x hv => ex_out (v := v) (x := x) H N hx hfz hv
    exact ⟨x, _, rfl, hxe, ex_hrel H N hx H' (.inr ho), ho _ _ hv⟩
  · have hb' : v1.plain = true ∧ ks = [] ∧ outs = [] := by
      simp only [List.isEmpty_iff, Bool.or_eq_true, hbs, false_or, Bool.and_eq_true] at hb
      exact hb
    obtain ⟨hp, rfl, rfl⟩ := hb'
    exact ⟨x, _, rfl, hxe, ex_hrel H N hx H' (.inl ⟨rfl, rfl⟩), plain_any hp _ (fun k st => by simp [exM]) hv⟩
end
end Mini
end
/- One operation of a region: what the small machine does the real one does. -/
section
set_option linter.unusedVariables false
set_option linter.unusedSimpArgs false
namespace Mini
open Go
section
variable {P : Program} {G : Nat → V} {σ : Sg} {w : World} {h : Heap}
def SoundT (P : Program) (G : Nat → V) (T : Nat → Option FS) : Prop := ∀ f F, T f = some F → SoundF P G f F
theorem run_callFunc {f : Nat} {F : FS} (S : SoundF P G f F) (xs : Array Value) : (callFunc f xs).run P w = .ok (.enter f xs) w := by
  obtain ⟨fn, h1, h2, h3⟩ := S.fn
  simp only [callFunc, Sem.run_bind, run_program, Result.andThen_ok, h1]
  simp only [h2, h3, Bool.false_eq_true, if_false, Sem.run_pure]
/-- A call, once it is known which function is entered. -/
theorem enter_wp {f : Nat} {F : FS} (S : SoundF P G f F) {ks bs : List Nat} {outs : List (Nat × Nat)} {args : List V} {v : V} {h' : Heap} (e : callV F ks bs outs args h = some (v, h')) {xs : Array Value}
    (H : HRel σ h w) (hG : GRel G σ w) (ha : CRel σ w args xs) {o : Oper} {a : Act} (hrun : (execOp a.eval o).run P w = .ok (.enter f xs) w) {K : Act → World → Prop} {Q : Exit → Act → World → Prop}
    (hK : ∀ r w' σ', Ext σ w σ' w' → HRel σ' h' w' → VRel σ' w' v r → K (a.put o.dst r) w') : o.wp P a w K Q := by
  unfold Oper.wp
  rw [hrun]
  simp only [Oper.upon_enter]
  refine (callV_sound S e H hG ha).mono ?_
  rintro en w' ⟨x, σ', rfl, hx, H', hv⟩
  exact hK x w' σ' hx H' hv
theorem done_wp {s : Sem Value} {v : V} {h' : Heap} {o : Oper} {a : Act} (d : Done P σ w s v h') (hs : execOp a.eval o = (do pure (.value (← s)))) {K : Act → World → Prop} {Q : Exit → Act → World → Prop}
    (hK : ∀ r w' σ', Ext σ w σ' w' → HRel σ' h' w' → VRel σ' w' v r → K (a.put o.dst r) w') : o.wp P a w K Q := by
  obtain ⟨r, w', σ', hr, hx, H', hv⟩ := d
  unfold Oper.wp
  rw [hs]
  simp only [Sem.run_bind, hr, Result.andThen_ok, Sem.run_pure, Oper.upon_value]
  exact hK r w' σ' hx H' hv
theorem map_crel {ev : Operand → V} {ρ : Operand → Value} (hev : ∀ x, VRel σ w (ev x) (ρ x)) (args : Array Operand) : CRel σ w (args.toList.map ev) (args.map ρ) := ⟨by simp, fun i h1 h2 => by simpa using hev _⟩
theorem ld_pointer {n : Nat} {p v : V} {xp : Value} (hp : VRel σ w p xp) (e : ldV n p h = some v) : ∃ a, xp = .pointer (some a) := by
  cases p with
  | fz u => obtain ⟨b, o, c, rfl, _⟩ := hp.fz_inv; exact ⟨_, rfl⟩
  | ptr k o st => obtain ⟨b, rfl, _⟩ := hp.ptr_inv; exact ⟨_, rfl⟩
  | _ => simp [ldV] at e
def MethV (m : Option Nat) (v : V) (h : Heap) (u : V) : Prop := match m with | none => u = v | some n => ldV n v h = some u
theorem run_wrapNil (t : TypeId) (a : Addr) (s1 s2 : ByteArray) : Builtin.ssaWrapNilChk_ #[t] t #[.pointer (some a), .string s1, .string s2] = pure (.pointer (some a)) := rfl
theorem methOf_sound (H : HRel σ h w) {t : TypeId} {name : String} {f : Nat} {m : Option Nat} (e : methOf P t name = some (f, m)) {v u : V} {x : Value} (hv : VRel σ w v x) (hu : MethV m v h u) :
    ∃ y, (method (P.types.size + Made.depth) t x name).run P w = .ok (f, y) w ∧ VRel σ w u y := by
  obtain ⟨n, hn⟩ : ∃ n, P.types.size + Made.depth = n + 1 := ⟨P.types.size + 99, by simp [Made.depth]⟩
  rw [hn]
  unfold methOf at e
  split at e
  case h_2 => simp at e
  case h_1 i hi =>
  split at e
  case h_2 => simp at e
  case h_1 mt hm =>
  split at e
  case isFalse => simp at e
  case isTrue hpath =>
  have hp : mt.path = #[] := by simpa using hpath
  have base : ∀ f pr, mt.func = some (f, pr) → (method (n + 1) t x name).run P w = ((receiverAt t (.val x) pr (some ((name.splitOn ".").getLastD name))).run P w).andThen fun r w' => .ok (f, r) w' := by
    intro f pr hf
    simp only [method, Sem.run_bind, run_typeInfo_of hi, Result.andThen_ok, hm, hp, follow, Sem.run_pure, hf]
    rfl
  split at e
  · rename_i f' pe hf hu'
    injection e with e
    injection e with e1 e2
    subst e1 e2
    have hu : u = v := hu
    subst hu
    refine ⟨x, ?_, hv⟩
    rw [base _ _ hf]
    simp [receiverAt, run_underlying_of hu', Place.get]
  · rename_i f' pe hf hu'
    obtain ⟨k, hk, e⟩ := Option.map_eq_some_iff.1 e
    injection e with e1 e2
    subst e1 e2
    have hu : ldV k v h = some u := hu
    obtain ⟨a, rfl⟩ := ld_pointer hv hu
    obtain ⟨y, hy, hvy⟩ := ld_sound (P := P) H hv hk hu
    refine ⟨y, ?_, hvy⟩
    simp only [Instr.loadAt, Instr.sureAddr, Sem.run_bind, Sem.run_pure, Result.andThen_ok] at hy
    rw [base _ _ hf]
    simp only [receiverAt, Sem.run_bind, run_underlying_of hu', Result.andThen_ok, Place.get, Sem.run_pure, strVal, run_wrapNil, asAddr, hy]
  · simp at e
theorem slc_done {s d e : TypeId} {x v : V} {h' : Heap} {xx : Value} (H : HRel σ h w) (hd : P.underlying d = some (.slice e)) (he : P.underlying e = some (.int .u8)) (hs : s = d) (hx : VRel σ w x xx) (ee : slcV x h = some (v, h')) :
    Done P σ w (convert s d xx) v h' := by
  subst hs
  unfold slcV at ee
  split at ee
  case h_2 => simp at ee
  case h_1 k off len cap st =>
  obtain ⟨cs, hcs, ee⟩ := Option.bind_eq_some_iff.1 ee
  split at ee
  case isFalse => simp at ee
  case isTrue hh =>
  obtain ⟨hpos, hle, hint⟩ := hh
  injection ee with ee
  injection ee with e1 e2
  subst e1 e2
  obtain ⟨hst, hv⟩ := hx.sl_inv
  rcases hv with ⟨a, _, h0, _⟩ | ⟨b, c, rfl, hlc, hcc, hk1, hk2⟩
  · omega
  rcases H.cells hcs with ⟨h1, _⟩ | ⟨b', R, xs, ty, fr, hk, hb, hR, hcl, hfr, hcr⟩
  · exact absurd h1 hk2
  obtain ⟨rfl, hoc⟩ := hk1 b' R hk
  have hbl : b' < w.heap.size := (Array.getElem?_eq_some_iff.1 hb).1
  have hsh : w.shape? b' = some (ty, xs.size) := by simp [World.shape?, hb]
  have hfz : ∀ b, (w.freeze { block := b', off := xs.size } 1).heap[b]? = if b' = b then (w.heap[b]?).map (fun | .cells c elem (lo, hi) => .cells c elem (if lo == hi then (xs.size, xs.size + 1) else (min lo xs.size, max hi (xs.size + 1))) | o => o) else w.heap[b]? := by
    intro b
    simp only [World.freeze, Nat.one_ne_zero, if_false]
    rw [Array.getElem?_modify]
    split <;> rfl
  obtain ⟨fr', hfr'⟩ : ∃ fr', (w.freeze { block := b', off := xs.size } 1).heap[b']? = some (.cells xs ty fr') := by
    rw [hfz, if_pos rfl, hb]
    exact ⟨_, rfl⟩
  have t : Turn σ w k ⟨(σ k).st + 1, none⟩ (w.freeze { block := b', off := xs.size } 1) :=
    ⟨rfl, rfl, rfl, by simp [World.freeze], fun b hb' hn => by
      rw [hfz, if_neg]
      intro e
      subst e
      exact hn R (by rw [hk]), .inr (Nat.lt_succ_self _), fun b R e => by simp at e⟩
  refine ⟨.slice (some ⟨b', off, none⟩) len c, w.freeze { block := b', off := xs.size } 1, _, ?_, t.ext, ?_, ?_⟩
  · simp [convert, run_underlying_of hd, run_underlying_of he, markStringish, hsh]
  · unfold kill
    refine t.hrel H (by rw [H.st]) ?_
    trivial
  · have hlen : ((cs.drop off).take len).length = len := by simp; omega
    have key := FRel.vec (fr := Frz (updS σ k ⟨(σ k).st + 1, none⟩) (w.freeze { block := b', off := xs.size } 1)) (w := w.freeze { block := b', off := xs.size } 1) ((cs.drop off).take len) b' off c 1 (fun i _ => xs.getD (off + i) undef)
      ⟨by simpa [World.freeze] using hbl, fun j R' e => ?_, H.nfd k b' R (by rw [hk])⟩ (by omega) (fun i hi => ?_) (fun i j hi hj => ?_) (fun i hi j hj => ?_)
    · rw [hlen] at key
      exact .frz key
    · unfold updS at e
      simp only at e
      split at e
      · simp at e
      · rename_i hne
        exact hne (H.inj _ _ _ _ _ e (by rw [hk]))
    · have := List.all_eq_true.1 hint _ (List.getElem_mem hi)
      revert this
      generalize ((cs.drop off).take len)[i] = q
      intro hq
      cases q <;> simp [isInt] at hq
      rfl
    · rw [hlen] at hi
      have hlt : off + i < xs.size := by omega
      simp only [World.cell?, hfr']
      have hj0 : j = 0 := by omega
      subst hj0
      simp [hlt]
    · have hi' : i < len := by rw [hlen] at hi; exact hi
      have hlt : off + i < cs.length := by omega
      have hlt' : off + i < xs.size := by omega
      have hq := List.all_eq_true.1 hint _ (List.getElem_mem hi)
      have hv := hcr (off + i) hlt hlt'
      have he : ((cs.drop off).take len)[i] = cs[off + i] := by simp
      have hx : xs.getD (off + i) undef = xs[off + i] := by simp [Array.getD, hlt']
      rw [hx]
      revert hj hq
      rw [he]
      revert hv
      generalize cs[off + i] = q
      intro hv hj hq
      cases q <;> simp [isInt] at hq
      rename_i kk nn
      have hj0 : j = 0 := by simp [V.cells] at hj; omega
      subst hj0
      rw [hv.int_inv]
      exact .int _ _
theorem heapOp_wp (T : Nat → Option FS) (hT : SoundT P G T) (H : HRel σ h w) (hG : GRel G σ w) {o : Oper} {a : Act} {ev : Operand → V} (hev : ∀ x, VRel σ w (ev x) (a.eval x)) {an : OA} {v : V} {h' : Heap} (e : heapOp P T an ev h o.op o.type = some (v, h'))
    {K : Act → World → Prop} {Q : Exit → Act → World → Prop} (hK : ∀ r w' σ', Ext σ w σ' w' → HRel σ' h' w' → VRel σ' w' v r → K (a.put o.dst r) w') : o.wp P a w K Q := by
  have runF_some : ∀ {f : Nat} {args : List V}, runF T f an args h = some (v, h') → ∃ F, SoundF P G f F ∧ callV F an.ks an.bs an.outs args h = some (v, h') := by
    intro f args e
    unfold runF at e
    split at e
    · rename_i F hF
      exact ⟨F, hT _ _ hF, e⟩
    · simp at e
  cases hop : o.op with
  | store t p x =>
    rw [hop] at e
    simp only [heapOp] at e
    split at e
    · rename_i n hs
      obtain ⟨h1, e1, e⟩ := Option.bind_eq_some_iff.1 e
      injection e with e
      injection e with ea eb
      subst ea eb
      obtain ⟨w', σ', hr, hx, H'⟩ := st_sound (P := P) H hs (hev p) (hev x) e1
      unfold Oper.wp
      have : (execOp a.eval o).run P w = .ok .skip w' := by simp [execOp, hop, hr]
      rw [this]
      simp only [Oper.upon_skip]
      exact hK undef w' σ' hx H' (.tup _ _ (by simp) fun i hi => by simp at hi)
    · simp at e
  | alloc t =>
    rw [hop] at e
    simp only [heapOp] at e
    split at e
    · rename_i n z hs hz
      exact done_wp (alloc_done H hs hz e) (by simp [execOp, hop]) hK
    · simp at e
  | box t x =>
    rw [hop] at e
    simp only [heapOp] at e
    split at e
    · exact done_wp (box_done (t := t) H (hev x) e) (by simp [execOp, hop]) hK
    · simp at e
  | buildSlice t len parts =>
    rw [hop] at e
    simp only [heapOp] at e
    split at e
    · rename_i e' hu
      split at e
      · rename_i sz z hs hz
        split at e
        · rename_i hlim
          obtain ⟨cs, hf, e⟩ := Option.bind_eq_some_iff.1 e
          exact done_wp (bslice_done H hev hu hs hz hlim hf e) (by simp [execOp, hop]) hK
        · simp at e
      · simp at e
    · simp at e
  | makeSlice t l c =>
    rw [hop] at e
    simp only [heapOp] at e
    split at e
    · rename_i e' hu
      split at e
      · rename_i sz z lim hs hz hl
        exact done_wp (mkSl_done H hu hs hz hl (hev l) (hev c) e) (by simp [execOp, hop]) hK
      · simp at e
    · simp at e
  | call c =>
    rw [hop] at e
    obtain ⟨callee, args, ats⟩ := c
    cases callee with
    | builtin b =>
      cases b <;> simp only [heapOp] at e <;> first | (simp at e; done) | skip
      · -- append
        split at e
        · rename_i d x t u rest hargs hats
          have hargs' : args = #[d, x] := by
            apply Array.ext'
            simpa using hargs
          have h0 : ats[0]? = some t := by rw [← Array.getElem?_toList, hats]; rfl
          have h1 : ats[1]? = some u := by rw [← Array.getElem?_toList, hats]; rfl
          subst hargs'
          have key : ∀ {e' : TypeId} {du : TypeDesc}, P.underlying t = some (.slice e') → P.underlying u = some du → (∀ k, du ≠ .int k) → (match szOf P e', limOf P e', zeroOf P e' with
              | some sz, some lim, some _ => appV an.id lim sz (ev d) (ev x) h
              | _, _, _ => none) = some (v, h') → o.wp P a w K Q := by
            intro e' du ht hu hdu e
            split at e
            · rename_i sz lim z hs hl hz
              exact done_wp (app_done (ty := o.type) H h0 h1 ht hu hdu hs hz hl (hev d) (hev x) e) (by simp [execOp, hop, resolve, invoke, builtin]) hK
            · simp at e
          split at e
          · rename_i e' e'' ht hu
            exact key ht hu (by simp) e
          · rename_i e' ht hu
            exact key ht hu (by simp) e
          · simp at e
        · simp at e
      · -- copy
        split at e
        · rename_i d x t rest hargs hats
          have hargs' : args = #[d, x] := by
            apply Array.ext'
            simpa using hargs
          have h0 : ats[0]? = some t := by rw [← Array.getElem?_toList, hats]; rfl
          subst hargs'
          split at e
          · rename_i e' ht
            split at e
            · rename_i sz hs
              exact done_wp (copy_done (ty := o.type) H h0 ht hs (hev d) (hev x) e) (by simp [execOp, hop, resolve, invoke, builtin]) hK
            · simp at e
          · simp at e
        · simp at e
    | value f =>
      have fv : ∀ {y : Operand}, f = y → runFV T (ev y) an (args.toList.map ev) h = some (v, h') → o.wp P a w K Q := by
        intro y hy e
        unfold runFV at e
        split at e
        · rename_i n first cap hf
          obtain ⟨F, S, e⟩ := runF_some e
          have hv := hev y
          rw [hf] at hv
          obtain ⟨xs, ys, hfe, hx1, hy1, hx, hy2⟩ := hv.fn_inv
          have hm := map_crel hev args
          refine enter_wp S e (xs := xs ++ args.map a.eval ++ ys) H hG ?_ ?_ hK
          · refine ⟨by simp [hx1, hy1], fun i h1 h2 => ?_⟩
            simp only [List.length_append, List.length_map, Array.length_toList] at h1
            by_cases c1 : i < xs.size
            · rw [List.getElem_append_left (by simp; omega), List.getElem_append_left (by omega), Array.getElem_append_left (by simp; omega), Array.getElem_append_left c1]
              exact hx i _ _
            · by_cases c2 : i < xs.size + args.size
              · rw [List.getElem_append_left (by simp; omega), List.getElem_append_right (by omega), Array.getElem_append_left (by simp; omega), Array.getElem_append_right (by omega)]
                simp only [hx1]
                exact hm.2 _ _ _
              · rw [List.getElem_append_right (by simp; omega), Array.getElem_append_right (by simp; omega)]
                simp only [List.length_append, List.length_map, Array.length_toList, hx1, Array.size_append, Array.size_map]
                exact hy2 _ _ _
          · subst hy
            simp only [execOp, hop, resolve, Sem.run_bind, hfe, Deferred.ofValue, Sem.run_pure, Result.andThen_ok, invoke]
            exact run_callFunc S _
        · simp at e
      cases f with
      | func f =>
        simp only [heapOp] at e
        obtain ⟨F, S, e⟩ := runF_some e
        refine enter_wp S e (xs := args.map a.eval) H hG (map_crel hev args) ?_ hK
        have hfe : a.eval (.func f) = .func (.func f) #[] #[] := rfl
        simp only [execOp, hop, resolve, Sem.run_bind, hfe, Deferred.ofValue, Sem.run_pure, Result.andThen_ok, invoke]
        simpa using run_callFunc S _
      | tmp t => simp only [heapOp] at e; exact fv rfl e
      | const c => simp only [heapOp] at e; exact fv rfl e
      | global g => simp only [heapOp] at e; exact fv rfl e
    | invoke r name =>
      simp only [heapOp] at e
      unfold runM at e
      split at e
      · rename_i t u hr
        have hv := hev r
        rw [hr] at hv
        obtain ⟨y, hre, hy⟩ := hv.iface_inv
        have hm := map_crel hev args
        have fin : ∀ {f : Nat} {m : Option Nat} {u' : V}, methOf P t name = some (f, m) → MethV m u h u' → runF T f an (u' :: args.toList.map ev) h = some (v, h') → o.wp P a w K Q := by
          intro f m u' hmeth hmv e
          obtain ⟨F, S, e⟩ := runF_some e
          obtain ⟨z, hz, hvz⟩ := methOf_sound (P := P) H hmeth hy hmv
          refine enter_wp S e (xs := #[z] ++ args.map a.eval) H hG ⟨by simp [Nat.add_comm], fun i h1 h2 => ?_⟩ ?_ hK
          · cases i with
            | zero => simpa using hvz
            | succ i =>
              rw [Array.getElem_append_right (by simp)]
              simp only [List.getElem_cons_succ]
              exact hm.2 i _ _
          · have hx0 : (#[Value.iface t y] ++ args.map a.eval)[0]? = some (Value.iface t y) := by rw [Array.getElem?_append_left (by simp)]; rfl
            have hx1 : (#[Value.iface t y] ++ args.map a.eval).extract 1 (#[Value.iface t y] ++ args.map a.eval).size = args.map a.eval := by
              apply Array.ext'
              simp [List.take_of_length_le]
            simp only [execOp, hop, resolve, Sem.run_bind, hre, Sem.run_pure, Result.andThen_ok, invoke, hx0, hx1, callMethod, run_program, hz, run_callFunc S]
        split at e
        · rename_i f hmeth
          exact fin hmeth rfl e
        · rename_i f n hmeth
          obtain ⟨u', hu', e⟩ := Option.bind_eq_some_iff.1 e
          exact fin hmeth hu' e
        · simp at e
      · simp at e
  | convert s d x =>
    rw [hop] at e
    simp only [heapOp] at e
    split at e
    · rename_i e' hd
      split at e
      · rename_i he
        split at e
        · rename_i hs
          exact done_wp (slc_done H hd he hs (hev x) e) (by simp [execOp, hop]) hK
        · simp at e
      · simp at e
    · simp at e
  | _ => rw [hop] at e; simp [heapOp] at e
end
end Mini
end
/- What an operation of the small machine looks at, and what it turns: nothing else. -/
section
set_option linter.unusedVariables false
set_option linter.unusedSimpArgs false
namespace Mini
open Go
/-- Two heaps agree at slots. -/
def Agree (l : List Nat) (h g : Heap) : Prop := ∀ k ∈ l, hget h k = hget g k
theorem Agree.mono {l m : List Nat} {h g : Heap} (a : Agree l h g) (hs : ∀ k ∈ m, k ∈ l) : Agree m h g := fun k hk => a k (hs k hk)
theorem cellsAt_agree {h g : Heap} {k st : Nat} (e : hget h k = hget g k) : cellsAt h k st = cellsAt g k st := by
  unfold cellsAt
  rw [e]
theorem ldV_agree {sz : Nat} {p : V} {h g : Heap} (a : Agree (fpP p) h g) : ldV sz p h = ldV sz p g := by
  cases p <;> simp only [ldV]
  rename_i k off st
  rw [cellsAt_agree (a k (by simp [fpP]))]
theorem rowOf_agree {x : V} {h g : Heap} (a : Agree (fpP x) h g) : rowOf x h = rowOf x g := by
  cases x <;> simp only [rowOf]
  rename_i k off len cap sz st
  cases sz <;> simp only [rowOf]
  rw [cellsAt_agree (a k (by simp [fpP]))]
theorem slA_agree {n sz : Nat} {x : V} {lo hi : Option V} {h g : Heap} (a : Agree (fpP x) h g) : slA n sz x lo hi h = slA n sz x lo hi g := by
  cases x <;> simp only [slA]
  rename_i k off st
  rw [cellsAt_agree (a k (by simp [fpP]))]
theorem srcV_agree {sz : Nat} {x : V} {h g : Heap} (a : Agree (fpP x) h g) : srcV sz x h = srcV sz x g := by
  cases x <;> simp only [srcV]
  rename_i k off len cap sz' st
  rw [cellsAt_agree (a k (by simp [fpP]))]
/-- A slot is set alike in both. -/
def Alike (w : List Nat) (h h' g g' : Heap) : Prop := (∀ k ∈ w, hget g' k = hget h' k) ∧ (∀ k, k ∉ w → hget g' k = hget g k) ∧ ∀ k, k ∉ w → hget h' k = hget h k
theorem Alike.same {w : List Nat} {h g : Heap} (a : Agree w h g) : Alike w h h g g := ⟨fun k hk => (a k hk).symm, fun _ _ => rfl, fun _ _ => rfl⟩
theorem Alike.set {w : List Nat} {h g : Heap} (a : Agree w h g) {k : Nat} (hk : k ∈ w) (s : Slot) : Alike w h (hset h k s) g (hset g k s) := by
  refine ⟨fun j hj => ?_, fun j hj => ?_, fun j hj => ?_⟩
  · rw [hget_hset, hget_hset, a j hj]
  · rw [hget_hset, if_neg (fun e => hj (by rw [e]; exact hk))]
  · rw [hget_hset, if_neg (fun e => hj (by rw [e]; exact hk))]
theorem Alike.newS {w : List Nat} {h g : Heap} (a : Agree w h g) {k : Nat} (hk : k ∈ w) (cs : List V) : Alike w h (newS k cs h) g (newS k cs g) := by
  unfold Mini.newS
  rw [a k hk]
  exact Alike.set a hk _
section
variable {P : Program} {T : Nat → Option FS}
theorem ren_congr {f g : Nat → Nat → Option (Nat × Nat)} (e : f = g) (l : List V) : renL f l = renL g l := by rw [e]
theorem entM_agree {ks : List Nat} {h g : Heap} (a : Agree ks h g) : entM ks h = entM ks g := by
  funext k st
  unfold entM
  by_cases hk : k ∈ ks
  · rw [a k hk]
  · rw [idxIn_none hk]
    simp
theorem entH_agree {ks : List Nat} {h g : Heap} (a : Agree ks h g) : entH ks h = entH ks g := by
  unfold entH
  rw [entM_agree a]
  apply List.map_congr_left
  intro k hk
  rw [a k hk]
theorem snapV_agree {bs : List Nat} {h g : Heap} (a : Agree bs h g) (v : V) : snapV bs h v = snapV bs g v := by
  cases v <;> simp only [snapV]
  rename_i k off len cap sz st
  split
  · rename_i hk
    rw [cellsAt_agree (a k (by simpa using hk))]
  · rfl
theorem snapA_agree {bs : List Nat} {h g : Heap} (a : Agree bs h g) : snapA bs h = snapA bs g := by
  funext v
  cases v <;> simp only [snapA, snapV_agree a]
  congr 1
  apply List.map_congr_left
  intro x _
  exact snapV_agree a x
theorem exM_agree {ks : List Nat} {outs : List (Nat × Nat)} {h g : Heap} (a : Agree (ks ++ outs.map (·.2)) h g) : exM ks outs h = exM ks outs g := by
  funext i st
  cases hk : ks[i]? with
  | some k =>
    unfold exM
    rw [hk]
    simp only [a k (by simp [List.mem_of_getElem? hk])]
  | none =>
    have : ∀ (outs : List (Nat × Nat)), (∀ o ∈ outs, hget h o.2 = hget g o.2) → exM [] outs h i st = exM [] outs g i st := by
      intro outs
      induction outs with
      | nil => intro _; rfl
      | cons o l ih =>
        intro ho
        obtain ⟨j, id⟩ := o
        simp only [exM, List.getElem?_nil]
        rw [ih fun o h => ho o (by simp [h]), ho (j, id) (by simp)]
    have e : ∀ h, exM ks outs h i st = exM [] outs h i st := by
      intro h
      rw [exM.eq_def, hk, exM.eq_def [] outs]
      rfl
    rw [e, e]
    exact this outs fun o ho => a _ (by simp only [List.mem_append, List.mem_map]; exact .inr ⟨o, ho, rfl⟩)
theorem idxIn_none_not {ks : List Nat} {k : Nat} (h : idxIn ks k = none) : k ∉ ks := by
  induction ks with
  | nil => simp
  | cons a l ih =>
    simp only [idxIn] at h
    split at h
    · simp at h
    · rename_i hne
      have := ih (by simpa using h)
      intro hm
      rcases List.mem_cons.1 hm with h1 | h1
      · exact hne h1.symm
      · exact this h1
theorem callV_agree {F : FS} {ks bs : List Nat} {outs : List (Nat × Nat)} {args : List V} {h g : Heap} {v : V} {h' : Heap} (a : Agree (bs ++ (ks ++ outs.map (·.2))) h g) (e : callV F ks bs outs args h = some (v, h')) :
    ∃ g', callV F ks bs outs args g = some (v, g') ∧ Alike (ks ++ outs.map (·.2)) h h' g g' := by
  have ak : Agree ks h g := a.mono fun k hk => by simp [hk]
  have ab : Agree bs h g := a.mono fun k hk => by simp [hk]
  have ao : Agree (ks ++ outs.map (·.2)) h g := a.mono fun k hk => by rw [List.mem_append]; exact .inr hk
  unfold callV at e ⊢
  split at e
  case isFalse => simp at e
  case isTrue hn =>
  rw [if_pos hn]
  simp only [Bool.and_eq_true] at hn
  obtain ⟨⟨⟨n1, n2⟩, n3⟩, n4⟩ := hn
  obtain ⟨m1, m2, m3⟩ := List.nodup_append.1 (nodupB_spec n1)
  obtain ⟨⟨v1, hc⟩, e1, e2⟩ := Option.bind_eq_some_iff.1 e
  rw [← entM_agree ak, ← entH_agree ak, ← snapA_agree ab, e1]
  simp only [Option.bind_some] at e2 ⊢
  split at e2
  case isFalse => simp at e2
  case isTrue hb =>
  rw [if_pos hb]
  injection e2 with e2
  injection e2 with ea eb
  subst ea eb
  rw [← exM_agree ao]
  refine ⟨_, rfl, ?_⟩
  have hg : ∀ (h0 hb : Heap) k, hget (exO (exM ks outs h) h0 outs hc (exK (exM ks outs h) h0 ks 0 hc hb)) k = match outOf outs k with
      | some j => renS (exM ks outs h) ((hget h0 k).st + 1) (hget hc j)
      | none => match idxIn ks k with
        | some i => renS (exM ks outs h) (hget h0 k).st (hget hc i)
        | none => hget hb k := by
    intro h0 hb k
    rw [hget_exO _ _ _ _ _ m2, hget_exK _ _ _ _ _ _ m1]
    cases outOf outs k with
    | some j => rfl
    | none =>
      cases idxIn ks k with
      | some i => simp only [Nat.zero_add]
      | none => rfl
  have hout : ∀ k, k ∉ ks ++ outs.map (·.2) → outOf outs k = none ∧ idxIn ks k = none := by
    intro k hk
    rw [List.mem_append, not_or] at hk
    exact ⟨outOf_none hk.2, idxIn_none hk.1⟩
  refine ⟨fun k hk => ?_, fun k hk => ?_, fun k hk => ?_⟩
  · rw [hg, hg, ao k hk]
  · rw [hg, (hout k hk).1, (hout k hk).2]
  · rw [hg, (hout k hk).1, (hout k hk).2]
theorem valOp_agree {ev : Operand → V} {h g : Heap} {o : Op} {ty : TypeId} {an : OA} (a : Agree (rdF P ev an o) h g) (hv : isVal o = true) : valOp P ev h o ty = valOp P ev g o ty := by
  cases o <;> first | rfl | (simp [isVal] at hv; done) | skip
  · rename_i t p
    simp only [valOp]
    cases szOf P t with
    | none => rfl
    | some n => exact ldV_agree a
  · rename_i s d x
    simp only [valOp]
    have : b2sV (ev x) h = b2sV (ev x) g := by
      unfold b2sV
      rw [rowOf_agree a]
    rw [this]
  · rename_i t x lo hi mx
    simp only [valOp]
    cases mx with
    | some m => rfl
    | none =>
      cases hu : P.underlying t with
      | none => rfl
      | some d =>
        cases d <;> first | rfl | skip
        rename_i n e'
        simp only
        cases szOf P e' with
        | none => rfl
        | some sz => exact slA_agree (by simpa [rdF, hu] using a)
  · rename_i c
    obtain ⟨callee, args, ats⟩ := c
    cases callee with
    | builtin b => cases b <;> rfl
    | value f => rfl
    | invoke r n => rfl
theorem appV_agree {id : Option Nat} {lim sz : Nat} {d x : V} {h g : Heap} {v : V} {h' : Heap} (a : Agree (fpP x ++ (id.toList ++ fpP d)) h g) (e : appV id lim sz d x h = some (v, h')) :
    ∃ g', appV id lim sz d x g = some (v, g') ∧ Alike (id.toList ++ fpP d) h h' g g' := by
  have ax : Agree (fpP x) h g := a.mono fun k hk => by simp [hk]
  have aw : Agree (id.toList ++ fpP d) h g := a.mono fun k hk => by rw [List.mem_append]; exact .inr hk
  unfold appV at e ⊢
  rw [← srcV_agree ax]
  obtain ⟨r, hr, e0⟩ := Option.bind_eq_some_iff.1 e
  replace e := e0
  clear e0
  rw [hr]
  simp only [Option.bind_some]
  split at e
  case isFalse => simp at e
  case isTrue hok =>
  rw [if_pos hok]
  cases d with
  | nils =>
    simp only at e ⊢
    cases id with
    | none => simp at e
    | some k =>
      simp only at e ⊢
      split at e
      · rename_i hh
        injection e with e
        injection e with e1 e2
        subst e1 e2
        rw [if_pos hh]
        have hk : k ∈ (some k).toList ++ fpP V.nils := by simp
        exact ⟨_, by unfold slTo; rw [aw k hk], Alike.newS aw hk _⟩
      · simp at e
  | sl k off len cap sz' st =>
    have hk : k ∈ id.toList ++ fpP (V.sl k off len cap sz' st) := by simp [fpP]
    simp only at e ⊢
    split at e
    case isFalse => simp at e
    case isTrue hsz =>
    rw [if_pos hsz, ← cellsAt_agree (aw k hk)]
    obtain ⟨cs, hcs, e0⟩ := Option.bind_eq_some_iff.1 e
    replace e := e0
    clear e0
    rw [hcs]
    simp only [Option.bind_some]
    split at e
    case isFalse => simp at e
    case isTrue hle =>
    rw [if_pos hle]
    split at e
    · rename_i hf
      rw [if_pos hf]
      split at e
      · rename_i h0
        rw [if_pos h0]
        injection e with e
        injection e with e1 e2
        subst e1 e2
        exact ⟨_, rfl, Alike.same aw⟩
      · rename_i h0
        rw [if_neg h0]
        injection e with e
        injection e with e1 e2
        subst e1 e2
        exact ⟨_, rfl, Alike.set aw hk _⟩
    · rename_i hf
      rw [if_neg hf]
      split at e
      · rename_i hc
        rw [if_pos hc]
        injection e with e
        injection e with e1 e2
        subst e1 e2
        exact ⟨_, rfl, Alike.set aw hk _⟩
      · simp at e
  | _ => simp at e
theorem copyV_agree {sz : Nat} {d x : V} {h g : Heap} {v : V} {h' : Heap} (a : Agree (fpP x ++ fpP d) h g) (e : copyV sz d x h = some (v, h')) : ∃ g', copyV sz d x g = some (v, g') ∧ Alike (fpP d) h h' g g' := by
  have ax : Agree (fpP x) h g := a.mono fun k hk => by simp [hk]
  have aw : Agree (fpP d) h g := a.mono fun k hk => by rw [List.mem_append]; exact .inr hk
  unfold copyV at e ⊢
  rw [← srcV_agree ax]
  obtain ⟨r, hr, e0⟩ := Option.bind_eq_some_iff.1 e
  replace e := e0
  clear e0
  rw [hr]
  simp only [Option.bind_some]
  split at e
  case isFalse => simp at e
  case isTrue hok =>
  rw [if_pos hok]
  cases d with
  | sl k off len cap sz' st =>
    have hk : k ∈ fpP (V.sl k off len cap sz' st) := by simp [fpP]
    simp only at e ⊢
    split at e
    case isFalse => simp at e
    case isTrue hsz =>
    rw [if_pos hsz, ← cellsAt_agree (aw k hk)]
    obtain ⟨cs, hcs, e0⟩ := Option.bind_eq_some_iff.1 e
    replace e := e0
    clear e0
    rw [hcs]
    simp only [Option.bind_some]
    split at e
    · rename_i hf
      rw [if_pos hf]
      injection e with e
      injection e with e1 e2
      subst e1 e2
      exact ⟨_, rfl, Alike.set aw hk _⟩
    · simp at e
  | _ => simp at e
theorem slcV_agree {x : V} {h g : Heap} {v : V} {h' : Heap} (a : Agree (fpP x) h g) (e : slcV x h = some (v, h')) : ∃ g', slcV x g = some (v, g') ∧ Alike (fpP x) h h' g g' := by
  unfold slcV at e ⊢
  split at e
  case h_2 => simp at e
  case h_1 k off len cap st =>
  have hk : k ∈ fpP (V.sl k off len cap 0 st) := by simp [fpP]
  rw [← cellsAt_agree (a k hk)]
  obtain ⟨cs, hcs, e⟩ := Option.bind_eq_some_iff.1 e
  rw [hcs]
  simp only [Option.bind_some]
  split at e
  · rename_i hh
    rw [if_pos hh]
    injection e with e
    injection e with e1 e2
    subst e1 e2
    refine ⟨_, rfl, ?_⟩
    unfold kill
    rw [a k hk]
    exact Alike.set a hk _
  · simp at e
theorem heapOp_agree {ev : Operand → V} {h g : Heap} {o : Op} {ty : TypeId} {an : OA} {v : V} {h' : Heap} (a : Agree (rdF P ev an o ++ wrF P ev an o) h g) (e : heapOp P T an ev h o ty = some (v, h')) :
    ∃ g', heapOp P T an ev g o ty = some (v, g') ∧ Alike (wrF P ev an o) h h' g g' := by
  have aw : Agree (wrF P ev an o) h g := a.mono fun k hk => by rw [List.mem_append]; exact .inr hk
  have rf : ∀ {f : Nat} {args : List V} {g0 : Heap}, Agree (an.bs ++ (an.ks ++ an.outs.map (·.2))) h g → runF T f an args h = some (v, h') → ∃ g', runF T f an args g = some (v, g') ∧ Alike (an.ks ++ an.outs.map (·.2)) h h' g g' := by
    intro f args _ a e
    unfold runF at e ⊢
    cases hf : T f with
    | none => rw [hf] at e; simp at e
    | some F =>
      rw [hf] at e
      exact callV_agree a e
  cases o <;> first | (simp [heapOp] at e; done) | skip
  case convert s d x =>
    simp only [heapOp] at e ⊢
    split at e
    · rename_i e' hd
      split at e
      · rename_i he
        split at e
        · rename_i hs
          rw [if_pos hs]
          have hw : wrF P ev an (.convert s d x) = fpP (ev x) := by simp [wrF, hs]
          rw [hw] at aw ⊢
          exact slcV_agree aw e
        · simp at e
      · simp at e
    · simp at e
  · -- alloc
    rename_i t
    simp only [heapOp] at e ⊢
    split at e
    · rename_i n z hs hz
      unfold allocV at e ⊢
      cases hid : an.id with
      | none =>
        rw [hid] at e
        simp only at e ⊢
        obtain ⟨u, hu, e⟩ := Option.bind_eq_some_iff.1 e
        split at e
        · rename_i hn
          injection e with e
          injection e with e1 e2
          subst e1 e2
          exact ⟨g, by rw [hu]; simp [hn], Alike.same aw⟩
        · simp at e
      | some k =>
        rw [hid] at e
        simp only at e ⊢
        injection e with e
        injection e with e1 e2
        subst e1 e2
        have hk : k ∈ wrF P ev an (.alloc t) := by simp [wrF, hid]
        exact ⟨_, by unfold ptrTo; rw [aw k hk], Alike.newS aw hk _⟩
    · simp at e
  · -- box
    rename_i t x
    simp only [heapOp] at e ⊢
    split at e
    · rename_i n hs
      unfold boxV at e ⊢
      split at e
      case isFalse => simp at e
      case isTrue hf =>
      rw [if_pos hf]
      cases hid : an.id with
      | none =>
        rw [hid] at e
        simp only at e ⊢
        split at e
        · rename_i hn
          rw [if_pos hn]
          injection e with e
          injection e with e1 e2
          subst e1 e2
          exact ⟨g, rfl, Alike.same aw⟩
        · simp at e
      | some k =>
        rw [hid] at e
        simp only at e ⊢
        injection e with e
        injection e with e1 e2
        subst e1 e2
        have hk : k ∈ wrF P ev an (.box t x) := by simp [wrF, hid]
        exact ⟨_, by unfold ptrTo; rw [aw k hk], Alike.newS aw hk _⟩
    · simp at e
  · -- buildSlice
    rename_i t len parts
    simp only [heapOp] at e ⊢
    split at e
    · rename_i e' hu
      split at e
      · rename_i sz z hs hz
        split at e
        · rename_i hlim
          rw [if_pos hlim]
          obtain ⟨cs, hf, e0⟩ := Option.bind_eq_some_iff.1 e
          replace e := e0
          clear e0
          rw [hf]
          simp only [Option.bind_some]
          unfold newSl at e ⊢
          cases hid : an.id with
          | none =>
            rw [hid] at e
            simp only at e ⊢
            split at e
            · rename_i hn
              rw [if_pos hn]
              injection e with e
              injection e with e1 e2
              subst e1 e2
              exact ⟨g, rfl, Alike.same aw⟩
            · simp at e
          | some k =>
            rw [hid] at e
            simp only at e ⊢
            injection e with e
            injection e with e1 e2
            subst e1 e2
            have hk : k ∈ wrF P ev an (.buildSlice t len parts) := by simp [wrF, hid]
            exact ⟨_, by unfold slTo; rw [aw k hk], Alike.newS aw hk _⟩
        · simp at e
      · simp at e
    · simp at e
  · -- store
    rename_i t p x
    simp only [heapOp] at e ⊢
    split at e
    · rename_i n hs
      obtain ⟨h1, e1, e⟩ := Option.bind_eq_some_iff.1 e
      injection e with e
      injection e with ea eb
      subst ea eb
      have hp : Agree (fpP (ev p)) h g := aw
      show ∃ g', (stV n (ev p) (ev x) g).bind (fun h' => some (V.tup [], h')) = some (V.tup [], g') ∧ Alike (fpP (ev p)) h h1 g g'
      generalize ev p = q at *
      cases q with
      | ptr k off st =>
        simp only [stV] at e1 ⊢
        have hk : k ∈ fpP (V.ptr k off st) := by simp [fpP]
        rw [← cellsAt_agree (hp k hk)]
        obtain ⟨cs, hcs, e1⟩ := Option.bind_eq_some_iff.1 e1
        rw [hcs]
        simp only [Option.bind_some]
        split at e1
        · rename_i hh
          injection e1 with e1
          subst e1
          rw [if_pos hh]
          exact ⟨_, rfl, Alike.set hp hk _⟩
        · simp at e1
      | _ => simp [stV] at e1
    · simp at e
  · -- makeSlice
    rename_i t l c
    simp only [heapOp] at e ⊢
    split at e
    · rename_i e' hu
      split at e
      · rename_i sz z lim hs hz hl
        unfold mkSl at e ⊢
        split at e
        · rename_i k1 n k2 m hl1 hc1
          split at e
          · rename_i hh
            rw [if_pos hh]
            cases hid : an.id with
            | none =>
              rw [hid] at e
              simp only at e ⊢
              split at e
              · rename_i hn
                rw [if_pos hn]
                injection e with e
                injection e with e1 e2
                subst e1 e2
                exact ⟨g, rfl, Alike.same aw⟩
              · simp at e
            | some k =>
              rw [hid] at e
              simp only at e ⊢
              injection e with e
              injection e with e1 e2
              subst e1 e2
              have hk : k ∈ wrF P ev an (.makeSlice t l c) := by simp [wrF, hid]
              exact ⟨_, by rw [aw k hk], Alike.newS aw hk _⟩
          · simp at e
        · simp at e
      · simp at e
    · simp at e
  · -- calls
    rename_i c
    obtain ⟨callee, args, ats⟩ := c
    cases callee with
    | builtin b =>
      cases b <;> first | (simp [heapOp] at e; done) | skip
      · simp only [heapOp] at e ⊢
        split at e
        · rename_i d x t u rest hargs hats
          have a' : Agree (fpP (ev x) ++ (an.id.toList ++ fpP (ev d))) h g := by simpa [rdF, wrF, hargs] using a
          have hw : wrF P ev an (.call { callee := .builtin .append, args := args, argTypes := ats }) = an.id.toList ++ fpP (ev d) := by simp [wrF, hargs]
          rw [hw]
          split at e
          · split at e
            · exact appV_agree a' e
            · simp at e
          · split at e
            · exact appV_agree a' e
            · simp at e
          · simp at e
        · simp at e
      · simp only [heapOp] at e ⊢
        split at e
        · rename_i d x t rest hargs hats
          have a' : Agree (fpP (ev x) ++ fpP (ev d)) h g := by simpa [rdF, wrF, hargs] using a
          have hw : wrF P ev an (.call { callee := .builtin .copy, args := args, argTypes := ats }) = fpP (ev d) := by simp [wrF, hargs]
          rw [hw]
          split at e
          · split at e
            · exact copyV_agree a' e
            · simp at e
          · simp at e
        · simp at e
    | value f =>
      have a' : Agree (an.bs ++ (an.ks ++ an.outs.map (·.2))) h g := a
      have fv : ∀ {y : V}, runFV T y an (args.toList.map ev) h = some (v, h') → ∃ g', runFV T y an (args.toList.map ev) g = some (v, g') ∧ Alike (an.ks ++ an.outs.map (·.2)) h h' g g' := by
        intro y e
        unfold runFV at e ⊢
        split at e
        · exact rf (g0 := g) a' e
        · simp at e
      cases f with
      | func f => simp only [heapOp] at e ⊢; exact rf (g0 := g) a' e
      | tmp t => simp only [heapOp] at e ⊢; exact fv e
      | const c => simp only [heapOp] at e ⊢; exact fv e
      | global q => simp only [heapOp] at e ⊢; exact fv e
    | invoke r name =>
      simp only [heapOp] at e ⊢
      unfold runM at e ⊢
      have hw : wrF P ev an (.call { callee := .invoke r name, args := args, argTypes := ats }) = an.ks ++ an.outs.map (·.2) := rfl
      rw [hw]
      split at e
      · rename_i t u hr
        have a' : Agree ((an.bs ++ fpP u) ++ (an.ks ++ an.outs.map (·.2))) h g := by simpa [rdF, wrF, hr] using a
        have a1 : Agree (an.bs ++ (an.ks ++ an.outs.map (·.2))) h g := a'.mono fun k hk => by
          rw [List.mem_append] at hk
          rcases hk with hk | hk
          · simp [hk]
          · rw [List.mem_append]; exact .inr hk
        have a2 : Agree (fpP u) h g := a'.mono fun k hk => by simp [hk]
        split at e
        · exact rf (g0 := g) a1 e
        · rename_i f n hm
          rw [← ldV_agree a2]
          obtain ⟨y, hy, e⟩ := Option.bind_eq_some_iff.1 e
          rw [hy]
          exact rf (g0 := g) a1 e
        · simp at e
      · simp at e
end
end Mini
end
/- A region of operations in the text's order: what the small machine does the real one does. -/
section
set_option linter.unusedVariables false
set_option linter.unusedSimpArgs false
namespace Mini
open Go
/-- The small machine's state stands for the real one's. -/
structure RRel (G : Nat → V) (n : Nat) (σ : Sg) (s : St) (a : Act) (w : World) : Prop where
  hr : HRel σ s.h w
  gr : GRel G σ w
  env : ∀ t, VRel σ w (s.e t) (a.eval (.tmp t))
  siz : n ≤ a.tmps.size
  nod : a.defers = []
section
variable {P : Program} {G : Nat → V} {T : Nat → Option FS} {n : Nat} {σ : Sg} {s : St} {a : Act} {w : World}
theorem RRel.ev (R : RRel G n σ s a w) (x : Operand) : VRel σ w (evO G s.e x) (a.eval x) := by
  cases x with
  | tmp t => exact R.env t
  | const v => exact cstV_rel v
  | global g => exact .frz (R.gr g)
  | func f => exact .fn _ _ _ _ _ rfl rfl (fun i h => by simp at h) (fun i h => by simp at h)
theorem RRel.drew (R : RRel G n σ s a w) : RRel G n σ s a { w with drawn := w.drawn + 1 } :=
  ⟨R.hr.drew, R.gr.ext (Ext.refl σ w).drew, fun t => (R.env t).drew, R.siz, R.nod⟩
theorem put_size (a : Act) (d : Option Tmp) (v : Value) : (a.put d v).tmps.size = a.tmps.size := by cases d <;> simp [Act.put]
theorem put_defers (a : Act) (d : Option Tmp) (v : Value) : (a.put d v).defers = a.defers := by cases d <;> simp [Act.put]
theorem RRel.put {σ' : Sg} {w' : World} {h' : Heap} {d : Option Tmp} {v : V} {r : Value} (R : RRel G n σ s a w) (hx : Ext σ w σ' w') (H : HRel σ' h' w') (hd : ∀ t, d = some t → t < n) (hv : VRel σ' w' v r) :
    RRel G n σ' ⟨updD s.e d v, h'⟩ (a.put d r) w' where
  hr := H
  gr := R.gr.ext hx
  siz := by rw [put_size]; exact R.siz
  nod := by rw [put_defers]; exact R.nod
  env := fun t => by
    cases d with
    | none => exact (R.env t).ext hx
    | some d =>
      have hlt := Nat.lt_of_lt_of_le (hd d rfl) R.siz
      simp only [updD, upd, Act.put, Act.eval]
      by_cases e : t = d
      · subst e
        have : (a.tmps.setIfInBounds t r).getD t undef = r := by simp [hlt]
        rw [this]
        simpa using hv
      · have h1 : (a.tmps.setIfInBounds d r).getD t undef = a.tmps.getD t undef := by
          have : d ≠ t := fun h => e h.symm
          simp [Array.getElem?_setIfInBounds_ne this]
        have h2 : Nat.beq t d = false := by
          rw [← Bool.not_eq_true]
          intro h
          exact e (Nat.eq_of_beq_eq_true h)
        rw [h1, h2]
        exact (R.env t).ext hx
/-- One operation, its guard left out. -/
def coreO (P : Program) (T : Nat → Option FS) (an : OA) (ev : Operand → V) (h : Heap) (o : Oper) : Option (V × Heap) :=
  cond (isVal o.op) ((valOp P ev h o.op o.type).map fun v => (v, h)) (heapOp P T an ev h o.op o.type)
def stepO (P : Program) (T : Nat → Option FS) (G : Nat → V) (ops : Array Oper) (an : OA) (o : Oper) (s : St) : Option (V × Heap) :=
  match o.guard with
  | none => coreO P T an (evO G s.e) s.h o
  | some (g, want) => grdH (yieldV ops s.e g) want s.h (coreO P T an (evO G s.e) s.h o)
theorem coreO_wp (hT : SoundT P G T) (R : RRel G n σ s a w) {o : Oper} {an : OA} {v : V} {h' : Heap} (hd : ∀ t, o.dst = some t → t < n) (e : coreO P T an (evO G s.e) s.h o = some (v, h'))
    {K : Act → World → Prop} {Q : Exit → Act → World → Prop} (hK : ∀ a' w' σ', Ext σ w σ' w' → RRel G n σ' ⟨updD s.e o.dst v, h'⟩ a' w' → K a' w') : o.wp P a w K Q := by
  unfold coreO at e
  cases hi : isVal o.op with
  | true =>
    rw [hi] at e
    simp only [cond_true] at e
    obtain ⟨u, hu, e⟩ := Option.map_eq_some_iff.1 e
    injection e with e1 e2
    subst e1 e2
    obtain ⟨r, hr, hv⟩ := valOp_sound (P := P) R.hr (ρ := a.eval) R.ev hu
    unfold Oper.wp
    rw [hr]
    simp only [Oper.upon_value]
    exact hK _ _ _ (Ext.refl σ w) (R.put (Ext.refl σ w) R.hr hd hv)
  | false =>
    rw [hi] at e
    simp only [cond_false] at e
    exact heapOp_wp T hT R.hr R.gr R.ev e fun r w' σ' hx H hv => hK _ _ _ hx (R.put hx H hd hv)
theorem stepO_wp (hT : SoundT P G T) (R : RRel G n σ s a w) {ops : Array Oper} {o : Oper} {an : OA} {v : V} {h' : Heap} (hd : ∀ t, o.dst = some t → t < n) (e : stepO P T G ops an o s = some (v, h'))
    {K : Act → World → Prop} {Q : Exit → Act → World → Prop} (hK : ∀ a' w' σ', Ext σ w σ' w' → RRel G n σ' ⟨updD s.e o.dst v, h'⟩ a' w' → K a' w') :
    if Region.wanted o (yielded ops a.tmps) then o.wp P a w K Q ∨ (o.asks P a w ∧ LetsOut Q) else K (a.put o.dst undef) w := by
  unfold stepO at e
  have skip : v = .tup [] ∧ h' = s.h → K (a.put o.dst undef) w := by
    rintro ⟨rfl, rfl⟩
    exact hK _ _ _ (Ext.refl σ w) (R.put (Ext.refl σ w) R.hr hd (.tup _ _ (by simp) fun i hi => by simp at hi))
  cases hg : o.guard with
  | none =>
    rw [hg] at e
    have : Region.wanted o (yielded ops a.tmps) = true := by simp [Region.wanted, hg]
    rw [if_pos this]
    exact .inl (coreO_wp hT R hd e hK)
  | some gw =>
    obtain ⟨g, want⟩ := gw
    rw [hg] at e
    simp only at e
    have hw : Region.wanted o (yielded ops a.tmps) = (yielded ops a.tmps g == some want) := by simp [Region.wanted, hg]
    rw [hw]
    have hy : (∃ b, yieldV ops s.e g = .bool b ∧ yielded ops a.tmps g = some b) ∨ (yieldV ops s.e g = .tup [] ∧ yielded ops a.tmps g = none) ∨ grdH (yieldV ops s.e g) want s.h (coreO P T an (evO G s.e) s.h o) = none := by
      cases ho : ops[g]? with
      | none => exact .inr (.inr (by simp [yieldV, ho, grdH]))
      | some og =>
        cases hdd : og.dst with
        | none => exact .inr (.inr (by simp [yieldV, ho, hdd, grdH]))
        | some d =>
          have h1 : yieldV ops s.e g = s.e d := by simp [yieldV, ho, hdd]
          have h2 : yielded ops a.tmps g = match a.tmps[d]? with | some (.bool b) => some b | _ => none := by
            unfold yielded
            rw [ho]
            simp only [Option.bind_some, hdd]
            rfl
          have hv := R.env d
          have h3 : a.eval (.tmp d) = a.tmps.getD d undef := rfl
          rw [h1, h2]
          rw [h3] at hv
          have h4 : a.tmps.getD d undef = (a.tmps[d]?).getD undef := by simp
          rw [h4] at hv
          cases hed : s.e d with
          | bool b =>
            rw [hed] at hv
            have := hv.bool_inv
            refine .inl ⟨b, rfl, ?_⟩
            cases ht : a.tmps[d]? with
            | none => rw [ht] at this; simp [undef] at this
            | some x => rw [ht] at this; simp at this; rw [this]
          | tup vs =>
            cases vs with
            | nil =>
              rw [hed] at hv
              obtain ⟨xs, hx, _⟩ := hv.tup_inv
              refine .inr (.inl ⟨rfl, ?_⟩)
              cases ht : a.tmps[d]? with
              | none => rfl
              | some x => rw [ht] at hx; simp at hx; rw [hx]
            | cons y ys => exact .inr (.inr rfl)
          | _ => exact .inr (.inr rfl)
    rcases hy with ⟨b, h1, h2⟩ | ⟨h1, h2⟩ | h1
    · rw [h1] at e
      simp only [grdH] at e
      rw [h2]
      by_cases hb : b = want
      · subst hb
        simp only [Bool.xor_self, cond_false] at e
        simp only [beq_self_eq_true, if_true]
        exact .inl (coreO_wp hT R hd e hK)
      · have hx : Bool.xor b want = true := by cases b <;> cases want <;> simp_all
        rw [hx] at e
        simp only [cond_true] at e
        injection e with e
        injection e with e1 e2
        have : (some b == some want) = false := by simpa using hb
        rw [this]
        simp only [Bool.false_eq_true, if_false]
        exact skip ⟨e1.symm, e2.symm⟩
    · rw [h1] at e
      simp only [grdH] at e
      injection e with e
      injection e with e1 e2
      rw [h2]
      have : ((none : Option Bool) == some want) = false := rfl
      rw [this]
      simp only [Bool.false_eq_true, if_false]
      exact skip ⟨e1.symm, e2.symm⟩
    · rw [h1] at e
      simp at e
/-- What is recorded of an operation in a drawn region, and what is held of it against those before. -/
def recF (P : Program) (G : Nat → V) (A : List (Nat × OA)) (i : Nat) (o : Oper) (s : St) : Fp := ⟨i, rdF P (evO G s.e) (look {} A i) o.op, wrF P (evO G s.e) (look {} A i) o.op⟩
def Held (ops : Array Oper) (A : List (Nat × OA)) (b : Array Nat) (f : Fp) (o : Oper) (g : Fp) : Prop :=
  ∀ x, ops[f.i]? = some x → clash (b.getD g.i 0) (look {} A f.i) x.op f.i (look {} A g.i) o.op = true → okF f.r f.w g.r g.w = true
theorem chk_spec {ops : Array Oper} {A : List (Nat × OA)} {b : Array Nat} {o : Oper} {g : Fp} : ∀ (l : List Fp), chk ops A (b.getD g.i 0) (look {} A g.i) o.op g.r g.w l = true → ∀ f ∈ l, Held ops A b f o g
  | [], _, f, hf => by simp at hf
  | f' :: l, h, f, hf => by
    unfold chk at h
    split at h
    · rename_i x hx
      cases hc : clash (b.getD g.i 0) (look {} A f'.i) x.op f'.i (look {} A g.i) o.op with
      | true =>
        rw [hc] at h
        simp only [cond_true, Bool.and_eq_true] at h
        rcases List.mem_cons.1 hf with rfl | hf
        · intro x' hx' _
          exact h.1
        · exact chk_spec l h.2 f hf
      | false =>
        rw [hc] at h
        simp only [cond_false] at h
        rcases List.mem_cons.1 hf with rfl | hf
        · intro x' hx' hc'
          rw [hx] at hx'
          injection hx' with hx'
          subst hx'
          rw [hc] at hc'
          simp at hc'
        · exact chk_spec l h f hf
    · simp at h
theorem runOps_step {ops : Array Oper} {A : List (Nat × OA)} {bs : Option (Array Nat)} {o : Oper} {rest : List Oper} {i : Nat} {fs : List Fp} {k : St → Option Out} {out : Out}
    (e : runOps P T G ops A bs (o :: rest) i fs s k = some out) : ∃ v h', stepO P T G ops (look {} A i) o s = some (v, h') ∧
      match (generalizing := false) bs with
      | none => runOps P T G ops A bs rest (i + 1) fs ⟨updD s.e o.dst v, h'⟩ k = some out
      | some b => (∀ f ∈ fs, Held ops A b f o (recF P G A i o s)) ∧ runOps P T G ops A bs rest (i + 1) (recF P G A i o s :: fs) ⟨updD s.e o.dst v, h'⟩ k = some out := by
  have fin : ∀ {v : V} {h' : Heap}, (match (generalizing := false) bs with
      | none => runOps P T G ops A bs rest (i + 1) fs ⟨updD s.e o.dst v, h'⟩ k
      | some b =>
        let r := rdF P (evO G s.e) (look {} A i) o.op
        let w := wrF P (evO G s.e) (look {} A i) o.op
        cond (fs.any fun f => match ops[f.i]? with | some x => clash (b.getD i 0) (look {} A f.i) x.op f.i (look {} A i) o.op | none => true)
          (grdB (chk ops A (b.getD i 0) (look {} A i) o.op r w fs) (runOps P T G ops A bs rest (i + 1) (⟨i, r, w⟩ :: fs) ⟨updD s.e o.dst v, h'⟩ k))
          (runOps P T G ops A bs rest (i + 1) (⟨i, r, w⟩ :: fs) ⟨updD s.e o.dst v, h'⟩ k)) = some out →
      match (generalizing := false) bs with
      | none => runOps P T G ops A bs rest (i + 1) fs ⟨updD s.e o.dst v, h'⟩ k = some out
      | some b => (∀ f ∈ fs, Held ops A b f o (recF P G A i o s)) ∧ runOps P T G ops A bs rest (i + 1) (recF P G A i o s :: fs) ⟨updD s.e o.dst v, h'⟩ k = some out := by
    intro v h' e
    cases bs with
    | none => exact e
    | some b =>
      simp only at e ⊢
      cases hc : (fs.any fun f => match ops[f.i]? with | some x => clash (b.getD i 0) (look {} A f.i) x.op f.i (look {} A i) o.op | none => true) with
      | true =>
        rw [hc] at e
        simp only [cond_true] at e
        unfold grdB at e
        cases hk : chk ops A (b.getD i 0) (look {} A i) o.op (rdF P (evO G s.e) (look {} A i) o.op) (wrF P (evO G s.e) (look {} A i) o.op) fs with
        | false => rw [hk] at e; simp at e
        | true =>
          rw [hk] at e
          exact ⟨chk_spec (g := recF P G A i o s) fs hk, e⟩
      | false =>
        rw [hc] at e
        refine ⟨fun f hf x hx hcl => ?_, e⟩
        have := List.any_eq_false.1 hc f hf
        rw [hx] at this
        exact absurd hcl this
  unfold runOps at e
  simp only at e
  have core : ∀ (q : Option Out) (y : Option (V × Heap)), (cond (isVal o.op) ((valOp P (evO G s.e) s.h o.op o.type).bind fun v => q) q) = q → True := fun _ _ _ => trivial
  unfold stepO
  cases hg : o.guard with
  | none =>
    rw [hg] at e
    simp only at e ⊢
    split at e
    · rename_i x hop
      exact ⟨_, _, by simp [coreO, hop, isVal, valOp], fin e⟩
    · rename_i x hop
      exact ⟨_, _, by simp [coreO, hop, isVal, valOp], fin e⟩
    · unfold coreO
      cases hi : isVal o.op with
      | true =>
        rw [hi] at e
        obtain ⟨v, hv, e⟩ := Option.bind_eq_some_iff.1 e
        exact ⟨v, s.h, by simp [hv], fin e⟩
      | false =>
        rw [hi] at e
        obtain ⟨r, hv, e⟩ := Option.bind_eq_some_iff.1 e
        exact ⟨r.1, r.2, by simp [hv], fin e⟩
  | some gw =>
    obtain ⟨g, want⟩ := gw
    rw [hg] at e
    simp only at e ⊢
    unfold coreO
    cases hi : isVal o.op with
    | true =>
      rw [hi] at e
      obtain ⟨v, hv, e⟩ := Option.bind_eq_some_iff.1 e
      refine ⟨v, s.h, ?_, fin e⟩
      revert hv
      generalize yieldV ops s.e g = y
      intro hv
      cases y with
      | bool b =>
        simp only [grdV, grdH] at hv ⊢
        cases hx : Bool.xor b want with
        | true => rw [hx] at hv; simp at hv; simp [hv]
        | false => rw [hx] at hv; simp at hv; simp [hv]
      | tup vs =>
        cases vs with
        | nil => simp only [grdV, grdH] at hv ⊢; simp at hv; simp [hv]
        | cons _ _ => simp [grdV] at hv
      | _ => simp [grdV] at hv
    | false =>
      rw [hi] at e
      obtain ⟨r, hv, e⟩ := Option.bind_eq_some_iff.1 e
      exact ⟨r.1, r.2, by simpa using hv, fin e⟩
/-- In the text's order. -/
theorem runOps_wp (hT : SoundT P G T) {ops : Array Oper} {A : List (Nat × OA)} {Q : Exit → Act → World → Prop} {k : St → Option Out} {out : Out} : ∀ (rest : List Oper) (i : Nat) (s : St) (σ : Sg) (a : Act) (w : World), RRel G n σ s a w →
    (∀ o ∈ rest, ∀ t, o.dst = some t → t < n) → runOps P T G ops A none rest i [] s k = some out →
    (∀ s' a' w' σ', Ext σ w σ' w' → RRel G n σ' s' a' w' → k s' = some out → Q .normal a' w') → wpList P ops Q rest a w
  | [], i, s, σ, a, w, R, hd, e, hQ => by
    unfold runOps at e
    exact hQ _ _ _ _ (Ext.refl σ w) R e
  | o :: rest, i, s, σ, a, w, R, hd, e, hQ => by
    obtain ⟨v, h', h1, h2⟩ := runOps_step e
    unfold wpList
    refine stepO_wp hT R (hd o (by simp)) h1 fun a' w' σ' hx R' => ?_
    exact runOps_wp hT rest (i + 1) _ σ' a' w' R' (fun o ho => hd o (by simp [ho])) h2 fun s' a'' w'' σ'' hx' => hQ s' a'' w'' σ'' (hx.trans hx')
theorem dstsOk_spec {ops : Array Oper} (h : dstsOk n ops = true) : ∀ o ∈ ops.toList, ∀ t, o.dst = some t → t < n := by
  intro o ho t ht
  have := List.all_eq_true.1 h o ho
  simpa [ht] using this
end
end Mini
end
/- An operation of the small machine depends on its own operands alone. -/
section
set_option linter.unusedVariables false
set_option linter.unusedSimpArgs false
namespace Mini
open Go
section
variable {P : Program} {T : Nat → Option FS}
theorem map_ev {ev ev' : Operand → V} {l : List Operand} (h : ∀ x ∈ l, ev x = ev' x) : l.map ev = l.map ev' := List.map_congr_left h
theorem mapM_ev {α β : Type} {f g : α → Option β} : ∀ {l : List α}, (∀ x ∈ l, f x = g x) → l.mapM f = l.mapM g
  | [], _ => rfl
  | x :: l, h => by
    rw [List.mapM_cons, List.mapM_cons, h x (by simp), mapM_ev fun y hy => h y (by simp [hy])]
theorem opt_ev {ev ev' : Operand → V} {l : Option Operand} (h : ∀ x ∈ l, ev x = ev' x) : l.map ev = l.map ev' := by
  cases l with
  | none => rfl
  | some x => simp [h x (by simp)]
theorem call_ev {ev ev' : Operand → V} {c : Call} (h : ∀ x ∈ c.operands, ev x = ev' x) : c.args.toList.map ev = c.args.toList.map ev' ∧ (∀ f, c.callee = .value f → ev f = ev' f) ∧ (∀ r m, c.callee = .invoke r m → ev r = ev' r) ∧ ∀ x ∈ c.args.toList, ev x = ev' x := by
  obtain ⟨callee, args, ats⟩ := c
  have ha : ∀ x ∈ args.toList, ev x = ev' x := fun x hx => h x (by simp only [Call.operands, Array.mem_append]; exact .inr (by simpa using hx))
  refine ⟨map_ev ha, fun f hf => ?_, fun r m hf => ?_, ha⟩
  · have hf : callee = .value f := hf
    subst hf
    exact h f (by simp [Call.operands])
  · have hf : callee = .invoke r m := hf
    subst hf
    exact h r (by simp [Call.operands])
theorem valOp_congr {ev ev' : Operand → V} {h : Heap} {o : Op} {ty : TypeId} (hs : ∀ x ∈ o.operands, ev x = ev' x) : valOp P ev h o ty = valOp P ev' h o ty := by
  cases o <;> first | rfl | skip
  case call c =>
    obtain ⟨h1, h2, h3, h4⟩ := call_ev hs
    obtain ⟨callee, args, ats⟩ := c
    cases callee with
    | builtin b =>
      cases b <;> first | rfl | skip
      · simp only [valOp]
        split
        · rename_i x t hx ht
          rw [h4 x (by simp [hx])]
        · rfl
      · simp only [valOp]
        rw [h1]
      · simp only [valOp]
        rw [h1]
    | _ => rfl
  case makeFunc f a b =>
    simp only [valOp]
    rw [map_ev (ev := ev) (ev' := ev') (l := a.toList) fun x hx => hs x (by simp only [Op.operands, Array.mem_append]; exact .inl (by simpa using hx)), map_ev (ev := ev) (ev' := ev') (l := b.toList) fun x hx => hs x (by simp only [Op.operands, Array.mem_append]; exact .inr (by simpa using hx))]
  case slice t x lo hi mx =>
    have hx : ev x = ev' x := hs x (by simp [Op.operands])
    have h1 : lo.map ev = lo.map ev' := opt_ev fun y hy => hs y (by simp [Op.operands]; cases lo <;> simp_all)
    have h2 : hi.map ev = hi.map ev' := opt_ev fun y hy => hs y (by simp [Op.operands]; cases hi <;> simp_all)
    simp only [valOp, hx, h1, h2]
  case build t ps =>
    have hp : ∀ x ∈ ps.toList, ev x.2 = ev' x.2 := fun x hx => hs x.2 (by simp only [Op.operands]; simp; exact ⟨x.1, by simpa using hx⟩)
    have h1 : ps.toList.mapM (fun x => (fieldOf P t x.1).map fun y => (y.1, y.2, ev x.2)) = ps.toList.mapM (fun x => (fieldOf P t x.1).map fun y => (y.1, y.2, ev' x.2)) := mapM_ev fun x hx => by rw [hp x hx]
    have h2 : ∀ sz, ps.toList.map (fun x => (x.1 * csz sz, sz, ev x.2)) = ps.toList.map (fun x => (x.1 * csz sz, sz, ev' x.2)) := fun sz => List.map_congr_left fun x hx => by rw [hp x hx]
    simp only [valOp, h1, h2]
  all_goals (simp only [Op.operands, List.mem_toArray, List.mem_cons, List.not_mem_nil, or_false, forall_eq_or_imp, forall_eq] at hs; try simp only [valOp, hs])
theorem heapOp_congr {ev ev' : Operand → V} {h : Heap} {o : Op} {ty : TypeId} {an : OA} (hs : ∀ x ∈ o.operands, ev x = ev' x) : heapOp P T an ev h o ty = heapOp P T an ev' h o ty := by
  cases o <;> first | rfl | skip
  case call c =>
    obtain ⟨h1, h2, h3, h4⟩ := call_ev hs
    obtain ⟨callee, args, ats⟩ := c
    cases callee with
    | builtin b =>
      cases b <;> first | rfl | skip
      · simp only [heapOp]
        split
        · rename_i d x t u rest hx ht
          rw [h4 x (by simp [hx]), h4 d (by simp [hx])]
        · rfl
      · simp only [heapOp]
        split
        · rename_i d x t rest hx ht
          rw [h4 x (by simp [hx]), h4 d (by simp [hx])]
        · rfl
    | value f =>
      have := h2 f rfl
      have h1 : args.toList.map ev = args.toList.map ev' := h1
      cases f <;> simp only [heapOp, h1, this]
    | invoke r m =>
      have := h3 r m rfl
      have h1 : args.toList.map ev = args.toList.map ev' := h1
      simp only [heapOp, h1, this]
  case buildSlice t n ps =>
    have hp : ∀ x ∈ ps.toList, ev x.2 = ev' x.2 := fun x hx => hs x.2 (by simp only [Op.operands]; simp; exact ⟨x.1, by simpa using hx⟩)
    have h2 : ∀ sz, ps.toList.map (fun x => (x.1 * csz sz, sz, ev x.2)) = ps.toList.map (fun x => (x.1 * csz sz, sz, ev' x.2)) := fun sz => List.map_congr_left fun x hx => by rw [hp x hx]
    simp only [heapOp, h2]
  all_goals (simp only [Op.operands, List.mem_toArray, List.mem_cons, List.not_mem_nil, or_false, forall_eq_or_imp, forall_eq] at hs; try simp only [heapOp, hs])
theorem rdF_congr {ev ev' : Operand → V} {o : Op} {an : OA} (hs : ∀ x ∈ o.operands, ev x = ev' x) : rdF P ev an o = rdF P ev' an o := by
  cases o <;> first | rfl | skip
  case call c =>
    obtain ⟨h1, h2, h3, h4⟩ := call_ev hs
    obtain ⟨callee, args, ats⟩ := c
    cases callee with
    | builtin b =>
      cases b <;> first | rfl | skip
      · simp only [rdF]
        split
        · rename_i d x hx
          rw [h4 x (by simp [hx])]
        · rfl
      · simp only [rdF]
        split
        · rename_i d x hx
          rw [h4 x (by simp [hx])]
        · rfl
    | value f => rfl
    | invoke r m => simp only [rdF, h3 r m rfl]
  case slice t x lo hi mx =>
    have hx : ev x = ev' x := hs x (by simp [Op.operands])
    simp only [rdF, hx]
  all_goals (simp only [Op.operands, List.mem_toArray, List.mem_cons, List.not_mem_nil, or_false, forall_eq_or_imp, forall_eq] at hs; try simp only [rdF, hs])
theorem wrF_congr {ev ev' : Operand → V} {o : Op} {an : OA} (hs : ∀ x ∈ o.operands, ev x = ev' x) : wrF P ev an o = wrF P ev' an o := by
  cases o <;> first | rfl | skip
  case call c =>
    obtain ⟨h1, h2, h3, h4⟩ := call_ev hs
    obtain ⟨callee, args, ats⟩ := c
    cases callee with
    | builtin b =>
      cases b <;> first | rfl | skip
      · simp only [wrF]
        split
        · rename_i d x hx
          rw [h4 d (by simp [hx])]
        · rfl
      · simp only [wrF]
        split
        · rename_i d x hx
          rw [h4 d (by simp [hx])]
        · rfl
    | value f => rfl
    | invoke r m => rfl
  all_goals (simp only [Op.operands, List.mem_toArray, List.mem_cons, List.not_mem_nil, or_false, forall_eq_or_imp, forall_eq] at hs; try simp only [wrF, hs])
theorem mayR_rdF {ev : Operand → V} {o : Op} {an : OA} (h : mayR an o = false) : rdF P ev an o = [] := by
  cases o <;> first | rfl | (simp [mayR] at h; done) | skip
  case call c =>
    obtain ⟨callee, args, ats⟩ := c
    cases callee with
    | builtin b => cases b <;> first | rfl | (simp [mayR] at h; done)
    | value f => simpa [mayR, rdF] using h
    | invoke r m => simp [mayR] at h
theorem mayW_wrF {ev : Operand → V} {o : Op} {an : OA} (h : mayW an o = false) : wrF P ev an o = [] := by
  have idn : an.id.isSome = false → an.id.toList = [] := by
    intro h
    cases hi : an.id with
    | none => rfl
    | some k => rw [hi] at h; simp at h
  cases o <;> first | rfl | (simp [mayW] at h; done) | (simpa [wrF] using idn h; done) | skip
  case convert s d x =>
    have h : decide (s = d) = false := h
    simp only [wrF]
    rw [if_neg (by simpa using h)]
  case call c =>
    obtain ⟨callee, args, ats⟩ := c
    cases callee with
    | builtin b => cases b <;> first | rfl | (simp [mayW] at h; done)
    | value f =>
      have h : (!(an.ks.isEmpty && an.outs.isEmpty)) = false := h
      simp only [Bool.not_eq_false', Bool.and_eq_true, List.isEmpty_iff] at h
      simp [wrF, h.1, h.2]
    | invoke r m =>
      have h : (!(an.ks.isEmpty && an.outs.isEmpty)) = false := h
      simp only [Bool.not_eq_false', Bool.and_eq_true, List.isEmpty_iff] at h
      simp [wrF, h.1, h.2]
end
end Mini
end
/- A region whose order the machine draws: any order that it may draw comes to what the text's order comes to. -/
section
set_option linter.unusedVariables false
set_option linter.unusedSimpArgs false
namespace Mini
open Go
/-- States that differ in the writing of the heap alone. -/
def Eqv (s s' : St) : Prop := s.e = s'.e ∧ ∀ k, hget s.h k = hget s'.h k
section
variable {P : Program} {G : Nat → V} {T : Nat → Option FS} {n : Nat} {ops : Array Oper}
theorem RRel.congr {σ : Sg} {s s' : St} {a : Act} {w : World} (R : RRel G n σ s a w) (e : Eqv s s') : RRel G n σ s' a w :=
  ⟨R.hr.congr fun k => (e.2 k).symm, R.gr, by rw [← e.1]; exact R.env, R.siz, R.nod⟩
theorem coreO_agree {ev : Operand → V} {h g : Heap} {o : Oper} {an : OA} {v : V} {h' : Heap} (a : Agree (rdF P ev an o.op ++ wrF P ev an o.op) h g) (e : coreO P T an ev h o = some (v, h')) :
    ∃ g', coreO P T an ev g o = some (v, g') ∧ Alike (wrF P ev an o.op) h h' g g' := by
  unfold coreO at e ⊢
  cases hi : isVal o.op with
  | true =>
    rw [hi] at e
    simp only [cond_true] at e ⊢
    rw [← valOp_agree (an := an) (a.mono fun k hk => by simp [hk]) hi]
    obtain ⟨u, hu, e⟩ := Option.map_eq_some_iff.1 e
    injection e with e1 e2
    subst e1 e2
    rw [hu]
    exact ⟨g, rfl, Alike.same (a.mono fun k hk => by simp [hk])⟩
  | false =>
    rw [hi] at e
    simp only [cond_false] at e ⊢
    exact heapOp_agree a e
theorem stepO_agree {s : St} {g : Heap} {o : Oper} {an : OA} {v : V} {h' : Heap} (a : Agree (rdF P (evO G s.e) an o.op ++ wrF P (evO G s.e) an o.op) s.h g) (e : stepO P T G ops an o s = some (v, h')) :
    ∃ g', stepO P T G ops an o ⟨s.e, g⟩ = some (v, g') ∧ Alike (wrF P (evO G s.e) an o.op) s.h h' g g' := by
  unfold stepO at e ⊢
  cases hg : o.guard with
  | none =>
    rw [hg] at e
    exact coreO_agree a e
  | some gw =>
    obtain ⟨j, want⟩ := gw
    rw [hg] at e
    simp only at e ⊢
    have skip : some (V.tup [], s.h) = some (v, h') → ∃ g', some (V.tup [], g) = some (v, g') ∧ Alike (wrF P (evO G s.e) an o.op) s.h h' g g' := by
      intro e
      injection e with e
      injection e with e1 e2
      subst e1 e2
      exact ⟨g, rfl, Alike.same (a.mono fun k hk => by simp [hk])⟩
    revert e
    generalize yieldV ops s.e j = y
    intro e
    cases y with
    | bool b =>
      simp only [grdH] at e ⊢
      cases hx : Bool.xor b want with
      | true => rw [hx] at e; exact skip e
      | false => rw [hx] at e; exact coreO_agree a e
    | tup vs =>
      cases vs with
      | nil => exact skip e
      | cons _ _ => simp [grdH] at e
    | _ => simp [grdH] at e
theorem evO_upd {e : Env} {d : Option Tmp} {v : V} {x : Operand} (h : ∀ t, d = some t → x ≠ .tmp t) : evO G (updD e d v) x = evO G e x := by
  cases d with
  | none => rfl
  | some d =>
    cases x with
    | tmp t =>
      have hne : t ≠ d := fun e => h d rfl (by rw [e])
      have : Nat.beq t d = false := by
        rw [← Bool.not_eq_true]
        intro h
        exact hne (Nat.eq_of_beq_eq_true h)
      simp [evO, updD, upd, this]
    | _ => rfl
theorem operand_looksAt {o : Oper} {t : Tmp} (h : Operand.tmp t ∈ o.op.operands) : t ∈ o.looksAt ops := by
  simp only [Oper.looksAt, List.mem_append, List.mem_filterMap]
  exact .inl ⟨.tmp t, by simpa using h, rfl⟩
theorem evO_same {o : Oper} {e : Env} {d : Option Tmp} {v : V} (h : ∀ t, d = some t → t ∉ o.looksAt ops) : ∀ x ∈ o.op.operands, evO G (updD e d v) x = evO G e x := by
  intro x hx
  exact evO_upd fun t ht hxt => h t ht (operand_looksAt (by rw [← hxt]; exact hx))
theorem stepO_env {o : Oper} {an : OA} {e : Env} {h : Heap} {d : Option Tmp} {v : V} (hd : ∀ t, d = some t → t ∉ o.looksAt ops) : stepO P T G ops an o ⟨updD e d v, h⟩ = stepO P T G ops an o ⟨e, h⟩ := by
  have hs := evO_same (G := G) (e := e) (v := v) hd
  have hc : coreO P T an (evO G (updD e d v)) h o = coreO P T an (evO G e) h o := by
    unfold coreO
    rw [valOp_congr hs, heapOp_congr hs]
  unfold stepO
  simp only [hc]
  cases hg : o.guard with
  | none => rfl
  | some gw =>
    obtain ⟨j, want⟩ := gw
    simp only
    have : yieldV ops (updD e d v) j = yieldV ops e j := by
      unfold yieldV
      cases hj : ops[j]? with
      | none => rfl
      | some oj =>
        simp only
        cases hdd : oj.dst with
        | none => rfl
        | some dj =>
          simp only
          have : evO G (updD e d v) (.tmp dj) = evO G e (.tmp dj) := evO_upd fun t ht hxt => hd t ht (by
            injection hxt with hxt
            subst hxt
            simp [Oper.looksAt, hg, hj, hdd])
          exact this
    rw [this]
theorem updD_comm {e : Env} {d d' : Option Tmp} {v v' : V} (h : ∀ t, d = some t → d' ≠ some t) : updD (updD e d v) d' v' = updD (updD e d' v') d v := by
  cases d with
  | none => rfl
  | some d =>
    cases d' with
    | none => rfl
    | some d' =>
      have hne : d ≠ d' := fun e => h d rfl (by rw [e])
      funext i
      simp only [updD, upd]
      cases h1 : Nat.beq i d with
      | false => cases h2 : Nat.beq i d' <;> rfl
      | true =>
        cases h2 : Nat.beq i d' with
        | false => rfl
        | true => exact absurd ((Nat.eq_of_beq_eq_true h1).symm.trans (Nat.eq_of_beq_eq_true h2)) hne
def Okf (f g : Fp) : Prop := (∀ k ∈ f.w, k ∉ g.r) ∧ (∀ k ∈ f.w, k ∉ g.w) ∧ ∀ k ∈ f.r, k ∉ g.w
theorem disjL_spec {a b : List Nat} (h : disjL a b = true) : ∀ k ∈ a, k ∉ b := by
  intro k hk hb
  have := List.all_eq_true.1 h k hb
  simp [hk] at this
theorem okF_spec {f g : Fp} (h : okF f.r f.w g.r g.w = true) : Okf f g := by
  simp only [okF, Bool.and_eq_true] at h
  exact ⟨disjL_spec h.1.1, disjL_spec h.1.2, disjL_spec h.2⟩
/-- The steps in a list's order. -/
def Sched (P : Program) (T : Nat → Option FS) (G : Nat → V) (ops : Array Oper) (A : List (Nat × OA)) : List Fp → St → St → Prop
  | [], s, sf => Eqv s sf
  | f :: l, s, sf => ∃ o v h', ops[f.i]? = some o ∧ f = recF P G A f.i o s ∧ stepO P T G ops (look {} A f.i) o s = some (v, h') ∧ Sched P T G ops A l ⟨updD s.e o.dst v, h'⟩ sf
theorem Sched.congr {A : List (Nat × OA)} : ∀ {l : List Fp} {s s' sf : St}, Sched P T G ops A l s sf → Eqv s s' → Sched P T G ops A l s' sf
  | [], s, s', sf, h, e => ⟨e.1.symm.trans h.1, fun k => (e.2 k).symm.trans (h.2 k)⟩
  | f :: l, s, s', sf, ⟨o, v, h', h1, h2, h3, h4⟩, e => by
    obtain ⟨g', h5, h6⟩ := stepO_agree (g := s'.h) (fun k _ => e.2 k) h3
    obtain ⟨e1, e2⟩ := e
    have hs : (⟨s.e, s'.h⟩ : St) = s' := by rw [e1]
    rw [hs] at h5
    refine ⟨o, v, g', h1, ?_, h5, h4.congr ⟨by simp only [e1], fun k => ?_⟩⟩
    · rw [h2]
      unfold recF
      simp only [e1]
    · by_cases hk : k ∈ wrF P (evO G s.e) (look {} A f.i) o.op
      · exact (h6.1 k hk).symm
      · rw [h6.2.1 k hk, h6.2.2 k hk, e2 k]
/-- Two steps change places. -/
theorem swap {A : List (Nat × OA)} {f g : Fp} {l : List Fp} {s sf : St} (h : Sched P T G ops A (g :: f :: l) s sf) (hok : Okf g f) (ht : ∀ x y, ops[g.i]? = some x → ops[f.i]? = some y → x.apart ops y = true) :
    Sched P T G ops A (f :: g :: l) s sf := by
  obtain ⟨og, vg, h1, hg, hgr, hgs, of, vf, h2, hf, hfr, hfs, hl⟩ := h
  obtain ⟨t1, t2, t3⟩ := Oper.apart_spec (ht og of hg hf)
  have efs := evO_same (G := G) (e := s.e) (v := vg) t1
  rw [stepO_env t1] at hfs
  have hfr' : f = recF P G A f.i of s := by
    rw [hfr]
    unfold recF
    simp only [rdF_congr efs, wrF_congr efs]
  have ag1 : ∀ k, k ∉ g.w → hget h1 k = hget s.h k := by
    obtain ⟨_, _, ha⟩ := stepO_agree (P := P) (T := T) (G := G) (s := s) (g := s.h) (fun k _ => rfl) hgs
    intro k hk
    refine ha.2.2 k ?_
    rw [hgr] at hk
    exact hk
  have fr : f.r = rdF P (evO G s.e) (look {} A f.i) of.op := by rw [hfr']; rfl
  have fw : f.w = wrF P (evO G s.e) (look {} A f.i) of.op := by rw [hfr']; rfl
  have gr : g.r = rdF P (evO G s.e) (look {} A g.i) og.op := by rw [hgr]; rfl
  have gw : g.w = wrF P (evO G s.e) (look {} A g.i) og.op := by rw [hgr]; rfl
  obtain ⟨k1, hk1, al1⟩ := stepO_agree (P := P) (T := T) (G := G) (s := ⟨s.e, h1⟩) (g := s.h) (fun k hk => by
    rw [List.mem_append] at hk
    refine ag1 k fun hw => ?_
    rcases hk with hk | hk
    · exact hok.1 k hw (by rw [fr]; exact hk)
    · exact hok.2.1 k hw (by rw [fw]; exact hk)) hfs
  obtain ⟨k2, hk2, al2⟩ := stepO_agree (P := P) (T := T) (G := G) (s := s) (g := k1) (fun k hk => by
    rw [List.mem_append] at hk
    have : k ∉ f.w := by
      intro hw
      rcases hk with hk | hk
      · exact hok.2.2 k (by rw [gr]; exact hk) hw
      · exact hok.2.1 k (by rw [gw]; exact hk) hw
    rw [fw] at this
    exact (al1.2.1 k this).symm) hgs
  have egs := evO_same (G := G) (e := s.e) (v := vf) t3
  refine ⟨of, vf, k1, hf, hfr', hk1, og, vg, k2, hg, ?_, ?_, hl.congr ⟨updD_comm t2, fun k => ?_⟩⟩
  · rw [hgr]
    unfold recF
    simp only [rdF_congr egs, wrF_congr egs]
  · rw [stepO_env t3]
    exact hk2
  · simp only at al1 al2 ⊢
    by_cases c1 : k ∈ wrF P (evO G s.e) (look {} A g.i) og.op
    · have c2 : k ∉ wrF P (evO G s.e) (look {} A f.i) of.op := by
        intro c2
        exact hok.2.1 k (by rw [gw]; exact c1) (by rw [fw]; exact c2)
      rw [al2.1 k c1, al1.2.2 k c2]
    · rw [al2.2.1 k c1]
      by_cases c2 : k ∈ wrF P (evO G s.e) (look {} A f.i) of.op
      · exact (al1.1 k c2).symm
      · rw [al1.2.1 k c2, al1.2.2 k c2]
        exact ag1 k (by rw [gw]; exact c1)
theorem toFront {A : List (Nat × OA)} {f : Fp} {l2 : List Fp} {sf : St} : ∀ (l1 : List Fp) (s : St), Sched P T G ops A (l1 ++ f :: l2) s sf →
    (∀ g ∈ l1, Okf g f ∧ ∀ x y, ops[g.i]? = some x → ops[f.i]? = some y → x.apart ops y = true) → Sched P T G ops A (f :: (l1 ++ l2)) s sf
  | [], s, h, _ => h
  | g :: l1, s, ⟨o, v, h', h1, h2, h3, h4⟩, hh => by
    have := toFront l1 _ h4 fun x hx => hh x (by simp [hx])
    exact swap ⟨o, v, h', h1, h2, h3, this⟩ (hh g (by simp)).1 (hh g (by simp)).2
/-! ### what comes before what -/
theorem testBit_fold {acc : Nat → Nat} (k : Nat) : ∀ (l : List Edge) (s : Nat), (l.foldl (fun s e => if Region.binds .any e then s ||| 2 ^ e.on ||| acc e.on else s) s).testBit k = true →
    s.testBit k = true ∨ ∃ e ∈ l, Region.binds .any e = true ∧ (k = e.on ∨ (acc e.on).testBit k = true)
  | [], s, h => .inl h
  | e :: l, s, h => by
    rw [List.foldl_cons] at h
    rcases testBit_fold k l _ h with h | ⟨e', he', hb, hk⟩
    · by_cases hb : Region.binds .any e = true
      · rw [if_pos hb] at h
        simp only [Nat.testBit_or, Bool.or_eq_true, Nat.testBit_two_pow] at h
        rcases h with (h | h) | h
        · exact .inl h
        · exact .inr ⟨e, by simp, hb, .inl (by simp at h; exact h.symm)⟩
        · exact .inr ⟨e, by simp, hb, .inr h⟩
      · rw [if_neg hb] at h
        exact .inl h
    · exact .inr ⟨e', by simp [he'], hb, hk⟩
def oneB (acc : Array Nat) (o : Oper) : Nat := o.after.foldl (fun s e => if Region.binds .any e then s ||| 2 ^ e.on ||| acc.getD e.on 0 else s) 0
theorem before_pre : ∀ (l : List Oper) (acc : Array Nat) (j : Nat), j < acc.size → (l.foldl (fun acc o => acc.push (oneB acc o)) acc).getD j 0 = acc.getD j 0
  | [], acc, j, _ => rfl
  | o :: l, acc, j, h => by
    rw [List.foldl_cons, before_pre l _ j (by simp; omega)]
    simp [Array.getElem?_push, Nat.ne_of_lt h]
theorem before_at : ∀ (l : List Oper) (acc : Array Nat) (i : Nat) (h : i < l.length), ∃ acc' : Array Nat, (∀ j, j < acc'.size → (l.foldl (fun acc o => acc.push (oneB acc o)) acc).getD j 0 = acc'.getD j 0) ∧
    (l.foldl (fun acc o => acc.push (oneB acc o)) acc).getD (acc.size + i) 0 = oneB acc' (l[i])
  | o :: l, acc, 0, h => ⟨acc, fun j hj => before_pre (o :: l) acc j hj, by
      rw [List.foldl_cons, before_pre l _ _ (by simp)]
      simp⟩
  | o :: l, acc, i + 1, h => by
    obtain ⟨acc', h1, h2⟩ := before_at l (acc.push (oneB acc o)) i (by simpa using h)
    refine ⟨acc', fun j hj => h1 j hj, ?_⟩
    rw [List.foldl_cons]
    have : acc.size + (i + 1) = (acc.push (oneB acc o)).size + i := by simp; omega
    rw [this, h2]
    simp
theorem before_spec {i : Nat} {o : Oper} (hi : ops[i]? = some o) {k : Nat} (h : ((Region.before ops).getD i 0).testBit k = true) :
    ∃ e ∈ o.after, Region.binds .any e = true ∧ (k = e.on ∨ ((Region.before ops).getD e.on 0).testBit k = true) := by
  have hb : Region.before ops = ops.toList.foldl (fun acc o => acc.push (oneB acc o)) #[] := by
    unfold Region.before
    rw [← Array.foldl_toList]
    rfl
  obtain ⟨hlt, ho⟩ := Array.getElem?_eq_some_iff.1 hi
  obtain ⟨acc', h1, h2⟩ := before_at ops.toList #[] i (by simpa using hlt)
  rw [hb] at h ⊢
  simp only [Array.size_empty, Nat.zero_add] at h2
  rw [h2] at h
  unfold oneB at h
  rw [← Array.foldl_toList] at h
  have e1 : ops.toList[i]'(by simpa using hlt) = o := by simpa using ho
  rw [e1] at h
  rcases testBit_fold (acc := fun i => acc'.getD i 0) k o.after.toList 0 h with h | ⟨e, he, hbi, hk⟩
  · simp at h
  · refine ⟨e, by simpa using he, hbi, ?_⟩
    rcases hk with hk | hk
    · exact .inl hk
    · refine .inr ?_
      by_cases hlt' : e.on < acc'.size
      · rw [h1 _ hlt']; exact hk
      · simp [Array.getD, hlt'] at hk
end
end Mini
end
/- A region whose order the machine draws, second part: the machine's run of it. -/
section
set_option linter.unusedVariables false
set_option linter.unusedSimpArgs false
namespace Mini
open Go
section
variable {P : Program} {G : Nat → V} {T : Nat → Option FS} {n : Nat} {ops : Array Oper} {A : List (Nat × OA)}
/-- Of the records of a run in the text's order: each follows those before it. -/
def Free (ops : Array Oper) (b : Array Nat) (f g : Fp) : Prop := f.i < g.i ∧ ((b.getD g.i 0).testBit f.i = false → Okf f g)
theorem rec_r {i : Nat} {o : Oper} {s : St} : (recF P G A i o s).r = rdF P (evO G s.e) (look {} A i) o.op := rfl
/-- A record comes from some state. -/
def Rec (P : Program) (G : Nat → V) (ops : Array Oper) (A : List (Nat × OA)) (f : Fp) : Prop := ∃ o s, ops[f.i]? = some o ∧ f = recF P G A f.i o s
theorem okf_of {b : Array Nat} {f g : Fp} {og : Oper} (hf : Rec P G ops A f) (hg : ops[g.i]? = some og) (hgr : Rec P G ops A g) (h : Held ops A b f og g) (hb : (b.getD g.i 0).testBit f.i = false) : Okf f g := by
  obtain ⟨of, sf, h1, h2⟩ := hf
  obtain ⟨og', sg, h3, h4⟩ := hgr
  rw [hg] at h3
  injection h3 with h3
  subst h3
  have fr : f.r = rdF P (evO G sf.e) (look {} A f.i) of.op := by rw [h2]; rfl
  have fw : f.w = wrF P (evO G sf.e) (look {} A f.i) of.op := by rw [h2]; rfl
  have gr : g.r = rdF P (evO G sg.e) (look {} A g.i) og.op := by rw [h4]; rfl
  have gw : g.w = wrF P (evO G sg.e) (look {} A g.i) og.op := by rw [h4]; rfl
  cases hc : clash (b.getD g.i 0) (look {} A f.i) of.op f.i (look {} A g.i) og.op with
  | true => exact okF_spec (h of h1 hc)
  | false =>
    simp only [clash, hb, Bool.not_false, Bool.true_and, Bool.or_eq_false_iff, Bool.and_eq_false_iff] at hc
    obtain ⟨c1, c2⟩ := hc
    have wf : mayW (look {} A f.i) of.op = false → f.w = [] := fun h => by rw [fw]; exact mayW_wrF h
    have rf : mayR (look {} A f.i) of.op = false → f.r = [] := fun h => by rw [fr]; exact mayR_rdF h
    have wg : mayW (look {} A g.i) og.op = false → g.w = [] := fun h => by rw [gw]; exact mayW_wrF h
    have rg : mayR (look {} A g.i) og.op = false → g.r = [] := fun h => by rw [gr]; exact mayR_rdF h
    refine ⟨fun k hk => ?_, fun k hk => ?_, fun k hk => ?_⟩
    · rcases c1 with c | c
      · rw [wf c] at hk; simp at hk
      · rw [rg c.1]; simp
    · rcases c1 with c | c
      · rw [wf c] at hk; simp at hk
      · rw [wg c.2]; simp
    · rcases c2 with c | c
      · rw [rf c] at hk; simp at hk
      · rw [wg c]; simp
theorem runOps_sched {b : Array Nat} {k : St → Option Out} {out : Out} : ∀ (rest : List Oper) (i : Nat) (fs : List Fp) (s : St), (∀ j, rest[j]? = ops[i + j]?) → (∀ f ∈ fs, f.i < i ∧ Rec P G ops A f) →
    runOps P T G ops A (some b) rest i fs s k = some out → ∃ l sf, Sched P T G ops A l s sf ∧ k sf = some out ∧ l.Pairwise (Free ops b) ∧ (∀ f ∈ fs, ∀ g ∈ l, Free ops b f g) ∧ l.map (·.i) = List.range' i rest.length
  | [], i, fs, s, hr, hf, e => by
    unfold runOps at e
    exact ⟨[], s, ⟨rfl, fun _ => rfl⟩, e, by simp, by simp, by simp⟩
  | o :: rest, i, fs, s, hr, hf, e => by
    obtain ⟨v, h', h1, h2, h3⟩ := runOps_step e
    have hi : ops[i]? = some o := by simpa using (hr 0).symm
    have hrec : Rec P G ops A (recF P G A i o s) := ⟨o, s, hi, rfl⟩
    obtain ⟨l, sf, g1, g2, g3, g4, g5⟩ := runOps_sched rest (i + 1) (recF P G A i o s :: fs) ⟨updD s.e o.dst v, h'⟩
      (fun j => by have := hr (j + 1); simpa [Nat.add_assoc, Nat.add_comm 1 j] using this)
      (fun f hf' => by
        rcases List.mem_cons.1 hf' with rfl | hf'
        · exact ⟨Nat.lt_succ_self i, hrec⟩
        · exact ⟨Nat.lt_succ_of_lt (hf f hf').1, (hf f hf').2⟩) h3
    refine ⟨recF P G A i o s :: l, sf, ⟨o, v, h', hi, rfl, h1, g1⟩, g2, List.pairwise_cons.2 ⟨fun g hg => g4 _ (by simp) g hg, g3⟩, fun f hf' g hg => ?_, ?_⟩
    · rcases List.mem_cons.1 hg with rfl | hg
      · exact ⟨(hf f hf').1, fun hb => okf_of (hf f hf').2 (g := recF P G A i o s) hi hrec (h2 f hf') hb⟩
      · exact g4 f (by simp [hf']) g hg
    · simp only [List.map_cons, g5, List.length_cons, List.range'_succ]
      rfl
theorem tmpsOk_spec {b : Array Nat} (h : tmpsOk ops b = true) {i j : Nat} (hij : i < j) {x y : Oper} (hx : ops[i]? = some x) (hy : ops[j]? = some y) (hb : (b.getD j 0).testBit i = false) : x.apart ops y = true := by
  have hj : j < ops.size := (Array.getElem?_eq_some_iff.1 hy).1
  have h1 := List.all_eq_true.1 (List.all_eq_true.1 h j (List.mem_range.2 hj)) i (List.mem_range.2 hij)
  simpa only [hb, Bool.false_or, hx, hy] using h1
theorem edgesOk_spec (h : edgesOk ops = true) {j : Nat} {o : Oper} (hj : ops[j]? = some o) : ∀ e ∈ o.after, Region.binds .any e = true → e.on < j := by
  have hlt : j < ops.size := (Array.getElem?_eq_some_iff.1 hj).1
  have h1 := List.all_eq_true.1 h j (List.mem_range.2 hlt)
  simp only [hj, Bool.and_eq_true, Array.all_eq_true_iff_forall_mem, Bool.or_eq_true, Bool.not_eq_true', decide_eq_true_eq] at h1
  intro e he hb
  rcases h1.1 e he with h | h
  · rw [hb] at h; simp at h
  · exact h
/-- What is listed and what is left. -/
structure Left (ops : Array Oper) (l : List Fp) (listed : Array Bool) : Prop where
  size : listed.size = ops.size
  iff : ∀ j, j < ops.size → (listed.getD j false = false ↔ ∃ f ∈ l, f.i = j)
  lt : ∀ f ∈ l, f.i < ops.size
  closed : ∀ j, j < ops.size → listed.getD j false = true → ∀ k, ((Region.before ops).getD j 0).testBit k = true → listed.getD k false = true
theorem getD_tf {listed : Array Bool} {j : Nat} (h : j < listed.size) (d d' : Bool) : listed.getD j d = listed.getD j d' := by simp [Array.getD, h]
theorem Left.before {l : List Fp} {listed : Array Bool} (L : Left ops l listed) {i : Nat} (hr : i ∈ Region.ready .any ops listed) : ∀ k, ((Region.before ops).getD i 0).testBit k = true → listed.getD k false = true := by
  intro k hk
  obtain ⟨h0, o, ho, hall⟩ := mem_ready.1 hr
  obtain ⟨e, he, hb, hk⟩ := before_spec ho hk
  have := hall e he hb
  rcases hk with rfl | hk
  · exact this
  · have hlt : e.on < ops.size := by
      rcases Nat.lt_or_ge e.on ops.size with h | h
      · exact h
      · rw [← L.size] at h
        simp [Array.getD, Nat.not_lt.2 h] at this
    exact L.closed e.on hlt this k hk
theorem sched_wp (hT : SoundT P G T) {Q : Exit → Act → World → Prop} {sf : St} (hd : dstsOk n ops = true) (ht : tmpsOk ops (Region.before ops) = true) (he : edgesOk ops = true) :
    ∀ (fuel : Nat) (l : List Fp) (listed : Array Bool) (s : St) (σ : Sg) (a : Act) (w : World), l.length ≤ fuel → Sched P T G ops A l s sf → l.Pairwise (Free ops (Region.before ops)) → Left ops l listed → RRel G n σ s a w →
    (∀ a' w' σ', Ext σ w σ' w' → RRel G n σ' sf a' w' → Q .normal a' w') → wpAny P .any ops Q fuel listed a w := by
  have nil_ready : ∀ {listed : Array Bool}, Left ops [] listed → Region.ready .any ops listed = [] := by
    intro listed L
    refine List.eq_nil_iff_forall_not_mem.2 fun i hi => ?_
    obtain ⟨h0, o, ho, _⟩ := mem_ready.1 hi
    have hlt := (Array.getElem?_eq_some_iff.1 ho).1
    rw [getD_tf (by rw [L.size]; exact hlt) true false] at h0
    obtain ⟨f, hf, _⟩ := (L.iff i hlt).1 h0
    simp at hf
  have fin : ∀ {s : St} {σ : Sg} {a : Act} {w : World}, Sched P T G ops A [] s sf → RRel G n σ s a w → (∀ a' w' σ', Ext σ w σ' w' → RRel G n σ' sf a' w' → Q .normal a' w') → Q .normal a w := by
    intro s σ a w hs R hQ
    exact hQ a w σ (Ext.refl σ w) (R.congr hs)
  intro fuel
  induction fuel with
  | zero =>
    intro l listed s σ a w hl hs hp L R hQ
    have : l = [] := List.eq_nil_of_length_eq_zero (Nat.le_zero.1 hl)
    subst this
    exact ⟨nil_ready L, fin hs R hQ⟩
  | succ fuel ih =>
    intro l listed s σ a w hl hs hp L R hQ
    refine ⟨fun hr => ?_, fun i hi => ?_⟩
    · cases l with
      | nil => exact fin hs R hQ
      | cons f l =>
        exfalso
        obtain ⟨o, v, h', h1, _⟩ := hs
        have hlt := L.lt f (by simp)
        have : f.i ∈ Region.ready .any ops listed := mem_ready.2 ⟨by
          rw [getD_tf (by rw [L.size]; exact hlt) true false]
          exact (L.iff f.i hlt).2 ⟨f, by simp, rfl⟩, o, h1, fun e hem hb => by
            have hon := edgesOk_spec he h1 e hem hb
            cases hg : listed.getD e.on false with
            | true => rfl
            | false =>
              exfalso
              obtain ⟨g, hg, hgi⟩ := (L.iff e.on (by omega)).1 hg
              rcases List.mem_cons.1 hg with rfl | hg
              · omega
              · have := (List.pairwise_cons.1 hp).1 g hg
                have := this.1
                omega⟩
        rw [hr] at this
        simp at this
    · obtain ⟨h0, o, ho, hall⟩ := mem_ready.1 hi
      have hlt := (Array.getElem?_eq_some_iff.1 ho).1
      rw [getD_tf (by rw [L.size]; exact hlt) true false] at h0
      obtain ⟨f, hf, hfi⟩ := (L.iff i hlt).1 h0
      obtain ⟨l1, l2, rfl⟩ := List.append_of_mem hf
      have hp' := List.pairwise_append.1 hp
      have hfront := toFront l1 s hs fun g hg => by
        have hfr := hp'.2.2 g hg f (by simp)
        have hb : ((Region.before ops).getD f.i 0).testBit g.i = false := by
          rw [← Bool.not_eq_true]
          intro hb
          rw [hfi] at hb
          have h1 := L.before hi g.i hb
          have h2 := (L.iff g.i (L.lt g (by simp [hg]))).2 ⟨g, by simp [hg], rfl⟩
          rw [h1] at h2
          simp at h2
        exact ⟨hfr.2 hb, fun x y hx hy => tmpsOk_spec ht hfr.1 hx hy hb⟩
      obtain ⟨o', v, h', h1, h2, h3, h4⟩ := hfront
      rw [hfi] at h1
      rw [ho] at h1
      injection h1 with h1
      subst h1
      unfold wpOp
      simp only [ho]
      refine stepO_wp hT R (dstsOk_spec hd o (by rw [Array.mem_toList_iff]; exact Array.mem_of_getElem? ho)) h3 fun a' w' σ' hx R' => ?_
      have hne : ∀ g ∈ l1 ++ l2, g.i ≠ i := by
        intro g hg
        rw [List.mem_append] at hg
        rcases hg with hg | hg
        · have := (hp'.2.2 g hg f (by simp)).1
          omega
        · have := ((List.pairwise_cons.1 hp'.2.1).1 g hg).1
          omega
      refine ih (l1 ++ l2) _ _ σ' a' w' (by simp at hl ⊢; omega) h4 ?_ ?_ R' fun a'' w'' σ'' hx' => hQ a'' w'' σ'' (hx.trans hx')
      · exact List.pairwise_append.2 ⟨hp'.1, (List.pairwise_cons.1 hp'.2.1).2, fun x hx y hy => hp'.2.2 x hx y (by simp [hy])⟩
      · have hset : ∀ j, (listed.setIfInBounds i true).getD j false = if j = i then true else listed.getD j false := by
          intro j
          by_cases hj : j = i
          · subst hj
            have : j < listed.size := by rw [L.size]; exact hlt
            simp [this]
          · rw [getD_set_ne false (Ne.symm hj), if_neg hj]
        refine ⟨by simp [L.size], fun j hj => ?_, fun g hg => L.lt g (by rw [List.mem_append] at hg; rcases hg with hg | hg <;> simp [hg]), fun j hj hl k hk => ?_⟩
        · rw [hset]
          by_cases hji : j = i
          · subst hji
            simp only [if_true]
            constructor
            · intro h; simp at h
            · rintro ⟨g, hg, hgi⟩
              exact absurd hgi (hne g hg)
          · rw [if_neg hji, L.iff j hj]
            constructor
            · rintro ⟨g, hg, hgi⟩
              refine ⟨g, ?_, hgi⟩
              rw [List.mem_append, List.mem_cons] at hg
              rcases hg with hg | rfl | hg
              · simp [hg]
              · exact absurd (hgi.symm.trans hfi) hji
              · simp [hg]
            · rintro ⟨g, hg, hgi⟩
              rw [List.mem_append] at hg
              exact ⟨g, by rcases hg with hg | hg <;> simp [hg], hgi⟩
        · rw [hset] at hl ⊢
          by_cases hki : k = i
          · simp [hki]
          · rw [if_neg hki]
            by_cases hji : j = i
            · subst hji
              exact L.before hi k hk
            · rw [if_neg hji] at hl
              exact L.closed j hj hl k hk
theorem runOps_any (hT : SoundT P G T) {Q : Exit → Act → World → Prop} {k : St → Option Out} {out : Out} {s : St} {σ : Sg} {a : Act} {w : World} (hd : dstsOk n ops = true) (ht : tmpsOk ops (Region.before ops) = true) (he : edgesOk ops = true)
    (R : RRel G n σ s a w) (e : runOps P T G ops A (some (Region.before ops)) ops.toList 0 [] s k = some out) (hQ : ∀ s' a' w' σ', Ext σ w σ' w' → RRel G n σ' s' a' w' → k s' = some out → Q .normal a' w') :
    wpAny P .any ops Q ops.size (Array.replicate ops.size false) a w := by
  obtain ⟨l, sf, h1, h2, h3, _, h5⟩ := runOps_sched ops.toList 0 [] s (by simp) (by simp) e
  have hlen : l.length = ops.size := by
    have := congrArg List.length h5
    simpa using this
  have hmem : ∀ j, (∃ f ∈ l, f.i = j) ↔ j < ops.size := by
    intro j
    have : j ∈ l.map (·.i) ↔ j < ops.size := by
      rw [h5]
      simp [List.mem_range'_1]
    rw [← this]
    simp
  have hrep : ∀ j, (Array.replicate ops.size false).getD j false = false := by
    intro j
    simp [Array.getD]
  refine sched_wp hT hd ht he ops.size l _ s σ a w (by omega) h1 h3 ⟨by simp, fun j hj => ?_, fun f hf => (hmem f.i).1 ⟨f, hf, rfl⟩, fun j hj hl => ?_⟩ R fun a' w' σ' hx R' => hQ sf a' w' σ' hx R' h2
  · exact ⟨fun _ => (hmem j).2 hj, fun _ => hrep j⟩
  · rw [hrep] at hl
    simp at hl
end
end Mini
end
/- The whole of a function's code: what the small machine does the real one does. -/
section
set_option linter.unusedVariables false
set_option linter.unusedSimpArgs false
namespace Mini
open Go
section
variable {P : Program} {G : Nat → V} {T : Nat → Option FS} {n : Nat}
theorem RRel.set {σ σ' : Sg} {s : St} {a : Act} {w : World} {t : Nat} {v : V} {h' : Heap} (R : RRel G n σ s a w) (hx : Ext σ w σ' w) (H : HRel σ' h' w) (hv : VRel σ' w v (a.eval (.tmp t))) : RRel G n σ' ⟨upd s.e t v, h'⟩ a w where
  hr := H
  gr := R.gr.ext hx
  siz := R.siz
  nod := R.nod
  env := fun i => by
    simp only [upd]
    cases hb : Nat.beq i t with
    | true =>
      have := Nat.eq_of_beq_eq_true hb
      subst this
      exact hv
    | false => exact (R.env i).ext hx
theorem cmds_sound {k : St → Option Out} {out : Out} : ∀ (l : List Cmd) (s : St) (σ : Sg) (a : Act) (w : World), RRel G n σ s a w → cmds l s k = some out → ∃ s' σ', Ext σ w σ' w ∧ RRel G n σ' s' a w ∧ k s' = some out
  | [], s, σ, a, w, R, e => ⟨s, σ, Ext.refl σ w, R, e⟩
  | c :: l, s, σ, a, w, R, e => by
    have fin : ∀ {s1 : St} {σ1 : Sg}, Ext σ w σ1 w → RRel G n σ1 s1 a w → cmds l s1 k = some out → ∃ s' σ', Ext σ w σ' w ∧ RRel G n σ' s' a w ∧ k s' = some out := by
      intro s1 σ1 hx R1 e
      obtain ⟨s', σ', h1, h2, h3⟩ := cmds_sound l s1 σ1 a w R1 e
      exact ⟨s', σ', hx.trans h1, h2, h3⟩
    cases c with
    | frz t =>
      simp only [cmds] at e
      obtain ⟨⟨v, h'⟩, hv, e⟩ := Option.bind_eq_some_iff.1 e
      obtain ⟨σ', hx, H, hr⟩ := frzV_sound 8 _ _ _ _ σ _ R.hr (R.env t) hv
      exact fin hx (R.set hx H (.frz hr)) e
    | frzp t sz =>
      simp only [cmds] at e
      obtain ⟨⟨v, h'⟩, hv, e⟩ := Option.bind_eq_some_iff.1 e
      obtain ⟨σ', hx, H, hr⟩ := frzP_sound R.hr (R.env t) hv
      exact fin hx (R.set hx H hr) e
    | prom t id sz =>
      simp only [cmds] at e
      obtain ⟨⟨v, h'⟩, hv, e⟩ := Option.bind_eq_some_iff.1 e
      obtain ⟨σ', hx, H, hr⟩ := promV_sound R.hr (R.env t) hv
      exact fin hx (R.set hx H hr) e
    | promc t off id sz =>
      simp only [cmds] at e
      obtain ⟨h', hv, e⟩ := Option.bind_eq_some_iff.1 e
      obtain ⟨σ', hx, H⟩ := promC_sound R.hr hv
      exact fin (s1 := ⟨s.e, h'⟩) hx ⟨H, R.gr.ext hx, fun i => (R.env i).ext hx, R.siz, R.nod⟩ e
    | frzc t off =>
      simp only [cmds] at e
      obtain ⟨h', hv, e⟩ := Option.bind_eq_some_iff.1 e
      obtain ⟨σ', hx, H⟩ := frzC_sound R.hr hv
      exact fin (s1 := ⟨s.e, h'⟩) hx ⟨H, R.gr.ext hx, fun i => (R.env i).ext hx, R.siz, R.nod⟩ e
/-! ### results -/
def resG (tmps : Array Value) : ResultVar → Sem Value
  | .tmp t => pure (tmps.getD t undef)
  | .cell a t => do loadVar t (← asAddr (tmps.getD a undef))
theorem resL_sound {σ : Sg} {s : St} {a : Act} {w : World} (R : RRel G n σ s a w) : ∀ (rs : List ResultVar) (l : List V), resL P s.e s.h rs = some l →
    ∃ ys : List Value, (rs.mapM (resG a.tmps)).run P w = .ok ys w ∧ CRel σ w l ys.toArray
  | [], l, e => by
    simp only [resL, Option.some.injEq] at e
    subst e
    exact ⟨[], by simp, ⟨rfl, fun i h => by simp at h⟩⟩
  | r :: rs, l, e => by
    have key : ∀ {v : V} {y : Value} {l' : List V}, (resG a.tmps r).run P w = .ok y w → VRel σ w v y → resL P s.e s.h rs = some l' → ∃ ys : List Value, ((r :: rs).mapM (resG a.tmps)).run P w = .ok ys w ∧ CRel σ w (v :: l') ys.toArray := by
      intro v y l' hy hv e
      obtain ⟨ys, h1, h2⟩ := resL_sound R rs l' e
      refine ⟨y :: ys, by simp [List.mapM_cons, hy, h1], ⟨by simp [h2.1], fun i hi hi' => ?_⟩⟩
      cases i with
      | zero => simpa using hv
      | succ i =>
        have := h2.2 i (by simpa using hi) (by simpa using hi')
        simp only [List.getElem_toArray] at this
        simpa using this
    cases r with
    | tmp t =>
      simp only [resL] at e
      obtain ⟨l', hl, e⟩ := Option.bind_eq_some_iff.1 e
      injection e with e
      subst e
      exact key (y := a.tmps.getD t undef) (by simp [resG]) (R.env t) hl
    | cell p t =>
      simp only [resL] at e
      split at e
      · rename_i m hs
        obtain ⟨v, hv, e⟩ := Option.bind_eq_some_iff.1 e
        obtain ⟨l', hl, e⟩ := Option.bind_eq_some_iff.1 e
        injection e with e
        subst e
        have hp := R.env p
        obtain ⟨ad, had⟩ := ld_pointer hp hv
        obtain ⟨y, hy, hvy⟩ := ld_sound (P := P) R.hr hp hs hv
        rw [had] at hy
        simp only [Instr.loadAt, Instr.sureAddr, Sem.run_bind, Sem.run_pure, Result.andThen_ok] at hy
        have had' : a.tmps.getD p undef = .pointer (some ad) := had
        refine key (y := y) ?_ hvy hl
        simp only [resG, had', asAddr, Sem.run_bind, Sem.run_pure, Result.andThen_ok, hy]
      · simp at e
theorem results_eq (fn : Func) (tmps : Array Value) : results fn tmps = (do
    let vs ← fn.results.toList.mapM (resG tmps)
    pure (if h : vs.toArray.size = 1 then vs.toArray[0] else .tuple vs.toArray)) := by
  have h1 : results fn tmps = (do
      let vs ← fn.results.mapM (resG tmps)
      pure (if h : vs.size = 1 then vs[0] else .tuple vs)) := by
    unfold results
    congr 1
  rw [h1]
  have h2 : fn.results.mapM (resG tmps) = List.toArray <$> fn.results.toList.mapM (resG tmps) := by
    rw [← List.mapM_toArray]
  rw [h2]
  simp
theorem resV_sound {σ : Sg} {s : St} {a : Act} {w : World} (R : RRel G n σ s a w) {fn : Func} {v : V} (e : resV P fn.results.toList s.e s.h = some v) : ∃ r, (results fn a.tmps).run P w = .ok r w ∧ VRel σ w v r := by
  rw [results_eq]
  have one : ∀ {y : Value}, (fn.results.toList.mapM (resG a.tmps)).run P w = .ok [y] w → VRel σ w v y → ∃ r, (do
    let vs ← fn.results.toList.mapM (resG a.tmps)
    pure (if h : vs.toArray.size = 1 then vs.toArray[0] else .tuple vs.toArray) : Sem Value).run P w = .ok r w ∧ VRel σ w v r := by
    intro y hy hv
    exact ⟨y, by simp [hy], hv⟩
  unfold resV at e
  split at e
  · rename_i t hrs
    injection e with e
    subst e
    rw [hrs] at one ⊢
    exact one (y := a.tmps.getD t undef) (by simp [List.mapM_cons, resG]) (R.env t)
  · obtain ⟨l, hl, e⟩ := Option.bind_eq_some_iff.1 e
    obtain ⟨ys, h1, h2⟩ := resL_sound R _ _ hl
    unfold tupL at e
    split at e
    · rename_i u
      injection e with e
      subst e
      have hlen := h2.1
      match ys, hlen with
      | [y], _ => exact one h1 (by simpa using h2.2 0 (by simp) (by simp))
    · rename_i hne
      injection e with e
      subst e
      have hs : ¬ ys.length = 1 := by
        intro hy
        have hl1 : l.length = 1 := by have := h2.1; simp at this; omega
        obtain ⟨u, hu⟩ := List.length_eq_one_iff.1 hl1
        exact hne u hu
      exact ⟨.tuple ys.toArray, by simp [h1, hs], .tup _ _ h2.1 fun i hi => h2.2 i hi _⟩
/-! ### code -/
/-- What must follow from how code ends. -/
def OutQ (P : Program) (G : Nat → V) (fn : Func) (n : Nat) (σ : Sg) (w : World) (Q : Exit → Act → World → Prop) : Out → Prop
  | .normal s => ∀ a' w' σ', Ext σ w σ' w' → RRel G n σ' s a' w' → Q .normal a' w'
  | .exit i s => ∀ a' w' σ', Ext σ w σ' w' → RRel G n σ' s a' w' → Q (.exit i) a' w'
  | .ret v h => ∀ a' w' σ', Ext σ w σ' w' → HRel σ' h w' → a'.defers = [] → (∃ r, (results fn a'.tmps).run P w' = .ok r w' ∧ VRel σ' w' v r) → Q .ret a' w'
theorem OutQ.ext {fn : Func} {σ σ1 : Sg} {w w1 : World} {Q : Exit → Act → World → Prop} {out : Out} (h : OutQ P G fn n σ w Q out) (hx : Ext σ w σ1 w1) : OutQ P G fn n σ1 w1 Q out := by
  cases out with
  | normal s => exact fun a' w' σ' hx' => h a' w' σ' (hx.trans hx')
  | exit i s => exact fun a' w' σ' hx' => h a' w' σ' (hx.trans hx')
  | ret v hp => exact fun a' w' σ' hx' => h a' w' σ' (hx.trans hx')
theorem RRel.keep {σ : Sg} {s : St} {a : Act} {w : World} (R : RRel G n σ s a w) (l : Option (List Nat)) : RRel G n σ (keepS l s) a w := by
  cases l with
  | none => exact R
  | some l =>
    refine ⟨R.hr, R.gr, fun t => ?_, R.siz, R.nod⟩
    show VRel σ w (pickE s.e l t) _
    induction l with
    | nil => exact .frz (.undef _)
    | cons t' l ih =>
      simp only [pickE, upd]
      cases hb : Nat.beq t t' with
      | true =>
        have := Nat.eq_of_beq_eq_true hb
        subst this
        exact R.env t
      | false => exact ih
theorem execR_wp (hT : SoundT P G T) (hm : P.follows .mixedOrders = true) {A : Ann} {id : Nat} {ops : Array Oper} {draw : Bool} {s : St} {k : St → Option Out} {out : Out} {σ : Sg} {a : Act} {w : World} (R : RRel G n σ s a w)
    (e : execR P T G A n id ops draw s k = some out) {Q : Exit → Act → World → Prop} (hQ : ∀ s' a' w' σ', Ext σ w σ' w' → RRel G n σ' s' a' w' → k s' = some out → Q .normal a' w') : (Code.region id ops draw).wp P Q a w := by
  unfold execR at e
  simp only at e
  cases hd : dstsOk n ops with
  | false => rw [hd] at e; simp at e
  | true =>
    rw [hd] at e
    simp only [cond_true] at e
    cases draw with
    | false =>
      simp only [cond_false] at e
      obtain ⟨s1, σ1, hx1, R1, e⟩ := cmds_sound _ _ _ _ _ R e
      refine wp_region_list (runOps_wp hT ops.toList 0 s1 σ1 a w R1 (dstsOk_spec hd) e fun s' a' w' σ' hx R' e => ?_)
      obtain ⟨s2, σ2, hx2, R2, e⟩ := cmds_sound _ _ _ _ _ R' e
      exact hQ _ a' w' σ2 ((hx1.trans hx).trans hx2) (R2.keep _) e
    | true =>
      simp only [cond_true, CheckFast.beforeF_eq] at e
      cases hb : tmpsOk ops (Region.before ops) && edgesOk ops with
      | false => rw [hb] at e; simp at e
      | true =>
        rw [hb] at e
        simp only [cond_true] at e
        rw [Bool.and_eq_true] at hb
        obtain ⟨s1, σ1, hx1, R1, e⟩ := cmds_sound _ _ _ _ _ R e
        refine wp_region_any hm (runOps_any hT hd hb.1 hb.2 R1.drew e fun s' a' w' σ' hx R' e => ?_)
        obtain ⟨s2, σ2, hx2, R2, e⟩ := cmds_sound _ _ _ _ _ R' e
        exact hQ _ a' w' σ2 ((hx1.trans hx.of_drew).trans hx2) (R2.keep _) e
def SoundLp (lp : Lp) : Prop := ∀ f s r, lp f s = some r → ∃ m, loopN f m s = some r
theorem exec_wp (hT : SoundT P G T) (hm : P.follows .mixedOrders = true) {lp : Lp} (hlp : SoundLp lp) {A : Ann} {fn : Func} : ∀ (c : Code) (s : St) (σ : Sg) (a : Act) (w : World) (out : Out) (Q : Exit → Act → World → Prop), RRel G n σ s a w →
    exec P T G lp A n fn.results.toList c s = some out → OutQ P G fn n σ w Q out → c.wp P Q a w := by
  intro c
  induction c with
  | skip =>
    intro s σ a w out Q R e h
    simp only [exec, Option.some.injEq] at e
    subst e
    exact wp_skip (h a w σ (Ext.refl σ w) R)
  | label l =>
    intro s σ a w out Q R e h
    simp only [exec, Option.some.injEq] at e
    subst e
    exact wp_label (h a w σ (Ext.refl σ w) R)
  | exit id =>
    intro s σ a w out Q R e h
    simp only [exec, Option.some.injEq] at e
    subst e
    exact wp_exit (h a w σ (Ext.refl σ w) R)
  | ret =>
    intro s σ a w out Q R e h
    simp only [exec] at e
    obtain ⟨v, hv, e⟩ := Option.bind_eq_some_iff.1 e
    injection e with e
    subst e
    exact wp_ret (h a w σ (Ext.refl σ w) R.hr R.nod (resV_sound R hv))
  | region id ops draw =>
    intro s σ a w out Q R e h
    simp only [exec] at e
    refine execR_wp hT hm R e fun s' a' w' σ' hx R' e => ?_
    injection e with e
    subst e
    exact h a' w' σ' hx R'
  | seq x y ihx ihy =>
    intro s σ a w out Q R e h
    have gen : seqX (exec P T G lp A n fn.results.toList x s) (exec P T G lp A n fn.results.toList y) = some out → (Code.seq x y).wp P Q a w := by
      intro e
      unfold seqX at e
      obtain ⟨o1, h1, e⟩ := Option.bind_eq_some_iff.1 e
      refine wp_seq (ihx s σ a w o1 _ R h1 ?_)
      cases o1 with
      | normal s1 => exact fun a' w' σ' hx R' => ihy s1 σ' a' w' out Q R' e (h.ext hx)
      | exit i s1 =>
        injection e with e
        subst e
        exact h
      | ret v hp =>
        injection e with e
        subst e
        exact h
    cases x with
    | region id ops draw =>
      simp only [exec] at e
      refine wp_seq (execR_wp hT hm R e fun s' a' w' σ' hx R' e => ?_)
      exact ihy s' σ' a' w' out Q R' e (h.ext hx)
    | _ => exact gen e
  | cond c t f iht ihf =>
    intro s σ a w out Q R e h
    simp only [exec, condV] at e
    split at e
    · rename_i b hb
      have hv := R.ev c
      rw [hb] at hv
      cases b with
      | true => exact wp_cond_true hv.bool_inv (iht s σ a w out Q R e h)
      | false => exact wp_cond_false hv.bool_inv (ihf s σ a w out Q R e h)
    · simp at e
  | block id b ih =>
    intro s σ a w out Q R e h
    simp only [exec, blkX] at e
    obtain ⟨o1, h1, e⟩ := Option.bind_eq_some_iff.1 e
    refine wp_block (ih s σ a w o1 _ R h1 ?_)
    cases o1 with
    | normal s1 =>
      injection e with e
      subst e
      exact h
    | exit i s1 =>
      simp only at e
      cases hb : Nat.beq i id with
      | true =>
        rw [hb] at e
        injection e with e
        subst e
        have := Nat.eq_of_beq_eq_true hb
        intro a' w' σ' hx R'
        simp only [Exit.inBlock, this, if_true]
        exact h a' w' σ' hx R'
      | false =>
        rw [hb] at e
        injection e with e
        subst e
        have : ¬ i = id := fun h => by rw [h, Nat.beq_refl] at hb; simp at hb
        intro a' w' σ' hx R'
        simp only [Exit.inBlock, if_neg this]
        exact h a' w' σ' hx R'
    | ret v hp =>
      injection e with e
      subst e
      exact h
  | loop b ih =>
    intro s σ a w out Q R e h
    simp only [exec] at e
    obtain ⟨m, hm'⟩ := hlp _ _ _ e
    refine wp_loop_rounds m ?_
    clear e
    induction m generalizing s σ a w with
    | zero => simp [loopN] at hm'
    | succ m ihm =>
      unfold loopN at hm'
      obtain ⟨o1, h1, e⟩ := Option.bind_eq_some_iff.1 hm'
      rw [rounds_succ]
      refine ih s σ a w o1 _ R h1 ?_
      cases o1 with
      | normal s1 => exact fun a' w' σ' hx R' => ihm s1 σ' a' w' R' (h.ext hx) e
      | exit i s1 =>
        injection e with e
        subst e
        exact h
      | ret v hp =>
        injection e with e
        subst e
        exact h
  | _ =>
    intro s σ a w out Q R e h
    simp [exec] at e
theorem hget_pad (h : Heap) (m k : Nat) : hget (h ++ pad m) k = hget h k := by
  induction h generalizing k with
  | nil =>
    simp only [List.nil_append, hget_nil]
    induction m generalizing k with
    | zero => simp [pad]
    | succ m ih => cases k <;> simp [pad, hget, ih]
  | cons a h ih => cases k <;> simp [hget, ih]
theorem execF_sound (hT : SoundT P G T) (hm : P.follows .mixedOrders = true) {lp : Lp} (hlp : SoundLp lp) {A : Ann} {f : Nat} {fn : Func} (hf : P.funcs[f]? = some fn) (hn : (fn.name == "runtime.NumGoroutine") = false) (hb : fn.body.isNone = false) :
    SoundF P G f (execF P T G lp A fn) where
  fn := ⟨fn, hf, hn, hb⟩
  run := by
    intro args h v h' e σ w xs H hG ha
    unfold execF at e
    cases hc : fn.body with
    | none => rw [hc] at hb; simp at hb
    | some c =>
      rw [hc] at e
      simp only [fin] at e
      obtain ⟨out, ho, e⟩ := Option.bind_eq_some_iff.1 e
      have hsz := ha.1
      refine calls_of_wp hf hc (exec_wp (n := fn.ntmps) hT hm hlp c _ σ _ w out _ ⟨H.congr fun k => hget_pad _ _ _, hG, fun t => ?_, by simp; omega, rfl⟩ ho ?_)
      · simp only [Act.eval]
        have arg : ∀ (l : List V) (t : Nat), argE l t = (l[t]?).getD .undef := by
          intro l
          induction l with
          | nil => intro t; simp [argE]
          | cons v l ih =>
            intro t
            cases t with
            | zero => simp [argE]
            | succ t => simp [argE, ih]
        rw [arg]
        by_cases ht : t < args.length
        · rw [List.getElem?_eq_getElem ht]
          have ht' : t < xs.size := by omega
          have : (xs ++ Array.replicate (fn.ntmps - xs.size) undef).getD t undef = xs[t] := by
            simp [Array.getD, Array.getElem_append, ht']
            intro hh
            omega
          rw [this]
          exact ha.2 t ht ht'
        · rw [List.getElem?_eq_none (by omega)]
          exact .frz (.undef _)
      · cases out with
        | normal s =>
          simp only at e
          obtain ⟨u, hu, e⟩ := Option.bind_eq_some_iff.1 e
          injection e with e
          injection e with e1 e2
          subst e1 e2
          intro a' w' σ' hx R'
          obtain ⟨r, hr, hv⟩ := resV_sound R' hu
          exact ⟨R'.nod, r, hr, r, σ', rfl, hx, R'.hr, hv⟩
        | exit i s => simp at e
        | ret u hp =>
          simp only [Option.some.injEq, Prod.mk.injEq] at e
          obtain ⟨rfl, rfl⟩ := e
          rintro a' w' σ' hx H' hd ⟨r, hr, hv⟩
          exact ⟨hd, r, hr, r, σ', rfl, hx, H', hv⟩
end
end Mini
end
/- The loop operator, the meaning of all functions of a program at once, and how a call of a function that needs no memory of its caller's comes out. -/
section
set_option linter.unusedVariables false
set_option linter.unusedSimpArgs false
namespace Mini
open Go
theorem loopN_more {f : St → Option Out} : ∀ {n : Nat} {s : St} {r : Out}, loopN f n s = some r → loopN f (n + 1) s = some r
  | 0, s, r, h => by simp [loopN] at h
  | n + 1, s, r, h => by
    unfold loopN at h ⊢
    obtain ⟨o, ho, h⟩ := Option.bind_eq_some_iff.1 h
    rw [ho]
    cases o with
    | normal s' => exact loopN_more h
    | exit i s' => exact h
    | ret v hp => exact h
theorem loopN_le {f : St → Option Out} {n m : Nat} (hle : n ≤ m) {s : St} {r : Out} (h : loopN f n s = some r) : loopN f m s = some r := by
  induction hle with
  | refl => exact h
  | step _ ih => exact loopN_more ih
open Classical in
/-- A loop's end, if it has one. -/
noncomputable def lpC : Lp := fun f s => if h : ∃ n r, loopN f n s = some r then some (choose (choose_spec h)) else none
theorem lpC_some {f : St → Option Out} {s : St} {r : Out} : lpC f s = some r ↔ ∃ n, loopN f n s = some r := by
  unfold lpC
  constructor
  · intro h
    split at h
    · rename_i hx
      injection h with h
      exact ⟨Classical.choose hx, by rw [← h]; exact Classical.choose_spec (Classical.choose_spec hx)⟩
    · simp at h
  · rintro ⟨n, h⟩
    have hx : ∃ n r, loopN f n s = some r := ⟨n, r, h⟩
    rw [dif_pos hx]
    have h2 := Classical.choose_spec (Classical.choose_spec hx)
    have e1 := loopN_le (Nat.le_max_left n (Classical.choose hx)) h
    have e2 := loopN_le (Nat.le_max_right n (Classical.choose hx)) h2
    rw [e1] at e2
    exact e2.symm
theorem lpC_sound : SoundLp lpC := fun _ _ _ h => lpC_some.1 h
theorem lpC_next {f : St → Option Out} {s s' : St} (h : f s = some (.normal s')) : lpC f s = lpC f s' := by
  apply Option.ext
  intro r
  rw [lpC_some, lpC_some]
  constructor
  · rintro ⟨n, hn⟩
    cases n with
    | zero => simp [loopN] at hn
    | succ n =>
      unfold loopN at hn
      rw [h] at hn
      exact ⟨n, hn⟩
  · rintro ⟨n, hn⟩
    refine ⟨n + 1, ?_⟩
    unfold loopN
    rw [h]
    exact hn
theorem lpC_exit {f : St → Option Out} {s s' : St} {i : Nat} (h : f s = some (.exit i s')) : lpC f s = some (.exit i s') := lpC_some.2 ⟨1, by unfold loopN; rw [h]; rfl⟩
theorem lpC_ret {f : St → Option Out} {s : St} {v : V} {hp : Heap} (h : f s = some (.ret v hp)) : lpC f s = some (.ret v hp) := lpC_some.2 ⟨1, by unfold loopN; rw [h]; rfl⟩
/-! ### all functions -/
section
variable (P : Program) (G : Nat → V) (An : Nat → Ann)
/-- The functions' meanings, calls within calls as deep as n. -/
noncomputable def den : Nat → Nat → Option FS
  | 0, _ => none
  | n + 1, f => match P.funcs[f]? with
    | some fn => cond ((fn.name == "runtime.NumGoroutine") || fn.body.isNone) none (some (execF P (den n) G lpC (An f) fn))
    | none => none
theorem den_sound (hm : P.follows .mixedOrders = true) : ∀ n, SoundT P G (den P G An n)
  | 0, f, F, h => by simp [den] at h
  | n + 1, f, F, h => by
    unfold den at h
    split at h
    · rename_i fn hf
      cases hc : (fn.name == "runtime.NumGoroutine") || fn.body.isNone with
      | true => rw [hc] at h; simp at h
      | false =>
        rw [hc] at h
        simp only [cond_false, Option.some.injEq] at h
        subst h
        rw [Bool.or_eq_false_iff] at hc
        exact execF_sound (den_sound hm n) hm lpC_sound hf hc.1 hc.2
    · simp at h
noncomputable def dn (n f : Nat) (args : List V) (h : Heap) : Option (V × Heap) := (den P G An n f).bind fun F => F args h
end
theorem noRef_ren (f : Nat → Nat → Option (Nat × Nat)) : (∀ v : V, v.noRef = true → v.ren f = v) ∧ ∀ l : List V, noRefL l = true → renL f l = l := by
  have key : ∀ n : Nat, (∀ v : V, sizeOf v ≤ n → v.noRef = true → v.ren f = v) ∧ ∀ l : List V, sizeOf l ≤ n → noRefL l = true → renL f l = l := by
    intro n
    induction n with
    | zero =>
      constructor
      · intro v hv; cases v <;> simp at hv
      · intro l hl; cases l <;> simp at hl
    | succ n ih =>
      constructor
      · intro v hv h
        cases v <;> simp only [V.ren] <;> first | rfl | (simp [V.noRef] at h; done) | skip
        · simp only [V.noRef, Bool.and_eq_true] at h
          simp only [V.fn.sizeOf_spec] at hv
          rw [ih.2 _ (by omega) h.1, ih.2 _ (by omega) h.2]
        · simp only [V.noRef] at h
          simp only [V.iface.sizeOf_spec] at hv
          rw [ih.1 _ (by omega) h]
        · simp only [V.noRef] at h
          simp only [V.agg.sizeOf_spec] at hv
          rw [ih.2 _ (by omega) h]
        · simp only [V.noRef] at h
          simp only [V.tup.sizeOf_spec] at hv
          rw [ih.2 _ (by omega) h]
      · intro l hl h
        cases l with
        | nil => rfl
        | cons v l =>
          simp only [noRefL, Bool.and_eq_true] at h
          simp only [List.cons.sizeOf_spec] at hl
          simp only [renL]
          rw [ih.1 _ (by omega) h.1, ih.2 _ (by omega) h.2]
  exact ⟨fun v => (key (sizeOf v)).1 v (Nat.le_refl _), fun l => (key (sizeOf l)).2 l (Nat.le_refl _)⟩
section
variable {P : Program} {G : Nat → V} {An : Nat → Ann}
/-- A function answers v, without memory of its caller's. -/
def Ret (P : Program) (G : Nat → V) (An : Nat → Ann) (n f : Nat) (args : List V) (v : V) : Prop := noRefL args = true ∧ v.noRef = true ∧ ∃ h', dn P G An n f args [] = some (v, h')
theorem Ret.run {n f : Nat} {args : List V} {v : V} (R : Ret P G An n f args v) (h : Heap) : runF (den P G An n) f {} args h = some (v, h) := by
  obtain ⟨h1, h2, h', h3⟩ := R
  unfold dn at h3
  obtain ⟨F, hF, h3⟩ := Option.bind_eq_some_iff.1 h3
  have e0 : callV F [] [] [] args h = (F (renL (entM [] h) args) (entH [] h)).bind fun r => some (r.1.ren (exM [] [] h), h) := rfl
  have e1 : entH [] h = [] := rfl
  unfold runF
  rw [hF]
  show callV F [] [] [] args h = _
  rw [e0, (noRef_ren _).2 _ (by simpa using h1), e1, h3]
  simp only [Option.bind_some]
  rw [(noRef_ren _).1 _ h2]
theorem Ret.runV {n f : Nat} {args : List V} {v : V} (R : Ret P G An n f args v) (h : Heap) : runFV (den P G An n) (.fn (.func f) [] []) {} args h = some (v, h) := by
  simpa [runFV] using R.run h
end
/-- Cells that are held against each other one by one. -/
def eqN (n g : Nat) : List (Nat × Nat) := (List.range n).map fun i => (i, g)
end Mini
end
/- Rules by which the small machine's terms are reckoned out. -/
section
set_option linter.unusedVariables false
set_option linter.unusedSimpArgs false
namespace Mini
open Go
/-! ### flow (what stands behind is not looked at before it is come to) -/
@[congr] theorem bind_congr1 {α β : Type} {x y : Option α} {k : α → Option β} (h : x = y) : x.bind k = y.bind k := by rw [h]
@[congr] theorem seqX_congr1 {x y : Option Out} {k : St → Option Out} (h : x = y) : seqX x k = seqX y k := by rw [h]
@[congr] theorem condV_congr1 {x y : V} {t e : Option Out} (h : x = y) : condV x t e = condV y t e := by rw [h]
@[simp] theorem seqX_some_normal (s : St) (k : St → Option Out) : seqX (some (.normal s)) k = k s := rfl
@[simp] theorem seqX_some_exit (i : Nat) (s : St) (k : St → Option Out) : seqX (some (.exit i s)) k = some (.exit i s) := rfl
@[simp] theorem seqX_some_ret (v : V) (h : Heap) (k : St → Option Out) : seqX (some (.ret v h)) k = some (.ret v h) := rfl
@[simp] theorem blkX_normal (i : Nat) (s : St) : blkX i (some (.normal s)) = some (.normal s) := rfl
@[simp] theorem blkX_ret (i : Nat) (v : V) (h : Heap) : blkX i (some (.ret v h)) = some (.ret v h) := rfl
@[simp] theorem blkX_exit (i j : Nat) (s : St) : blkX i (some (.exit j s)) = if j = i then some (.normal s) else some (.exit j s) := by
  unfold blkX
  simp only [Option.bind_some]
  by_cases h : j = i
  · subst h
    simp
  · have : Nat.beq j i = false := by
      rw [← Bool.not_eq_true]
      intro hb
      exact h (Nat.eq_of_beq_eq_true hb)
    rw [this, if_neg h]
    rfl
@[simp] theorem condV_bool (b : Bool) (t e : Option Out) : condV (.bool b) t e = if b = true then t else e := by cases b <;> rfl
@[simp] theorem fin_ret (P : Program) (rs : List ResultVar) (v : V) (h : Heap) : fin P rs (some (.ret v h)) = some (v, h) := rfl
@[simp] theorem fin_normal0 (P : Program) (s : St) : fin P [] (some (.normal s)) = some (.tup [], s.h) := rfl
@[simp] theorem seqX_ite (c : Prop) [Decidable c] (a b : Option Out) (k : St → Option Out) : seqX (if c then a else b) k = if c then seqX a k else seqX b k := by split <;> rfl
@[simp] theorem blkX_ite (i : Nat) (c : Prop) [Decidable c] (a b : Option Out) : blkX i (if c then a else b) = if c then blkX i a else blkX i b := by split <;> rfl
@[simp] theorem fin_ite (P : Program) (rs : List ResultVar) (c : Prop) [Decidable c] (a b : Option Out) : fin P rs (if c then a else b) = if c then fin P rs a else fin P rs b := by split <;> rfl
@[simp] theorem grdV_bool (b want : Bool) (x : Option V) : grdV (.bool b) want x = if b = want then x else some (.tup []) := by cases b <;> cases want <;> rfl
@[simp] theorem grdV_skip (want : Bool) (x : Option V) : grdV (.tup []) want x = some (.tup []) := rfl
@[simp] theorem grdH_bool (b want : Bool) (h : Heap) (x : Option (V × Heap)) : grdH (.bool b) want h x = if b = want then x else some (.tup [], h) := by cases b <;> cases want <;> rfl
@[simp] theorem grdH_skip (want : Bool) (h : Heap) (x : Option (V × Heap)) : grdH (.tup []) want h x = some (.tup [], h) := rfl
@[simp] theorem pickV_bool (c : Bool) (a b : V) : pickV (.bool c) a b = some (if c = true then a else b) := by cases c <;> rfl
@[simp] theorem grdB_true {α : Type} (x : Option α) : grdB true x = x := rfl
@[simp] theorem bind_ite {α β : Type} (c : Prop) [Decidable c] (a b : Option α) (k : α → Option β) : (if c then a else b).bind k = if c then a.bind k else b.bind k := by split <;> rfl
/-! ### temporaries -/
@[simp] theorem envL_hit (k : Nat) (v : V) (l : List (Nat × V)) : envL ((k, v) :: l) k = v := by simp [envL, upd]
theorem envL_cons (k : Nat) (v : V) (l : List (Nat × V)) (t : Nat) : envL ((k, v) :: l) t = if t = k then v else envL l t := by
  simp only [envL, upd]
  by_cases h : t = k
  · subst h; simp
  · have : Nat.beq t k = false := by
      rw [← Bool.not_eq_true]
      intro hb
      exact h (Nat.eq_of_beq_eq_true hb)
    rw [this, if_neg h]
    rfl
@[simp] theorem envL_miss (k : Nat) (v : V) (l : List (Nat × V)) (t : Nat) (h : t ≠ k) : envL ((k, v) :: l) t = envL l t := by rw [envL_cons, if_neg h]
attribute [simp] ups argE upd tupL pad hget hset
/-! ### numbers and truths -/
abbrev i64 (n : Int) : V := .int .i64 n
def u32 (b : BitVec 32) : V := .int .u32 b.toNat
def u8 (b : BitVec 8) : V := .int .u8 b.toNat
def u64 (b : BitVec 64) : V := .int .u64 b.toNat
theorem wrap_i64 {n : Int} (h1 : -9223372036854775808 ≤ n) (h2 : n ≤ 9223372036854775807) : IntKind.i64.wrap n = n := by
  have : IntKind.i64.wrap n = if n % 18446744073709551616 ≥ 9223372036854775808 then n % 18446744073709551616 - 18446744073709551616 else n % 18446744073709551616 := by
    simp [IntKind.wrap, IntKind.signed, IntKind.bits]
  rw [this]
  split <;> omega
@[simp] theorem i64_eql (x y : Int) : intV .eql (.int .i64 x) (.int .i64 y) = some (.bool (decide (x = y))) := by
  show some (V.bool (x == y)) = _
  simp only [Option.some.injEq, V.bool.injEq]
  rw [Bool.eq_iff_iff]
  simp
@[simp] theorem i64_neq (x y : Int) : intV .neq (.int .i64 x) (.int .i64 y) = some (.bool (decide (x ≠ y))) := by
  show some (V.bool (x != y)) = _
  simp only [Option.some.injEq, V.bool.injEq]
  rw [Bool.eq_iff_iff]
  simp
@[simp] theorem i64_lss (x y : Int) : intV .lss (.int .i64 x) (.int .i64 y) = some (.bool (decide (x < y))) := by simp [intV, isShift, intBin]
@[simp] theorem i64_leq (x y : Int) : intV .leq (.int .i64 x) (.int .i64 y) = some (.bool (decide (x ≤ y))) := by simp [intV, isShift, intBin]
@[simp] theorem i64_gtr (x y : Int) : intV .gtr (.int .i64 x) (.int .i64 y) = some (.bool (decide (x > y))) := by simp [intV, isShift, intBin]
@[simp] theorem i64_geq (x y : Int) : intV .geq (.int .i64 x) (.int .i64 y) = some (.bool (decide (x ≥ y))) := by simp [intV, isShift, intBin]
theorem i64_add {x y : Int} (h1 : -9223372036854775808 ≤ x + y) (h2 : x + y ≤ 9223372036854775807) : intV .add (.int .i64 x) (.int .i64 y) = some (.int .i64 (x + y)) := by simp [intV, isShift, intBin, wrap_i64 h1 h2]
theorem i64_sub {x y : Int} (h1 : -9223372036854775808 ≤ x - y) (h2 : x - y ≤ 9223372036854775807) : intV .sub (.int .i64 x) (.int .i64 y) = some (.int .i64 (x - y)) := by simp [intV, isShift, intBin, wrap_i64 h1 h2]
theorem i64_mul {x y : Int} (h1 : -9223372036854775808 ≤ x * y) (h2 : x * y ≤ 9223372036854775807) : intV .mul (.int .i64 x) (.int .i64 y) = some (.int .i64 (x * y)) := by simp [intV, isShift, intBin, wrap_i64 h1 h2]
@[simp] theorem bool_eql (x y : Bool) : boolV .eql (.bool x) (.bool y) = some (.bool (x == y)) := rfl
@[simp] theorem bool_neq (x y : Bool) : boolV .neq (.bool x) (.bool y) = some (.bool (x != y)) := rfl
@[simp] theorem bool_not (x : Bool) : unV .not (.bool x) = some (.bool (!x)) := rfl
theorem u32_bits (a : BitVec 32) : BitVec.ofInt 32 (a.toNat : Int) = a := by simp
theorem wrap_u32 (n : Int) : IntKind.u32.wrap n = ((BitVec.ofInt 32 n).toNat : Int) := by
  have : IntKind.u32.wrap n = n % 4294967296 := by simp [IntKind.wrap, IntKind.signed, IntKind.bits]
  rw [this, BitVec.toNat_ofInt]
  omega
theorem u32_lit (n : Nat) (h : n < 4294967296) : V.int .u32 (n : Int) = u32 (BitVec.ofNat 32 n) := by
  simp [u32, Nat.mod_eq_of_lt h]
theorem u32_wrap (x : BitVec 32) : V.int .u32 (IntKind.u32.wrap x.toNat) = u32 x := by rw [wrap_u32, u32_bits]; rfl
@[simp] theorem u32_and (a b : BitVec 32) : intV .and (u32 a) (u32 b) = some (u32 (a &&& b)) := by
  show some (V.int .u32 (IntKind.u32.wrap ((BitVec.ofInt 32 a.toNat &&& BitVec.ofInt 32 b.toNat).toNat))) = _
  rw [u32_bits, u32_bits, u32_wrap]
@[simp] theorem u32_or (a b : BitVec 32) : intV .or (u32 a) (u32 b) = some (u32 (a ||| b)) := by
  show some (V.int .u32 (IntKind.u32.wrap ((BitVec.ofInt 32 a.toNat ||| BitVec.ofInt 32 b.toNat).toNat))) = _
  rw [u32_bits, u32_bits, u32_wrap]
@[simp] theorem u32_xor (a b : BitVec 32) : intV .xor (u32 a) (u32 b) = some (u32 (a ^^^ b)) := by
  show some (V.int .u32 (IntKind.u32.wrap ((BitVec.ofInt 32 a.toNat ^^^ BitVec.ofInt 32 b.toNat).toNat))) = _
  rw [u32_bits, u32_bits, u32_wrap]
@[simp] theorem u32_andNot (a b : BitVec 32) : intV .andNot (u32 a) (u32 b) = some (u32 (a &&& ~~~b)) := by
  show some (V.int .u32 (IntKind.u32.wrap ((BitVec.ofInt 32 a.toNat &&& ~~~ BitVec.ofInt 32 b.toNat).toNat))) = _
  rw [u32_bits, u32_bits, u32_wrap]
@[simp] theorem u32_add (a b : BitVec 32) : intV .add (u32 a) (u32 b) = some (u32 (a + b)) := by
  show some (V.int .u32 (IntKind.u32.wrap ((a.toNat : Int) + b.toNat))) = _
  rw [wrap_u32]
  have : (BitVec.ofInt 32 ((a.toNat : Int) + b.toNat)).toNat = (a + b).toNat := by
    rw [BitVec.toNat_ofInt, BitVec.toNat_add]
    omega
  rw [this]
  rfl
@[simp] theorem u32_eql (a b : BitVec 32) : intV .eql (u32 a) (u32 b) = some (.bool (decide (a = b))) := by
  show some (V.bool ((a.toNat : Int) == (b.toNat : Int))) = _
  simp only [Option.some.injEq, V.bool.injEq]
  rw [Bool.eq_iff_iff]
  simp [← BitVec.toNat_inj]
  omega
@[simp] theorem u32_neq (a b : BitVec 32) : intV .neq (u32 a) (u32 b) = some (.bool (decide (a ≠ b))) := by
  show some (V.bool ((a.toNat : Int) != (b.toNat : Int))) = _
  simp only [Option.some.injEq, V.bool.injEq]
  rw [Bool.eq_iff_iff]
  simp [← BitVec.toNat_inj]
  omega
@[simp] theorem u32_0 : V.int .u32 0 = u32 0#32 := rfl
@[simp] theorem u32_1 : V.int .u32 1 = u32 1#32 := rfl
@[simp] theorem u32_max : V.int .u32 4294967295 = u32 4294967295#32 := rfl
theorem i64_shift {op : BinOp} {k : IntKind} {x y : Int} (h : isShift op = true) : intV op (.int k x) (.int .i64 y) = intShift op k x y := by simp [intV, h]
theorem u32_shl {a : BitVec 32} {n : Int} (h : 0 ≤ n) : intV .shl (u32 a) (.int .i64 n) = some (u32 (a <<< n.toNat)) := by
  show (if n < 0 then none else some (V.int .u32 (IntKind.u32.wrap ((a.toNat : Int) * 2 ^ (min n.toNat 32))))) = _
  rw [if_neg (by omega), wrap_u32]
  have : (BitVec.ofInt 32 ((a.toNat : Int) * 2 ^ (min n.toNat 32))).toNat = (a <<< n.toNat).toNat := by
    rw [BitVec.toNat_ofInt, BitVec.toNat_shiftLeft, Nat.shiftLeft_eq]
    by_cases hn : n.toNat ≤ 32
    · rw [Nat.min_eq_left hn]
      have : ((a.toNat : Int) * 2 ^ n.toNat) = ((a.toNat * 2 ^ n.toNat : Nat) : Int) := by simp
      rw [this]
      omega
    · rw [Nat.min_eq_right (by omega)]
      have h2 : 2 ^ n.toNat = 2 ^ 32 * 2 ^ (n.toNat - 32) := by rw [← Nat.pow_add]; congr 1; omega
      rw [h2]
      have e1 : a.toNat * (2 ^ 32 * 2 ^ (n.toNat - 32)) = 2 ^ 32 * (a.toNat * 2 ^ (n.toNat - 32)) := by
        rw [Nat.mul_left_comm]
      rw [e1, Nat.mul_mod_right]
      have e2 : ((a.toNat : Int) * 2 ^ 32) % ((2 ^ 32 : Nat) : Int) = 0 := by
        have : ((2 ^ 32 : Nat) : Int) = (2 : Int) ^ 32 := by norm_cast
        rw [this]
        exact Int.mul_emod_left _ _
      rw [e2]
      rfl
  rw [this]
  rfl
theorem u32_shr {a : BitVec 32} {n : Int} (h : 0 ≤ n) : intV .shr (u32 a) (.int .i64 n) = some (u32 (a >>> n.toNat)) := by
  show (if n < 0 then none else some (V.int .u32 ((a.toNat : Int).fdiv (2 ^ (min n.toNat 32))))) = _
  rw [if_neg (by omega)]
  have : (a.toNat : Int).fdiv (2 ^ (min n.toNat 32)) = ((a >>> n.toNat).toNat : Int) := by
    rw [BitVec.toNat_ushiftRight, Nat.shiftRight_eq_div_pow]
    have e : (2 : Int) ^ (min n.toNat 32) = ((2 ^ (min n.toNat 32) : Nat) : Int) := by norm_cast
    rw [e, Int.fdiv_eq_ediv_of_nonneg _ (Int.natCast_nonneg _)]
    have e2 : (a.toNat : Int) / ((2 ^ (min n.toNat 32) : Nat) : Int) = ((a.toNat / 2 ^ (min n.toNat 32) : Nat) : Int) := rfl
    rw [e2]
    by_cases hn : n.toNat ≤ 32
    · rw [Nat.min_eq_left hn]
    · rw [Nat.min_eq_right (by omega)]
      have hlt : a.toNat < 2 ^ 32 := a.isLt
      have hlt' : a.toNat < 2 ^ n.toNat := Nat.lt_of_lt_of_le hlt (Nat.pow_le_pow_right (by omega) (by omega))
      rw [Nat.div_eq_of_lt hlt, Nat.div_eq_of_lt hlt']
  rw [this]
  rfl
/-! ### memory that is frozen -/
@[simp] theorem takeV_one (cs : List V) (off : Nat) : takeV cs off 0 = match cs[off]? with | some v => if v.isAgg then none else some v | none => none := rfl
@[simp] theorem fits_bool (b : Bool) : fitsV 0 (V.bool b) = true := rfl
@[simp] theorem cells_bool (b : Bool) : V.cells (V.bool b) = [(V.bool b)] := rfl
@[simp] theorem okc_bool (b : Bool) : V.okCell (V.bool b) = true := rfl
@[simp] theorem isa_bool (b : Bool) : V.isAgg (V.bool b) = false := rfl
@[simp] theorem fits_int (k : IntKind) (n : Int) : fitsV 0 (V.int k n) = true := rfl
@[simp] theorem cells_int (k : IntKind) (n : Int) : V.cells (V.int k n) = [(V.int k n)] := rfl
@[simp] theorem okc_int (k : IntKind) (n : Int) : V.okCell (V.int k n) = true := rfl
@[simp] theorem isa_int (k : IntKind) (n : Int) : V.isAgg (V.int k n) = false := rfl
@[simp] theorem fits_str (s : ByteArray) : fitsV 0 (V.str s) = true := rfl
@[simp] theorem cells_str (s : ByteArray) : V.cells (V.str s) = [(V.str s)] := rfl
@[simp] theorem okc_str (s : ByteArray) : V.okCell (V.str s) = true := rfl
@[simp] theorem isa_str (s : ByteArray) : V.isAgg (V.str s) = false := rfl
@[simp] theorem fits_nilp  : fitsV 0 V.nilp = true := rfl
@[simp] theorem cells_nilp  : V.cells V.nilp = [V.nilp] := rfl
@[simp] theorem okc_nilp  : V.okCell V.nilp = true := rfl
@[simp] theorem isa_nilp  : V.isAgg V.nilp = false := rfl
@[simp] theorem fits_ptr (k o st : Nat) : fitsV 0 (V.ptr k o st) = true := rfl
@[simp] theorem cells_ptr (k o st : Nat) : V.cells (V.ptr k o st) = [(V.ptr k o st)] := rfl
@[simp] theorem okc_ptr (k o st : Nat) : V.okCell (V.ptr k o st) = true := rfl
@[simp] theorem isa_ptr (k o st : Nat) : V.isAgg (V.ptr k o st) = false := rfl
@[simp] theorem fits_fz (v : V) : fitsV 0 (V.fz v) = true := rfl
@[simp] theorem cells_fz (v : V) : V.cells (V.fz v) = [(V.fz v)] := rfl
@[simp] theorem okc_fz (v : V) : V.okCell (V.fz v) = true := rfl
@[simp] theorem isa_fz (v : V) : V.isAgg (V.fz v) = false := rfl
@[simp] theorem fits_nils  : fitsV 0 V.nils = true := rfl
@[simp] theorem cells_nils  : V.cells V.nils = [V.nils] := rfl
@[simp] theorem okc_nils  : V.okCell V.nils = true := rfl
@[simp] theorem isa_nils  : V.isAgg V.nils = false := rfl
@[simp] theorem fits_sl (k o l c z st : Nat) : fitsV 0 (V.sl k o l c z st) = true := rfl
@[simp] theorem cells_sl (k o l c z st : Nat) : V.cells (V.sl k o l c z st) = [(V.sl k o l c z st)] := rfl
@[simp] theorem okc_sl (k o l c z st : Nat) : V.okCell (V.sl k o l c z st) = true := rfl
@[simp] theorem isa_sl (k o l c z st : Nat) : V.isAgg (V.sl k o l c z st) = false := rfl
@[simp] theorem fits_vec (xs : List V) : fitsV 0 (V.vec xs) = true := rfl
@[simp] theorem cells_vec (xs : List V) : V.cells (V.vec xs) = [(V.vec xs)] := rfl
@[simp] theorem okc_vec (xs : List V) : V.okCell (V.vec xs) = true := rfl
@[simp] theorem isa_vec (xs : List V) : V.isAgg (V.vec xs) = false := rfl
@[simp] theorem fits_fn (f : Fn) (a b : List V) : fitsV 0 (V.fn f a b) = true := rfl
@[simp] theorem cells_fn (f : Fn) (a b : List V) : V.cells (V.fn f a b) = [(V.fn f a b)] := rfl
@[simp] theorem okc_fn (f : Fn) (a b : List V) : V.okCell (V.fn f a b) = true := rfl
@[simp] theorem isa_fn (f : Fn) (a b : List V) : V.isAgg (V.fn f a b) = false := rfl
@[simp] theorem fits_nilf  : fitsV 0 V.nilf = true := rfl
@[simp] theorem cells_nilf  : V.cells V.nilf = [V.nilf] := rfl
@[simp] theorem okc_nilf  : V.okCell V.nilf = true := rfl
@[simp] theorem isa_nilf  : V.isAgg V.nilf = false := rfl
@[simp] theorem fits_iface (t : TypeId) (v : V) : fitsV 0 (V.iface t v) = true := rfl
@[simp] theorem cells_iface (t : TypeId) (v : V) : V.cells (V.iface t v) = [(V.iface t v)] := rfl
@[simp] theorem okc_iface (t : TypeId) (v : V) : V.okCell (V.iface t v) = true := rfl
@[simp] theorem isa_iface (t : TypeId) (v : V) : V.isAgg (V.iface t v) = false := rfl
@[simp] theorem fits_nili  : fitsV 0 V.nili = true := rfl
@[simp] theorem cells_nili  : V.cells V.nili = [V.nili] := rfl
@[simp] theorem okc_nili  : V.okCell V.nili = true := rfl
@[simp] theorem isa_nili  : V.isAgg V.nili = false := rfl
@[simp] theorem fits_u32 (b : BitVec 32) : fitsV 0 (u32 b) = true := rfl
@[simp] theorem cells_u32 (b : BitVec 32) : V.cells (u32 b) = [(u32 b)] := rfl
@[simp] theorem okc_u32 (b : BitVec 32) : V.okCell (u32 b) = true := rfl
@[simp] theorem isa_u32 (b : BitVec 32) : V.isAgg (u32 b) = false := rfl
@[simp] theorem nor_u32 (b : BitVec 32) : V.noRef (u32 b) = true := rfl
@[simp] theorem fits_u8 (b : BitVec 8) : fitsV 0 (u8 b) = true := rfl
@[simp] theorem cells_u8 (b : BitVec 8) : V.cells (u8 b) = [(u8 b)] := rfl
@[simp] theorem okc_u8 (b : BitVec 8) : V.okCell (u8 b) = true := rfl
@[simp] theorem isa_u8 (b : BitVec 8) : V.isAgg (u8 b) = false := rfl
@[simp] theorem nor_u8 (b : BitVec 8) : V.noRef (u8 b) = true := rfl
@[simp] theorem fits_u64 (b : BitVec 64) : fitsV 0 (u64 b) = true := rfl
@[simp] theorem cells_u64 (b : BitVec 64) : V.cells (u64 b) = [(u64 b)] := rfl
@[simp] theorem okc_u64 (b : BitVec 64) : V.okCell (u64 b) = true := rfl
@[simp] theorem isa_u64 (b : BitVec 64) : V.isAgg (u64 b) = false := rfl
@[simp] theorem nor_u64 (b : BitVec 64) : V.noRef (u64 b) = true := rfl
@[simp] theorem fits_agg (n : Nat) (cs : List V) : fitsV (n + 1) (.agg cs) = (cs.length == n + 1) := rfl
@[simp] theorem cells_agg (cs : List V) : V.cells (.agg cs) = cs := rfl
@[simp] theorem isa_agg (cs : List V) : V.isAgg (.agg cs) = true := rfl
attribute [simp] noRefL V.noRef csz
@[simp] theorem boxV_fz (sz : Nat) (x : V) (h : Heap) : boxV none sz x h = if (fitsV sz x && x.cells.all V.okCell && x.noRef) = true then some (.fz x, h) else none := by
  unfold boxV
  cases fitsV sz x <;> cases x.cells.all V.okCell <;> simp
@[simp] theorem ldV_fz (sz : Nat) (v : V) (h : Heap) : ldV sz (.fz v) h = if fitsV sz v = true then some v else none := rfl
@[simp] theorem faV_fz (off sz : Nat) (v : V) : faV off sz (.fz v) = (takeV v.cells off sz).map .fz := rfl
@[simp] theorem faV_ptr (off sz k o st : Nat) : faV off sz (.ptr k o st) = some (.ptr k (o + off) st) := rfl
@[simp] theorem lenV_vec (xs : List V) : lenV (.vec xs) = some (.int .i64 xs.length) := rfl
@[simp] theorem lenV_nils : lenV .nils = some (.int .i64 0) := rfl
@[simp] theorem extV_tup (vs : List V) (i : Nat) : extV (.tup vs) i = vs[i]? := rfl
theorem iaS_vec {sz : Nat} {xs : List V} {i : Nat} (h : i < xs.length) (hf : fitsV sz xs[i] = true) : iaS sz (.vec xs) (.int .i64 i) = some (.fz xs[i]) := by
  simp [iaS, h, hf]
/-! ### memory that is written -/
@[simp] theorem frzV_bool (n : Nat) (b : Bool) (h : Heap) : frzV (n + 1) (.bool b) h = some (.bool b, h) := rfl
@[simp] theorem frzV_int (n : Nat) (k : IntKind) (x : Int) (h : Heap) : frzV (n + 1) (.int k x) h = some (.int k x, h) := rfl
@[simp] theorem frzV_u32 (n : Nat) (b : BitVec 32) (h : Heap) : frzV (n + 1) (u32 b) h = some (u32 b, h) := rfl
@[simp] theorem frzV_u8 (n : Nat) (b : BitVec 8) (h : Heap) : frzV (n + 1) (u8 b) h = some (u8 b, h) := rfl
@[simp] theorem frzV_str (n : Nat) (b : ByteArray) (h : Heap) : frzV (n + 1) (.str b) h = some (.str b, h) := rfl
@[simp] theorem frzV_vec (n : Nat) (xs : List V) (h : Heap) : frzV (n + 1) (.vec xs) h = some (.vec xs, h) := rfl
@[simp] theorem frzV_nils (n : Nat) (h : Heap) : frzV (n + 1) .nils h = some (.vec [], h) := rfl
@[simp] theorem frzV_agg (n : Nat) (cs : List V) (h : Heap) : frzV (n + 1) (.agg cs) h = (frzL (frzV n) cs h).bind fun r => some (.agg r.1, r.2) := rfl
attribute [simp] frzL allocV newS ptrTo kill
@[simp] theorem cellsAt_0 (st st' : Nat) (cs : List V) (h : Heap) : cellsAt (⟨st', some cs⟩ :: h) 0 st = if st' = st then some cs else none := rfl
@[simp] theorem cellsAt_0n (st st' : Nat) (h : Heap) : cellsAt (⟨st', none⟩ :: h) 0 st = none := rfl
@[simp] theorem cellsAt_s (st k : Nat) (a : Slot) (h : Heap) : cellsAt (a :: h) (k + 1) st = cellsAt h k st := rfl
@[simp] theorem stV_ptr (sz k off st : Nat) (x : V) (h : Heap) : stV sz (.ptr k off st) x h = (cellsAt h k st).bind fun cs =>
      if (fitsV sz x && x.cells.all V.okCell && decide (off + csz sz ≤ cs.length)) = true then some (hset h k ⟨st, some (putCells cs off x.cells)⟩) else none := rfl
@[simp] theorem ldV_ptr (sz k off st : Nat) (h : Heap) : ldV sz (.ptr k off st) h = (cellsAt h k st).bind fun cs => takeV cs off sz := rfl
@[simp] theorem frzP_ptr (sz k st : Nat) (h : Heap) : frzP sz (.ptr k 0 st) h = (cellsAt h k st).bind fun cs =>
      if cs.length = csz sz then
        (frzL (frzV 8) cs (kill h k)).bind fun r => (takeV r.1 0 sz).bind fun v => some (.fz v, r.2)
      else none := rfl
attribute [simp] putCells
@[simp] theorem takeV_succ (cs : List V) (off n : Nat) : takeV cs off (n + 1) = if off + (n + 1) ≤ cs.length then some (.agg ((cs.drop off).take (n + 1))) else none := rfl
/-! ### loops -/
def Out.ends : Out → Prop
  | .normal _ => False
  | _ => True
theorem lpC_ends {f : St → Option Out} {s : St} {o : Out} (h : f s = some o) (he : o.ends) : lpC f s = some o := by
  cases o with
  | normal s' => exact he.elim
  | exit i s' => exact lpC_exit h
  | ret v hp => exact lpC_ret h
/-- A loop that counts up. -/
theorem lp_up {f : St → Option Out} {N : Nat} (Inv : Nat → St → Prop) (Post : Out → Prop)
    (step : ∀ i s, i < N → Inv i s → (∃ s', f s = some (.normal s') ∧ Inv (i + 1) s') ∨ ∃ o, f s = some o ∧ o.ends ∧ Post o)
    (last : ∀ s, Inv N s → ∃ o, f s = some o ∧ o.ends ∧ Post o) : ∀ (m i : Nat) (s : St), i + m = N → Inv i s → ∃ o, lpC f s = some o ∧ o.ends ∧ Post o := by
  intro m
  induction m with
  | zero =>
    intro i s hi hI
    have : i = N := by omega
    subst this
    obtain ⟨o, h1, h2, h3⟩ := last s hI
    exact ⟨o, lpC_ends h1 h2, h2, h3⟩
  | succ m ih =>
    intro i s hi hI
    rcases step i s (by omega) hI with ⟨s', h1, h2⟩ | ⟨o, h1, h2, h3⟩
    · obtain ⟨o, h3, h4⟩ := ih (i + 1) s' (by omega) h2
      exact ⟨o, by rw [lpC_next h1]; exact h3, h4⟩
    · exact ⟨o, lpC_ends h1 h2, h2, h3⟩
/-- The first answer of a search. -/
def firstN {α : Type} (g : Nat → Option α) : Nat → Nat → Option α
  | 0, _ => none
  | m + 1, i => match g i with
    | some a => some a
    | none => firstN g m (i + 1)
def foundP {α : Type} (End : Out → Prop) (Post : α → Out → Prop) : Option α → Out → Prop
  | none, o => End o
  | some a, o => Post a o
/-- A loop that counts up and searches. -/
theorem lp_first {α : Type} {f : St → Option Out} {N : Nat} (g : Nat → Option α) (Inv : Nat → St → Prop) (Post : α → Out → Prop) (End : Out → Prop)
    (step : ∀ i s, i < N → Inv i s → match g i with
      | none => ∃ s', f s = some (.normal s') ∧ Inv (i + 1) s'
      | some a => ∃ o, f s = some o ∧ o.ends ∧ Post a o)
    (last : ∀ s, Inv N s → ∃ o, f s = some o ∧ o.ends ∧ End o) : ∀ (m i : Nat) (s : St), i + m = N → Inv i s → ∃ o, lpC f s = some o ∧ o.ends ∧ foundP End Post (firstN g m i) o := by
  intro m
  induction m with
  | zero =>
    intro i s hi hI
    have : i = N := by omega
    subst this
    obtain ⟨o, h1, h2, h3⟩ := last s hI
    exact ⟨o, lpC_ends h1 h2, h2, h3⟩
  | succ m ih =>
    intro i s hi hI
    have hs := step i s (by omega) hI
    unfold firstN
    cases hg : g i with
    | none =>
      rw [hg] at hs
      obtain ⟨s', h1, h2⟩ := hs
      obtain ⟨o, h3, h4⟩ := ih (i + 1) s' (by omega) h2
      exact ⟨o, by rw [lpC_next h1]; exact h3, h4⟩
    | some a =>
      rw [hg] at hs
      obtain ⟨o, h1, h2, h3⟩ := hs
      exact ⟨o, lpC_ends h1 h2, h2, h3⟩
end Mini
end
/- The program's data as plain Lean, and as the small machine's values. -/
section
set_option linter.unusedVariables false
namespace Mini
open Go
structure Node where
  kind : Int
  arg : Int
  next : Int
  alt : Int
  deriving DecidableEq, Inhabited
def Node.v (n : Node) : V := .agg [i64 n.kind, i64 n.arg, i64 n.next, i64 n.alt]
structure Prg where
  g : Int
  l : Int
  s : Int
  fs : List (List Node)
def nodesV (l : List Node) : V := .vec (l.map Node.v)
def funcsV (l : List (List Node)) : V := .vec (l.map nodesV)
def Prg.v (p : Prg) : V := .agg [i64 p.g, i64 p.l, i64 p.s, funcsV p.fs]
structure Sect where
  entry : BitVec 32
  exit : BitVec 32
  held : List (BitVec 32)
  lentry : BitVec 32
  lexit : BitVec 32
  live : List (BitVec 32)
  deriving Inhabited
def setsV (l : List (BitVec 32)) : V := .vec (l.map u32)
def Sect.v (s : Sect) : V := .agg [u32 s.entry, u32 s.exit, setsV s.held, u32 s.lentry, u32 s.lexit, setsV s.live]
def sectsV (l : List Sect) : V := .vec (l.map Sect.v)
structure Just where
  kind : Int
  lock : Int
  deriving DecidableEq, Inhabited
def Just.v (j : Just) : V := .agg [i64 j.kind, i64 j.lock]
def justsV (l : List Just) : V := .vec (l.map Just.v)
def intsV (l : List Int) : V := .vec (l.map i64)
/-! ### vectors of things -/
@[simp] theorem noRef_nodesV (l : List Node) : (nodesV l).noRef = true := rfl
@[simp] theorem noRef_funcsV (l : List (List Node)) : (funcsV l).noRef = true := rfl
@[simp] theorem noRef_setsV (l : List (BitVec 32)) : (setsV l).noRef = true := rfl
@[simp] theorem noRef_sectsV (l : List Sect) : (sectsV l).noRef = true := rfl
@[simp] theorem noRef_justsV (l : List Just) : (justsV l).noRef = true := rfl
@[simp] theorem noRef_intsV (l : List Int) : (intsV l).noRef = true := rfl
@[simp] theorem noRef_node (n : Node) : n.v.noRef = true := rfl
@[simp] theorem noRef_prg (p : Prg) : p.v.noRef = true := rfl
@[simp] theorem noRef_sect (s : Sect) : s.v.noRef = true := rfl
@[simp] theorem noRef_just (j : Just) : j.v.noRef = true := rfl
@[simp] theorem fits_node (n : Node) : fitsV 4 n.v = true := rfl
@[simp] theorem fits_prg (p : Prg) : fitsV 4 p.v = true := rfl
@[simp] theorem fits_sect (s : Sect) : fitsV 6 s.v = true := rfl
@[simp] theorem fits_just (j : Just) : fitsV 2 j.v = true := rfl
@[simp] theorem cells_node (n : Node) : n.v.cells = [i64 n.kind, i64 n.arg, i64 n.next, i64 n.alt] := rfl
@[simp] theorem cells_prg (p : Prg) : p.v.cells = [i64 p.g, i64 p.l, i64 p.s, funcsV p.fs] := rfl
@[simp] theorem cells_sect (s : Sect) : s.v.cells = [u32 s.entry, u32 s.exit, setsV s.held, u32 s.lentry, u32 s.lexit, setsV s.live] := rfl
@[simp] theorem cells_just (j : Just) : j.v.cells = [i64 j.kind, i64 j.lock] := rfl
@[simp] theorem fits_nodesV (l : List Node) : fitsV 0 (nodesV l) = true := rfl
@[simp] theorem fits_funcsV (l : List (List Node)) : fitsV 0 (funcsV l) = true := rfl
@[simp] theorem fits_setsV (l : List (BitVec 32)) : fitsV 0 (setsV l) = true := rfl
@[simp] theorem fits_sectsV (l : List Sect) : fitsV 0 (sectsV l) = true := rfl
@[simp] theorem fits_justsV (l : List Just) : fitsV 0 (justsV l) = true := rfl
@[simp] theorem fits_intsV (l : List Int) : fitsV 0 (intsV l) = true := rfl
@[simp] theorem okc_nodesV (l : List Node) : (nodesV l).okCell = true := rfl
@[simp] theorem okc_funcsV (l : List (List Node)) : (funcsV l).okCell = true := rfl
@[simp] theorem okc_setsV (l : List (BitVec 32)) : (setsV l).okCell = true := rfl
@[simp] theorem okc_sectsV (l : List Sect) : (sectsV l).okCell = true := rfl
@[simp] theorem okc_justsV (l : List Just) : (justsV l).okCell = true := rfl
@[simp] theorem okc_intsV (l : List Int) : (intsV l).okCell = true := rfl
@[simp] theorem isa_nodesV (l : List Node) : (nodesV l).isAgg = false := rfl
@[simp] theorem isa_funcsV (l : List (List Node)) : (funcsV l).isAgg = false := rfl
@[simp] theorem isa_setsV (l : List (BitVec 32)) : (setsV l).isAgg = false := rfl
@[simp] theorem isa_sectsV (l : List Sect) : (sectsV l).isAgg = false := rfl
@[simp] theorem isa_justsV (l : List Just) : (justsV l).isAgg = false := rfl
@[simp] theorem isa_intsV (l : List Int) : (intsV l).isAgg = false := rfl
@[simp] theorem len_nodesV (l : List Node) : lenV (nodesV l) = some (i64 l.length) := by simp [nodesV]
@[simp] theorem len_funcsV (l : List (List Node)) : lenV (funcsV l) = some (i64 l.length) := by simp [funcsV]
@[simp] theorem len_setsV (l : List (BitVec 32)) : lenV (setsV l) = some (i64 l.length) := by simp [setsV]
@[simp] theorem len_sectsV (l : List Sect) : lenV (sectsV l) = some (i64 l.length) := by simp [sectsV]
@[simp] theorem len_justsV (l : List Just) : lenV (justsV l) = some (i64 l.length) := by simp [justsV]
@[simp] theorem len_intsV (l : List Int) : lenV (intsV l) = some (i64 l.length) := by simp [intsV]
@[simp] theorem frz_nodesV (n : Nat) (l : List Node) (h : Heap) : frzV (n + 1) (nodesV l) h = some (nodesV l, h) := rfl
@[simp] theorem frz_funcsV (n : Nat) (l : List (List Node)) (h : Heap) : frzV (n + 1) (funcsV l) h = some (funcsV l, h) := rfl
@[simp] theorem frz_setsV (n : Nat) (l : List (BitVec 32)) (h : Heap) : frzV (n + 1) (setsV l) h = some (setsV l, h) := rfl
@[simp] theorem frz_sectsV (n : Nat) (l : List Sect) (h : Heap) : frzV (n + 1) (sectsV l) h = some (sectsV l, h) := rfl
@[simp] theorem frz_justsV (n : Nat) (l : List Just) (h : Heap) : frzV (n + 1) (justsV l) h = some (justsV l, h) := rfl
@[simp] theorem frz_intsV (n : Nat) (l : List Int) (h : Heap) : frzV (n + 1) (intsV l) h = some (intsV l, h) := rfl
theorem ia_map {α : Type} {sz : Nat} {f : α → V} (hf : ∀ x, fitsV sz (f x) = true) {l : List α} {i : Nat} (h : i < l.length) : iaS sz (.vec (l.map f)) (i64 i) = some (.fz (f l[i])) := by
  rw [iaS_vec (by simpa using h) (by simp [hf])]
  simp
theorem ia_nodes {l : List Node} {i : Nat} (h : i < l.length) : iaS 4 (nodesV l) (i64 i) = some (.fz l[i].v) := ia_map (fun _ => rfl) h
theorem ia_funcs {l : List (List Node)} {i : Nat} (h : i < l.length) : iaS 0 (funcsV l) (i64 i) = some (.fz (nodesV l[i])) := ia_map (fun _ => rfl) h
theorem ia_sets {l : List (BitVec 32)} {i : Nat} (h : i < l.length) : iaS 0 (setsV l) (i64 i) = some (.fz (u32 l[i])) := ia_map (fun _ => rfl) h
theorem ia_sects {l : List Sect} {i : Nat} (h : i < l.length) : iaS 6 (sectsV l) (i64 i) = some (.fz l[i].v) := ia_map (fun _ => rfl) h
theorem ia_justs {l : List Just} {i : Nat} (h : i < l.length) : iaS 2 (justsV l) (i64 i) = some (.fz l[i].v) := ia_map (fun _ => rfl) h
theorem ia_ints {l : List Int} {i : Nat} (h : i < l.length) : iaS 0 (intsV l) (i64 i) = some (.fz (i64 l[i])) := ia_map (fun _ => rfl) h
end Mini
end
/- Where what lies, function by function (printed). -/
section
set_option linter.unusedVariables false
set_option maxRecDepth 100000
namespace Mini
open Go Go.Proofs
noncomputable abbrev PR : Program := Tryd.prog
abbrev k_law20_CheckLess : Nat := 3
abbrev k_law20_CheckFirst : Nat := 4
abbrev k_law20_awake : Nat := 10
abbrev k_ref05_Small : Nat := 11
abbrev k_pcode_Digest : Nat := 12
abbrev k_check_Accepts : Nat := 13
abbrev k_ref18_Few : Nat := 14
abbrev k_check_Check : Nat := 15
abbrev k_pcode_Write : Nat := 28
abbrev k_sha_Of : Nat := 29
abbrev k_check_shape : Nat := 30
abbrev k_check_bound : Nat := 31
abbrev k_check_held : Nat := 32
abbrev k_check_live : Nat := 33
abbrev k_check_justs : Nat := 34
abbrev k_sets_Has : Nat := 39
abbrev k_prog_Check : Nat := 53
abbrev k_wire_WriterP_Raw : Nat := 65
abbrev k_wire_WriterP_Num : Nat := 66
abbrev k_pcode_parts : Nat := 67
abbrev k_wire_WriterP_Bytes : Nat := 68
abbrev k_sha_New : Nat := 69
abbrev k_sha_StateP_Write : Nat := 70
abbrev k_sha_StateP_Sum : Nat := 71
abbrev k_must_Shaped : Nat := 72
abbrev k_check_whole : Nat := 73
abbrev k_must_Check : Nat := 74
abbrev k_may_Check : Nat := 75
abbrev k_guard_Check : Nat := 76
abbrev k_prog_Succ : Nat := 78
abbrev k_graph_Begun : Nat := 80
abbrev k_sets_One : Nat := 81
abbrev k_graph_Order : Nat := 83
abbrev k_kill_Begins : Nat := 86
abbrev k_prog_Access : Nat := 88
abbrev k_prog_May : Nat := 105
abbrev k_prog_round : Nat := 106
abbrev k_varint_Put : Nat := 111
abbrev k_sha_StateP_mix : Nat := 112
abbrev k_kill_Unlocks : Nat := 113
abbrev k_must_checker_function : Nat := 114
abbrev k_sets_Within : Nat := 115
abbrev k_may_checker_node : Nat := 116
abbrev k_guard_Right : Nat := 117
abbrev k_may_Solo : Nat := 118
abbrev k_guard_Holds : Nat := 119
abbrev k_graph_named : Nat := 121
abbrev k_graph_Callees : Nat := 122
abbrev k_sets_Count : Nat := 124
abbrev k_heap_Push : Nat := 125
abbrev k_graph_ids_Len : Nat := 126
abbrev k_heap_Pop : Nat := 127
abbrev k_kill_gather : Nat := 130
abbrev k_kill_begins : Nat := 131
abbrev k_prog_fields : Nat := 135
abbrev k_prog_within : Nat := 136
abbrev k_prog_reaches : Nat := 137
abbrev k_sha_spread : Nat := 145
abbrev k_sha_turn : Nat := 146
abbrev k_kill_unlocks : Nat := 147
abbrev k_must_checker_node : Nat := 148
abbrev k_may_Lost : Nat := 149
abbrev k_may_Behind : Nat := 150
abbrev k_bits_OnesCount32 : Nat := 151
abbrev k_heap_up : Nat := 152
abbrev k_heap_down : Nat := 153
abbrev k_sha_word : Nat := 163
abbrev k_bits_RotateLeft32 : Nat := 164
abbrev k_must_checker_behind : Nat := 165
abbrev k_graph_ids_Less : Nat := 197
abbrev k_graph_ids_Swap : Nat := 198
abbrev k_graph_idsP_Pop : Nat := 199
abbrev k_graph_idsP_Push : Nat := 200
abbrev g_text_names : Nat := 0
abbrev g_sha_keys : Nat := 1
abbrev g_bits_deBruijn32tab : Nat := 2
abbrev g_strconv_uint64pow10 : Nat := 3
abbrev g_bytealg_MaxLen : Nat := 4
abbrev g_utf8_first : Nat := 5
abbrev g_utf8_acceptRanges : Nat := 6
abbrev g_bits_deBruijn64tab : Nat := 7
abbrev y_i64 : Nat := 3
abbrev y_P_graph_ids : Nat := 193
def anL : List (Nat × Ann) := [
(3, [(0, { keep := some [1] }), (1, { keep := some [1, 16] }), (2, { keep := some [2] }), (3, { post := [.frzp 3 32], ops := [(5, { id := some 0 })], keep := some [1, 3, 4] }), (4, { keep := some [1, 3, 24] }), (5, { keep := some [2] }), (6, { post := [.frzc 5 33, .promc 5 32 10 6], ops := [(3, { id := some 1 }), (5, { id := some 2 })], keep := some [1, 5] }), (7, { keep := some [1, 5, 6] }), (8, { keep := some [1, 5, 6, 7] }), (9, { keep := some [1, 5, 6, 7, 37] }), (10, { keep := some [1, 5, 6, 7] }), (11, { post := [.promc 8 2 11 0, .promc 8 5 12 0], ops := [(1, { id := some 3 })], keep := some [1, 5, 6, 7, 8] }), (12, { keep := some [1, 5, 6, 7, 8, 9] }), (13, { keep := some [1, 5, 6, 7, 8, 9, 48] }), (14, { keep := some [1, 5, 6, 7, 8, 9] }), (15, { ops := [(3, { id := some 4 })], keep := some [1, 5, 6, 7, 8, 9] }), (16, { ops := [(3, { id := some 5 })], keep := some [1, 5, 6, 7, 8, 9] }), (17, { keep := some [1, 5, 6, 7, 8, 9] }), (18, { pre := [.frzc 8 2, .frzc 8 5], ops := [(4, { id := some 6 })], keep := some [1, 5, 6, 7] }), (19, { pre := [.frzc 5 32], keep := some [2] }), (99999, { slots := 13 })]),
(4, [(0, { keep := some [2, 3, 4] }), (1, { keep := some [2, 3, 4, 26] }), (2, { keep := some [6] }), (3, { post := [.frzp 7 32], ops := [(5, { id := some 0 })], keep := some [2, 3, 4, 7, 8] }), (4, { keep := some [2, 3, 4, 7, 34] }), (5, { keep := some [6] }), (6, { ops := [(1, { id := some 1 })], keep := some [2, 3, 4, 7, 9] }), (7, { ops := [(0, { id := some 2 }), (3, { id := some 3 })], keep := some [2, 3, 4, 7, 9] }), (8, { keep := some [2, 3, 4, 7, 9, 41] }), (9, { ops := [(3, { id := some 4 })], keep := some [2, 3, 4, 7, 9] }), (10, { keep := some [2, 3, 4, 7, 9, 49] }), (11, { ops := [(3, { id := some 5 })], keep := some [2, 3, 4, 7, 9] }), (12, { pre := [.frzc 9 33], post := [.frzp 10 3], ops := [(6, { id := some 6 })], keep := some [2, 3, 4, 7, 10, 11] }), (13, { keep := some [3, 4, 7, 75] }), (14, { keep := some [6] }), (15, { ops := [(1, { id := some 7 })], keep := some [3, 7, 12] }), (16, { keep := some [3, 12] }), (17, { keep := some [3, 12] }), (18, { post := [.frzp 13 3], ops := [(6, { id := some 8 })], keep := some [13, 14] }), (19, { keep := some [6] }), (99999, { slots := 9 })]),
(10, [(0, { keep := some [] }), (1, { post := [.frzp 1 4], ops := [(4, { id := some 0 })], keep := some [1] }), (2, { post := [.frzp 2 32], ops := [(5, { id := some 1 })], keep := some [1, 2, 3] }), (3, { post := [.frzc 4 33], ops := [(6, { id := some 2 })], keep := some [1, 3, 4] }), (4, { post := [.frzp 5 3], ops := [(6, { id := some 3 })], keep := some [1, 3, 4, 5, 6] }), (5, { keep := some [1, 3, 4, 5, 6, 7] }), (6, { keep := some [1, 3, 4, 5, 6, 7] }), (7, { keep := some [0] }), (99999, { slots := 4 })]),
(11, [(0, { keep := some [1] }), (1, { keep := some [1, 7] }), (2, { keep := some [2] }), (3, { keep := some [1, 3] }), (4, { keep := some [1, 3, 12] }), (5, { keep := some [1, 3] }), (6, { keep := some [1, 3, 21] }), (7, { keep := some [2] }), (8, { keep := some [2] })]),
(12, [(0, { ops := [(1, { id := some 0 })], keep := some [1, 2] }), (1, { keep := some [2, 4, 5] }), (2, { keep := some [2, 4, 5, 12] }), (3, { keep := some [2, 3] }), (4, { keep := some [2, 3] }), (99999, { slots := 1 })]),
(13, [(0, { keep := some [2, 3] }), (1, { post := [.frzp 5 3], ops := [(6, { id := some 0 })], keep := some [5, 6] }), (2, { keep := some [4] }), (99999, { slots := 1 })]),
(14, [(0, { keep := some [1] }), (1, { keep := some [1, 13] }), (2, { keep := some [2] }), (3, { keep := some [1, 3] }), (4, { keep := some [1, 3, 18] }), (5, { keep := some [1, 3] }), (6, { keep := some [1, 3, 38] }), (7, { keep := some [2] }), (8, { keep := some [2] })]),
(15, [(0, { ops := [(2, { id := some 0 })], keep := some [2, 3, 4] }), (1, { post := [.frzp 6 32], ops := [(5, { id := some 1 })], keep := some [2, 3, 4, 7] }), (2, { keep := some [2, 3, 4, 7, 18] }), (3, { keep := some [4, 5] }), (4, { keep := some [2, 3, 4, 21, 22, 23] }), (5, { keep := some [2, 3, 4, 21, 22, 23, 24] }), (6, { keep := some [2, 3, 4, 9, 21, 22, 23] }), (7, { post := [.frzp 10 3], ops := [(7, { id := some 2 })], keep := some [2, 3, 4, 10, 11, 21, 22, 23] }), (8, { keep := some [2, 3, 4, 10, 11, 21, 22, 23, 40] }), (9, { keep := some [4, 5] }), (10, { keep := some [2, 3, 4, 21, 22, 23] }), (11, { keep := some [4, 5] }), (99999, { slots := 3 })]),
(28, [(0, { keep := some [1] }), (1, { keep := some [1, 6] }), (2, { keep := some [1, 6, 23] }), (3, { post := [.frz 2], keep := some [2, 3] }), (4, { post := [.promc 7 0 3 0], ops := [(0, { id := some 0 })], keep := some [1, 7] }), (5, { ops := [(0, { id := some 1 }), (2, { ks := [0, 3] })], keep := some [1, 7] }), (6, { keep := some [1, 7, 37, 38, 39] }), (7, { keep := some [1, 7, 37, 38, 39, 40] }), (8, { keep := some [1, 7, 9, 37, 38, 39] }), (9, { ops := [(1, { ks := [0, 3] })], keep := some [1, 7, 37, 38, 39] }), (10, { keep := some [1, 7, 37, 38, 39] }), (11, { keep := some [7, 47, 48, 49] }), (12, { keep := some [7, 47, 48, 49, 50] }), (13, { keep := some [7, 11, 47, 48, 49] }), (14, { ops := [(2, { ks := [0, 3] })], keep := some [7, 11, 47, 48, 49] }), (15, { keep := some [7, 47, 48, 49, 56, 57, 58] }), (16, { keep := some [7, 47, 48, 49, 56, 57, 58, 59] }), (17, { post := [.frzp 13 4], ops := [(2, { id := some 2 })], keep := some [7, 13, 47, 48, 49, 56, 57, 58] }), (18, { ops := [(2, { ks := [0, 3] })], keep := some [7, 13, 47, 48, 49, 56, 57, 58] }), (19, { keep := some [7, 47, 48, 49, 56, 57, 58, 65, 66, 67] }), (20, { keep := some [7, 47, 48, 49, 56, 57, 58, 65, 66, 67, 68] }), (21, { keep := some [7, 15, 47, 48, 49, 56, 57, 58, 65, 66, 67] }), (22, { ops := [(3, { ks := [0, 3] })], keep := some [7, 47, 48, 49, 56, 57, 58, 65, 66, 67] }), (23, { keep := some [7, 47, 48, 49, 56, 57, 58, 65, 66, 67] }), (24, { keep := some [7, 47, 48, 49, 56, 57, 58] }), (25, { keep := some [7, 47, 48, 49] }), (26, { post := [.frz 2], ops := [(0, { ks := [0, 3] })], keep := some [2, 3] }), (99999, { slots := 4 })]),
(29, [(0, { ops := [(0, { id := some 0 })], keep := some [0, 2] }), (1, { ops := [(0, { outs := [(0, 1)] })], keep := some [0, 2, 3] }), (2, { keep := some [2, 3, 7, 8, 9] }), (3, { keep := some [2, 3, 7, 8, 9, 10] }), (4, { keep := some [2, 3, 5, 7, 8, 9] }), (5, { ops := [(2, { ks := [1, 2] })], keep := some [2, 3, 7, 8, 9] }), (6, { keep := some [2, 3, 7, 8, 9] }), (7, { ops := [(1, { ks := [1] })], keep := some [2] }), (99999, { slots := 3 })]),
(30, [(0, { ops := [(2, { id := some 0 })], keep := some [2, 3, 4] }), (1, { keep := some [4, 18] }), (2, { keep := some [4, 5] }), (3, { keep := some [4, 5] }), (99999, { slots := 1 })]),
(31, [(0, { ops := [(2, { id := some 0 })], keep := some [2, 3, 4] }), (1, { post := [.frzp 6 32], ops := [(5, { id := some 1 })], keep := some [3, 4, 6, 7] }), (2, { keep := some [4, 20] }), (3, { keep := some [4, 5] }), (4, { keep := some [4, 5] }), (99999, { slots := 2 })]),
(32, [(0, { ops := [(2, { id := some 0 })], keep := some [2, 3, 4] }), (1, { keep := some [4, 5] }), (99999, { slots := 1 })]),
(33, [(0, { ops := [(2, { id := some 0 })], keep := some [2, 3, 4] }), (1, { keep := some [4, 5] }), (99999, { slots := 1 })]),
(34, [(0, { ops := [(2, { id := some 0 })], keep := some [2, 3, 4] }), (1, { keep := some [4, 5] }), (99999, { slots := 1 })]),
(39, [(0, { keep := some [0, 1] }), (1, { keep := some [4] })]),
(53, [(0, { keep := some [1] }), (1, { keep := some [1, 30] }), (2, { keep := some [2, 3, 4] }), (3, { keep := some [1, 49] }), (4, { keep := some [2, 3, 4] }), (5, { keep := some [1, 51, 52, 53] }), (6, { keep := some [1, 51, 52, 53, 54] }), (7, { keep := some [1, 5, 6, 51, 52, 53] }), (8, { keep := some [1, 5, 6, 51, 52, 53, 58] }), (9, { keep := some [2, 3, 4] }), (10, { keep := some [1, 5, 6, 51, 52, 53, 63] }), (11, { keep := some [2, 3, 4] }), (12, { keep := some [1, 5, 6, 51, 52, 53, 68, 69, 70] }), (13, { keep := some [1, 5, 6, 51, 52, 53, 68, 69, 70, 71] }), (14, { post := [.frzp 8 4], ops := [(3, { id := some 0 })], keep := some [1, 5, 6, 7, 8, 51, 52, 53, 68, 69, 70] }), (15, { keep := some [1, 5, 6, 7, 51, 52, 53, 68, 69, 70, 80] }), (16, { keep := some [2, 3, 4] }), (17, { keep := some [1, 5, 6, 51, 52, 53, 68, 69, 70] }), (18, { keep := some [1, 51, 52, 53] }), (19, { keep := some [9, 10, 11] }), (20, { keep := some [9, 10, 91] }), (21, { keep := some [2, 3, 4] }), (22, { keep := some [2, 3, 4] }), (99999, { slots := 1 })]),
(65, [(0, { ops := [(6, { id := some 2 })], keep := some [] }), (99999, { slots := 1 })]),
(66, [(0, { ops := [(8, { id := some 2 })], keep := some [] }), (99999, { slots := 1 })]),
(67, [(0, { keep := some [0] }), (1, { keep := some [0, 6] }), (2, { keep := some [0, 6, 7] }), (3, { keep := some [2] }), (4, { keep := some [0, 6, 9] }), (5, { keep := some [2] }), (6, { keep := some [0, 6, 15] }), (7, { keep := some [2] }), (8, { keep := some [0, 27] }), (9, { keep := some [2] }), (10, { keep := some [2] })]),
(68, [(0, { keep := some [0] }), (1, { post := [.frz 2], ops := [(0, { id := some 2 }), (5, { id := some 3 })], keep := some [2] }), (99999, { slots := 2 })]),
(69, [(0, { keep := some [] }), (1, { ops := [(2, { id := some 0 })], keep := some [0] }), (99999, { slots := 1 })]),
(70, [(0, { keep := some [0, 1] }), (1, { post := [.frz 4], ops := [(0, { id := some 2 }), (5, { id := some 3 }), (7, { id := some 4 })], keep := some [0, 4] }), (2, { keep := some [0, 4, 25] }), (3, { ops := [(3, { ks := [0] })], keep := some [0, 4] }), (4, { keep := some [0, 4] }), (5, { keep := some [] }), (99999, { slots := 3 })]),
(71, [(0, { ops := [(0, { id := some 1 })], keep := some [0, 2] }), (1, { ops := [(4, { id := some 2 }), (9, { id := some 6 }), (15, { id := some 3 })], keep := some [0, 2, 3] }), (2, { keep := some [2, 3, 4] }), (3, { ops := [(1, { ks := [3, 2] })], keep := some [2, 3, 4] }), (4, { keep := some [2, 3, 4, 36] }), (5, { ops := [(1, { ks := [3, 2] })], keep := some [2, 3, 4] }), (6, { ops := [(0, { id := some 4 })], keep := some [2, 3, 4, 5] }), (7, { keep := some [2, 3, 4, 5, 39] }), (8, { keep := some [2, 3, 4, 5, 39, 40] }), (9, { keep := some [2, 3, 4, 5, 6, 39] }), (10, { keep := some [2, 3, 4, 5, 39] }), (11, { keep := some [2, 3, 4, 5, 39] }), (12, { ops := [(1, { ks := [3, 4] })], keep := some [2, 3] }), (13, { ops := [(0, { id := some 5 })], keep := some [2, 3, 7] }), (14, { keep := some [2, 7, 54, 55] }), (15, { keep := some [2, 7, 54, 55, 56] }), (16, { keep := some [2, 7, 8, 9, 54, 55] }), (17, { keep := some [2, 7, 8, 9, 54, 55, 59] }), (18, { keep := some [2, 7, 8, 9, 54, 55, 59, 60] }), (19, { keep := some [2, 7, 8, 9, 10, 54, 55, 59] }), (20, { keep := some [2, 7, 8, 9, 54, 55, 59] }), (21, { keep := some [2, 7, 8, 9, 54, 55, 59] }), (22, { keep := some [2, 7, 54, 55] }), (23, { keep := some [2] }), (99999, { slots := 6 })]),
(72, [(0, { keep := some [1, 2] }), (1, { keep := some [1, 2, 12] }), (2, { keep := some [4] }), (3, { keep := some [2, 13, 14, 15] }), (4, { keep := some [2, 13, 14, 15, 16] }), (5, { post := [.frzp 6 6], ops := [(3, { id := some 0 })], keep := some [2, 5, 6, 13, 14, 15] }), (6, { keep := some [2, 13, 14, 15, 41] }), (7, { keep := some [4] }), (8, { keep := some [2, 13, 14, 15] }), (9, { keep := some [4] }), (99999, { slots := 1 })]),
(73, [(0, { ops := [(0, { id := some 0 })], keep := some [0, 2] }), (1, { keep := some [2, 3] }), (99999, { slots := 1 })]),
(74, [(0, { ops := [(1, { id := some 0 })], keep := some [1, 2, 4] }), (1, { keep := some [1, 2, 4, 6, 7] }), (2, { keep := some [1, 2, 4, 6, 7, 18] }), (3, { keep := some [4, 5] }), (4, { keep := some [1, 2, 4, 6, 24] }), (5, { keep := some [4, 5] }), (6, { post := [.frzp 8 7], ops := [(8, { id := some 1 })], keep := some [1, 4, 8] }), (7, { keep := some [4, 8, 35, 36] }), (8, { keep := some [4, 8, 35, 36, 37] }), (9, { keep := some [4, 8, 9, 35, 36] }), (10, { keep := some [4, 8, 9, 10, 11, 35, 36] }), (11, { keep := some [4, 8, 9, 10, 11, 35, 36, 46] }), (12, { keep := some [4, 5] }), (13, { keep := some [4, 8, 35, 36] }), (14, { keep := some [4, 5] }), (99999, { slots := 2 })]),
(75, [(0, { ops := [(1, { id := some 0 })], keep := some [1, 2, 4] }), (1, { keep := some [1, 2, 4, 6, 7] }), (2, { keep := some [1, 2, 4, 6, 7, 19] }), (3, { keep := some [4, 5] }), (4, { keep := some [1, 2, 4, 6, 25] }), (5, { keep := some [4, 5] }), (6, { post := [.frzp 8 6], ops := [(4, { id := some 1 })], keep := some [1, 2, 4, 8] }), (7, { keep := some [2, 4, 8, 31, 32, 33] }), (8, { keep := some [2, 4, 8, 31, 32, 33, 34] }), (9, { post := [.frzp 10 6], ops := [(3, { id := some 2 })], keep := some [2, 4, 8, 9, 10, 31, 32, 33] }), (10, { keep := some [2, 4, 8, 9, 31, 32, 33, 45] }), (11, { keep := some [4, 5] }), (12, { keep := some [2, 4, 8, 9, 31, 32, 33, 53, 54] }), (13, { keep := some [2, 4, 8, 9, 31, 32, 33, 53, 54, 55] }), (14, { keep := some [2, 4, 8, 9, 11, 31, 32, 33, 53, 54] }), (15, { keep := some [2, 4, 8, 9, 11, 12, 31, 32, 33, 53, 54] }), (16, { keep := some [2, 4, 8, 9, 11, 12, 31, 32, 33, 53, 54, 62] }), (17, { keep := some [4, 5] }), (18, { keep := some [2, 4, 8, 9, 31, 32, 33, 53, 54] }), (19, { keep := some [2, 4, 8, 31, 32, 33] }), (20, { keep := some [4, 5] }), (99999, { slots := 3 })]),
(76, [(0, { ops := [(1, { id := some 0 })], keep := some [1, 2, 3, 6] }), (1, { keep := some [1, 2, 3, 6, 10] }), (2, { keep := some [1, 2, 3, 6, 10, 27] }), (3, { keep := some [6, 7] }), (4, { keep := some [1, 2, 3, 6, 40] }), (5, { keep := some [6, 7] }), (6, { keep := some [1, 2, 3, 6, 42, 43, 44] }), (7, { keep := some [1, 2, 3, 6, 42, 43, 44, 45] }), (8, { post := [.frzp 12 2], ops := [(3, { id := some 1 })], keep := some [1, 2, 3, 6, 11, 12, 42, 43, 44] }), (9, { keep := some [1, 2, 3, 6, 11, 42, 43, 44, 53] }), (10, { keep := some [6, 7] }), (11, { keep := some [1, 2, 3, 6, 42, 43, 44] }), (12, { keep := some [1, 2, 6, 58, 59, 60] }), (13, { keep := some [1, 2, 6, 58, 59, 60, 61] }), (14, { keep := some [1, 2, 6, 13, 14, 58, 59, 60] }), (15, { keep := some [1, 2, 6, 13, 58, 59, 60, 65, 66, 67] }), (16, { keep := some [1, 2, 6, 13, 58, 59, 60, 65, 66, 67, 68] }), (17, { post := [.frzp 16 4], ops := [(3, { id := some 2 })], keep := some [1, 2, 6, 13, 15, 16, 58, 59, 60, 65, 66, 67] }), (18, { keep := some [1, 2, 6, 13, 15, 17, 18, 19, 58, 59, 60, 65, 66, 67] }), (19, { keep := some [1, 2, 6, 13, 15, 58, 59, 60, 65, 66, 67, 112] }), (20, { keep := some [6, 7] }), (21, { keep := some [1, 2, 6, 13, 58, 59, 60, 65, 66, 67] }), (22, { keep := some [1, 2, 6, 58, 59, 60] }), (23, { keep := some [6, 7] }), (99999, { slots := 3 })]),
(78, [(0, { keep := some [1] }), (1, { keep := some [1, 4] }), (2, { keep := some [1, 4, 5] }), (3, { post := [.frz 2], keep := some [2] }), (4, { keep := some [1, 7] }), (5, { post := [.frz 2], keep := some [2] }), (6, { post := [.frz 2], keep := some [2] })]),
(80, [(0, { keep := some [1] }), (1, { keep := some [1, 3] }), (2, { keep := some [3, 7, 8, 9] }), (3, { keep := some [3, 7, 8, 9, 10] }), (4, { keep := some [3, 5, 7, 8, 9] }), (5, { keep := some [3, 7, 8, 9] }), (6, { keep := some [3, 7, 8, 9] }), (7, { keep := some [2] })]),
(81, [(0, { keep := some [0] }), (1, { keep := some [0, 8] }), (2, { keep := some [2] }), (3, { keep := some [2] })]),
(83, [(0, { keep := some [1] }), (1, { keep := some [1, 6] }), (2, { keep := some [1, 6, 23] }), (3, { post := [.frz 2], keep := some [2, 3] }), (4, { keep := some [7] }), (5, { ops := [(2, { id := some 1 })], keep := some [7, 8] }), (6, { post := [.promc 9 0 3 0], ops := [(0, { id := some 2 })], keep := some [7, 8, 9] }), (7, { keep := some [7, 8, 9, 30, 31, 32] }), (8, { keep := some [7, 8, 9, 30, 31, 32, 33] }), (9, { keep := some [7, 8, 9, 10, 11, 30, 31, 32] }), (10, { keep := some [7, 8, 9, 10, 30, 31, 32] }), (11, { keep := some [7, 8, 9, 10, 30, 31, 32, 46] }), (12, { ops := [(3, { ks := [2, 3, 4] })], keep := some [7, 8, 9, 30, 31, 32] }), (13, { keep := some [7, 8, 9, 30, 31, 32] }), (14, { post := [.prom 12 0 0], keep := some [7, 8, 9, 12] }), (15, { ops := [(1, { ks := [3] })], keep := some [7, 8, 9, 12, 54] }), (16, { ops := [(1, { ks := [2, 3, 4] })], keep := some [7, 8, 9, 12, 13] }), (17, { ops := [(3, { id := some 0 })], keep := some [7, 8, 9, 12, 13] }), (18, { keep := some [7, 8, 9, 12, 13, 62, 63, 64] }), (19, { keep := some [7, 8, 9, 12, 13, 62, 63, 64, 65] }), (20, { keep := some [7, 8, 9, 12, 13, 14, 15, 62, 63, 64] }), (21, { keep := some [7, 8, 9, 12, 13, 14, 62, 63, 64, 71] }), (22, { keep := some [7, 8, 9, 12, 13, 14, 62, 63, 64] }), (23, { keep := some [7, 8, 9, 12, 13, 14, 62, 63, 64, 82] }), (24, { ops := [(3, { ks := [2, 3, 4] })], keep := some [7, 8, 9, 12, 13, 62, 63, 64] }), (25, { keep := some [7, 8, 9, 12, 13, 62, 63, 64] }), (26, { post := [.frz 2], keep := some [2, 3] }), (99999, { slots := 5 })]),
(86, [(0, { keep := some [1] }), (1, { keep := some [4, 5] }), (2, { keep := some [4, 5, 15] }), (3, { keep := some [2, 3] }), (4, { keep := some [4, 6] }), (5, { keep := some [6, 17, 18, 19] }), (6, { keep := some [6, 17, 18, 19, 20] }), (7, { keep := some [6, 7, 8, 17, 18, 19] }), (8, { keep := some [6, 7, 17, 18, 19, 25] }), (9, { keep := some [6, 17, 18, 19] }), (10, { keep := some [6, 17, 18, 19] }), (11, { keep := some [2, 3] })]),
(88, [(0, { keep := some [1] }), (1, { keep := some [2, 3, 4] })]),
(105, [(0, { keep := some [2, 3, 4] }), (1, { keep := some [4, 7, 8, 9, 10] }), (2, { keep := some [6] })]),
(106, [(0, { keep := some [1] }), (1, { keep := some [1, 10, 11, 12] }), (2, { keep := some [1, 10, 11, 12, 13] }), (3, { keep := some [1, 5, 6, 10, 11, 12] }), (4, { keep := some [1, 5, 10, 11, 12, 17, 18, 19] }), (5, { keep := some [1, 5, 10, 11, 12, 17, 18, 19, 20] }), (6, { post := [.frzp 8 4], ops := [(3, { id := some 0 })], keep := some [1, 5, 7, 8, 10, 11, 12, 17, 18, 19] }), (7, { ops := [(11, { id := some 1 }), (12, { ks := [1] })], keep := some [1, 5, 7, 10, 11, 12, 17, 18, 19, 37] }), (8, { keep := some [2, 3, 4] }), (9, { keep := some [1, 5, 10, 11, 12, 17, 18, 19] }), (10, { keep := some [1, 10, 11, 12] }), (11, { keep := some [2, 3, 4] }), (99999, { slots := 2 })]),
(111, [(0, { keep := some [0] }), (1, { post := [.prom 3 0 0], keep := some [0, 3] }), (2, { keep := some [0, 3, 5] }), (3, { keep := some [0, 3] }), (4, { ops := [(5, { id := some 0 })], keep := some [0, 3] }), (5, { post := [.frz 2], ops := [(4, { id := some 1 })], keep := some [2] }), (99999, { slots := 2 })]),
(112, [(0, { ops := [(2, { id := some 1 })], keep := some [0, 4] }), (1, { ops := [(4, { id := some 2 })], keep := some [0, 4, 5] }), (2, { keep := some [0, 4, 5, 19, 20] }), (3, { keep := some [0, 4, 5, 19, 20, 21] }), (4, { keep := some [0, 4, 5, 6, 7, 19, 20] }), (5, { keep := some [0, 4, 5, 6, 7, 8, 9, 19, 20] }), (6, { keep := some [0, 4, 5, 8, 10, 19, 20] }), (7, { keep := some [0, 4, 5, 10, 11, 19, 20] }), (8, { keep := some [0, 4, 5, 10, 11, 19, 20] }), (9, { keep := some [0, 4, 5, 10, 11, 19, 20] }), (10, { keep := some [0, 4, 5, 19, 20] }), (11, { keep := some [0, 4, 5, 19, 20] }), (12, { keep := some [0, 5, 93] }), (13, { keep := some [0, 5, 93, 94] }), (14, { keep := some [0, 5, 12, 93] }), (15, { keep := some [0, 5, 93] }), (16, { keep := some [0, 5, 93] }), (99999, { slots := 2 })]),
(113, [(0, { keep := some [1] }), (1, { post := [.frz 2], keep := some [2, 3] })]),
(114, [(0, { keep := some [1, 2] }), (1, { post := [.frzp 6 6], ops := [(5, { id := some 0 })], keep := some [1, 2, 6] }), (2, { keep := some [1, 2, 6, 14] }), (3, { keep := some [4, 5] }), (4, { keep := some [1, 2, 24] }), (5, { keep := some [4, 5] }), (6, { keep := some [1, 2, 39, 40] }), (7, { keep := some [1, 2, 39, 40, 41] }), (8, { keep := some [1, 2, 7, 39, 40] }), (9, { keep := some [1, 2, 7, 8, 39, 40] }), (10, { keep := some [1, 2, 7, 8, 39, 40, 48] }), (11, { keep := some [4, 5] }), (12, { keep := some [1, 2, 39, 40] }), (13, { keep := some [4, 5] }), (99999, { slots := 1 })]),
(115, [(0, { keep := some [0, 1] }), (1, { keep := some [4] })]),
(116, [(0, { keep := some [1, 2, 3] }), (1, { post := [.frzp 7 4], ops := [(18, { id := some 0 })], keep := some [1, 3, 7, 8] }), (2, { keep := some [1, 3, 7, 8, 9] }), (3, { keep := some [1, 3, 7, 8, 9, 31] }), (4, { keep := some [1, 3, 7, 8, 9, 31, 32] }), (5, { keep := some [1, 3, 7, 8, 9] }), (6, { keep := some [1, 3, 7, 8, 9, 50] }), (7, { keep := some [6] }), (8, { keep := some [1, 3, 7, 8, 9, 31, 51] }), (9, { keep := some [1, 3, 7, 8, 9, 61] }), (10, { keep := some [6] }), (11, { keep := some [1, 3, 7, 8, 9, 62] }), (12, { keep := some [1, 3, 7, 8, 9, 75] }), (13, { keep := some [6] }), (14, { keep := some [1, 3, 7, 8, 9, 77, 78, 79] }), (15, { keep := some [1, 3, 7, 8, 9, 77, 78, 79, 80] }), (16, { keep := some [1, 3, 7, 8, 9, 11, 77, 78, 79] }), (17, { keep := some [1, 3, 7, 8, 9, 77, 78, 79, 105] }), (18, { keep := some [6] }), (19, { keep := some [1, 3, 7, 8, 9, 77, 78, 79] }), (20, { keep := some [6] }), (99999, { slots := 1 })]),
(117, [(0, { keep := some [1, 2] }), (1, { keep := some [1, 2, 7] }), (2, { keep := some [4] }), (3, { keep := some [4] })]),
(118, [(0, { keep := some [1, 2] }), (1, { keep := some [4] })]),
(119, [(0, { keep := some [1, 2, 3, 4] }), (1, { keep := some [1, 2, 4, 10] }), (2, { keep := some [8] }), (3, { keep := some [1, 2, 4, 12] }), (4, { keep := some [1, 2, 4, 12, 13] }), (5, { keep := some [8] }), (6, { keep := some [2, 4, 17] }), (7, { keep := some [8] }), (8, { keep := some [8] })]),
(121, [(0, { keep := some [0, 1] }), (1, { keep := some [0, 1, 5] }), (2, { keep := some [1, 5, 8, 9, 10] }), (3, { keep := some [1, 5, 8, 9, 10, 11] }), (4, { post := [.frzp 7 4], ops := [(2, { id := some 0 })], keep := some [1, 5, 7, 8, 9, 10] }), (5, { keep := some [1, 5, 7, 8, 9, 10, 17] }), (6, { keep := some [1, 5, 8, 9, 10] }), (7, { keep := some [1, 5, 8, 9, 10] }), (8, { keep := some [4] }), (99999, { slots := 1 })]),
(122, [(0, { keep := some [1] }), (1, { post := [.prom 3 0 0], keep := some [1, 3] }), (2, { keep := some [3, 7, 8, 9] }), (3, { keep := some [3, 7, 8, 9, 10] }), (4, { keep := some [3, 5, 7, 8, 9] }), (5, { ops := [(4, { id := some 0 })], keep := some [3, 7, 8, 9] }), (6, { keep := some [3, 7, 8, 9] }), (7, { post := [.frz 2], keep := some [2] }), (99999, { slots := 1 })]),
(124, [(0, { keep := some [0] }), (1, { keep := some [2] })]),
(125, [(0, { ops := [(2, { ks := [0, 1, 2] })], keep := some [0] }), (1, { ops := [(2, { ks := [0, 1, 2] }), (4, { ks := [0, 1, 2] })], keep := some [] })]),
(126, [(0, { keep := some [0] }), (1, { keep := some [2] })]),
(127, [(0, { keep := some [0] }), (1, { ops := [(1, { ks := [0, 1, 2] })], keep := some [0, 3] }), (2, { ops := [(2, { ks := [0, 1, 2] })], keep := some [0, 3] }), (3, { ops := [(2, { ks := [0, 1, 2] })], keep := some [0] }), (4, { ops := [(1, { ks := [0, 1, 2] })], keep := some [2] })]),
(130, [(0, { keep := some [1, 2] }), (1, { keep := some [1, 2, 6, 7] }), (2, { keep := some [1, 2, 6, 7, 19] }), (3, { post := [.frz 4], keep := some [4, 5] }), (4, { ops := [(3, { id := some 0 })], keep := some [1, 2, 6, 8] }), (5, { keep := some [1, 2, 8, 25, 26, 27] }), (6, { keep := some [1, 2, 8, 25, 26, 27, 28] }), (7, { keep := some [1, 2, 8, 10, 25, 26, 27] }), (8, { keep := some [1, 2, 8, 10, 25, 26, 27, 35, 36, 37] }), (9, { keep := some [1, 2, 8, 10, 25, 26, 27, 35, 36, 37, 38] }), (10, { post := [.frzp 12 4], ops := [(2, { id := some 1 })], keep := some [1, 2, 8, 10, 12, 25, 26, 27, 35, 36, 37] }), (11, { keep := some [1, 2, 8, 10, 12, 25, 26, 27, 35, 36, 37, 43] }), (12, { keep := some [1, 2, 8, 10, 25, 26, 27, 35, 36, 37] }), (13, { keep := some [1, 2, 8, 10, 25, 26, 27, 35, 36, 37] }), (14, { keep := some [1, 2, 8, 10, 25, 26, 27, 35, 36, 37] }), (15, { keep := some [1, 2, 8, 25, 26, 27] }), (16, { post := [.frz 4], keep := some [4, 5] }), (99999, { slots := 2 })]),
(131, [(0, { keep := some [1] }), (1, { keep := some [5] }), (2, { keep := some [2] }), (3, { keep := some [2] })]),
(135, [(0, { keep := some [1, 2, 3] }), (1, { keep := some [1, 2, 3, 10] }), (2, { keep := some [2, 3, 10, 14] }), (3, { keep := some [2, 3, 10, 14, 15] }), (4, { keep := some [6, 7, 8, 9] }), (5, { keep := some [2, 3, 10, 14, 18] }), (6, { keep := some [2, 3, 10, 14, 18] }), (7, { keep := some [6, 7, 8, 9] }), (8, { keep := some [2, 3, 10, 14, 27] }), (9, { keep := some [2, 3, 10, 14, 27] }), (10, { keep := some [6, 7, 8, 9] }), (11, { keep := some [2, 3, 10, 14, 36] }), (12, { keep := some [6, 7, 8, 9] }), (13, { keep := some [2, 3, 10, 14, 49] }), (14, { keep := some [6, 7, 8, 9] }), (15, { keep := some [2, 10, 14, 57] }), (16, { keep := some [6, 7, 8, 9] }), (17, { keep := some [2, 14, 63] }), (18, { keep := some [6, 7, 8, 9] }), (19, { keep := some [67] }), (20, { keep := some [6, 7, 8, 9] }), (21, { keep := some [6, 7, 8, 9] })]),
(136, [(0, { keep := some [0, 1] }), (1, { keep := some [4] })]),
(137, [(0, { keep := some [1, 2, 3, 4] }), (1, { keep := some [1, 2, 3, 4, 13] }), (2, { keep := some [8] }), (3, { keep := some [1, 2, 3, 4, 17] }), (4, { keep := some [8] }), (5, { keep := some [1, 2, 3, 4] }), (6, { keep := some [2, 3, 4, 25, 26, 27] }), (7, { keep := some [2, 3, 4, 25, 26, 27, 28] }), (8, { post := [.frzp 10 4], ops := [(2, { id := some 1 })], keep := some [2, 3, 4, 10, 25, 26, 27] }), (9, { ops := [(9, { ks := [0] })], keep := some [2, 3, 4, 25, 26, 27, 41] }), (10, { keep := some [8] }), (11, { keep := some [2, 3, 4, 25, 26, 27] }), (12, { keep := some [8] }), (99999, { slots := 1 })]),
(145, [(0, { ops := [(0, { id := some 0 })], keep := some [0, 2] }), (1, { ops := [(0, { id := some 1 })], keep := some [0, 2, 3] }), (2, { keep := some [0, 2, 3, 8] }), (3, { keep := some [0, 2, 3, 8, 9] }), (4, { keep := some [0, 2, 3, 4, 8] }), (5, { keep := some [0, 2, 3, 8] }), (6, { keep := some [0, 2, 3, 8] }), (7, { keep := some [2, 3, 5] }), (8, { keep := some [2, 3, 5, 20] }), (9, { keep := some [2, 3, 5] }), (10, { keep := some [2, 3, 5, 6, 7] }), (11, { keep := some [2, 3, 5] }), (12, { keep := some [2] }), (99999, { slots := 2 })]),
(146, [(0, { keep := some [0, 1] }), (1, { keep := some [4] })]),
(147, [(0, { keep := some [1] }), (1, { keep := some [1, 5] }), (2, { keep := some [2] }), (3, { keep := some [2] })]),
(148, [(0, { keep := some [1, 2, 3] }), (1, { post := [.frzp 7 4], ops := [(18, { id := some 0 })], keep := some [1, 3, 7, 8] }), (2, { keep := some [1, 3, 7, 8, 29] }), (3, { keep := some [6] }), (4, { keep := some [1, 3, 7, 8, 45] }), (5, { keep := some [6] }), (6, { keep := some [1, 3, 7, 8, 61, 62, 63] }), (7, { keep := some [1, 3, 7, 8, 61, 62, 63, 64] }), (8, { keep := some [1, 3, 7, 8, 10, 61, 62, 63] }), (9, { keep := some [1, 3, 7, 8, 61, 62, 63, 81] }), (10, { keep := some [6] }), (11, { keep := some [1, 3, 7, 8, 61, 62, 63] }), (12, { keep := some [6] }), (99999, { slots := 1 })]),
(149, [(0, { keep := some [1] }), (1, { keep := some [2] })]),
(150, [(0, { keep := some [1, 2, 3, 4, 5] }), (1, { keep := some [1, 2, 3, 4, 5, 13] }), (2, { keep := some [1, 2, 3, 4, 5, 13, 14] }), (3, { keep := some [1, 3, 4, 5, 11] }), (4, { keep := some [3, 11, 27] }), (5, { keep := some [11] }), (6, { keep := some [10] }), (7, { keep := some [1, 2, 5, 13, 33] }), (8, { keep := some [10] }), (9, { keep := some [1, 2, 40] }), (10, { keep := some [10] }), (11, { keep := some [10] })]),
(151, [(0, { keep := some [0] }), (1, { keep := some [2] })]),
(152, [(0, { keep := some [0, 1, 4] }), (1, { ops := [(7, { ks := [0, 1, 2] })], keep := some [0, 1, 4, 17] }), (2, { ops := [(3, { ks := [0, 1, 2] })], keep := some [0, 4] }), (3, { keep := some [0, 1] })]),
(153, [(0, { keep := some [0, 1, 2] }), (1, { keep := some [0, 1, 2, 7] }), (2, { keep := some [0, 1, 2, 7, 8] }), (3, { keep := some [0, 1, 2, 7, 8, 21] }), (4, { keep := some [0, 1, 2, 7, 8, 9] }), (5, { keep := some [0, 1, 2, 7, 8, 9, 10] }), (6, { ops := [(7, { ks := [0, 1, 2] })], keep := some [0, 1, 2, 7, 9, 10, 33] }), (7, { keep := some [0, 1, 2, 7, 9] }), (8, { ops := [(3, { ks := [0, 1, 2] })], keep := some [0, 1, 2, 7, 9, 39] }), (9, { ops := [(3, { ks := [0, 1, 2] })], keep := some [0, 1, 2, 9] }), (10, { keep := some [0, 1, 2, 7] }), (11, { keep := some [6] })]),
(163, [(0, { keep := some [0] }), (1, { keep := some [2] })]),
(164, [(0, { keep := some [0, 1] }), (1, { keep := some [0, 5] }), (2, { keep := some [4] })]),
(165, [(0, { keep := some [2, 3, 4] }), (1, { keep := some [2, 3, 4, 8] }), (2, { keep := some [2, 3, 4, 8, 9] }), (3, { keep := some [6] }), (4, { keep := some [2, 3, 4, 8, 16] }), (5, { keep := some [6] }), (6, { keep := some [2, 3, 4, 23] }), (7, { keep := some [6] }), (8, { keep := some [6] })]),
(197, [(0, { keep := some [0, 1, 2] }), (1, { keep := some [6] })]),
(198, [(0, { keep := some [] })]),
(199, [(0, { keep := some [0] }), (1, { keep := some [0, 3] }), (2, { keep := some [0, 3, 4] }), (3, { keep := some [4] }), (4, { keep := some [2] })]),
(200, [(0, { ops := [(7, { id := some 3 })], keep := some [] }), (99999, { slots := 1 })])]
def anD (f : Nat) : Ann := look [] anL f
def gD (g : Nat) : V :=
  match g with
  | 1 => .fz (.agg [.int .u32 (1116352408), .int .u32 (1899447441), .int .u32 (3049323471), .int .u32 (3921009573), .int .u32 (961987163), .int .u32 (1508970993), .int .u32 (2453635748), .int .u32 (2870763221), .int .u32 (3624381080), .int .u32 (310598401), .int .u32 (607225278), .int .u32 (1426881987), .int .u32 (1925078388), .int .u32 (2162078206), .int .u32 (2614888103), .int .u32 (3248222580), .int .u32 (3835390401), .int .u32 (4022224774), .int .u32 (264347078), .int .u32 (604807628), .int .u32 (770255983), .int .u32 (1249150122), .int .u32 (1555081692), .int .u32 (1996064986), .int .u32 (2554220882), .int .u32 (2821834349), .int .u32 (2952996808), .int .u32 (3210313671), .int .u32 (3336571891), .int .u32 (3584528711), .int .u32 (113926993), .int .u32 (338241895), .int .u32 (666307205), .int .u32 (773529912), .int .u32 (1294757372), .int .u32 (1396182291), .int .u32 (1695183700), .int .u32 (1986661051), .int .u32 (2177026350), .int .u32 (2456956037), .int .u32 (2730485921), .int .u32 (2820302411), .int .u32 (3259730800), .int .u32 (3345764771), .int .u32 (3516065817), .int .u32 (3600352804), .int .u32 (4094571909), .int .u32 (275423344), .int .u32 (430227734), .int .u32 (506948616), .int .u32 (659060556), .int .u32 (883997877), .int .u32 (958139571), .int .u32 (1322822218), .int .u32 (1537002063), .int .u32 (1747873779), .int .u32 (1955562222), .int .u32 (2024104815), .int .u32 (2227730452), .int .u32 (2361852424), .int .u32 (2428436474), .int .u32 (2756734187), .int .u32 (3204031479), .int .u32 (3329325298)])
  | _ => .undef
noncomputable abbrev tD (n : Nat) : Nat → Option FS := den PR gD anD n
end Mini
end
