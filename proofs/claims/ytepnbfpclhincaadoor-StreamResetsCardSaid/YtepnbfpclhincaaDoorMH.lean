/-
  Open, Append and On of a disk that may lose power: what is found behind it.
-/
import Derived.Test.YtepnbfpclhincaaDoorMG
set_option linter.unusedVariables false
set_option linter.unusedSimpArgs false
namespace Go.Proofs.YtepnbfpclhincaaDoor
open Go.RowKit

/-- Sectors in which stands what was told, and perhaps the one that was not. -/
structure Fnd (l : List (List UInt8)) (m G : Nat) (T : List (List UInt8)) (M : List UInt8) : Prop where
  len : l.length = m
  l64 : ∀ s ∈ l, s.length = 64
  gen : (openS l).gen ≤ G
  fits : (framesL (openRecs l)).length ≤ openH l * 55 - 1
  recs : openRecs l = T ∨ (M ≠ [] ∧ openRecs l = T ++ [M])
theorem Fnd.notFull {l T : List (List UInt8)} {m G : Nat} {M : List UInt8} (h : Fnd l m G T M) (hG : G < 281474976710655) : ¬ openFull l := by
  unfold openFull
  rw [openS_sz]
  have := h.gen; have := h.fits
  omega
theorem openS_gen_le {l : List (List UInt8)} {X : Nat} (hn : openNew l ≤ X) (hp : ∀ g half, parseH (l.getD 0 []) = some (g, half) → g ≤ X) : (openS l).gen ≤ X := by
  unfold openS
  cases h : parseH (l.getD 0 []) with
  | none => exact hn
  | some y => obtain ⟨g, half⟩ := y; exact Nat.max_le.2 ⟨hp g half h, hn⟩
theorem openS_head_le {l : List (List UInt8)} {g half : Nat} (h : parseH (l.getD 0 []) = some (g, half)) : g ≤ (openS l).gen := by
  unfold openS; rw [h]; exact Nat.le_max_left _ _
theorem Holds.fnd {l ts : List (List UInt8)} {S : StM} (h : Holds l S ts) {m G : Nat} (hl : l.length = m) (hG : S.gen ≤ G) : Fnd l m G ts [] := by
  have ho := h.open
  refine ⟨hl, h.l64, by rw [ho.2]; exact hG, ?_, .inl ho.1⟩
  rw [ho.1, ← h.data, ← h.sz]; exact h.okay.data

theorem openH_same {l l' : List (List UInt8)} (h : l'.length = l.length) : openH l' = openH l := by unfold openH; rw [h]
/-- An Open that was cut off. -/
theorem Fnd.cut {l T : List (List UInt8)} {m G : Nat} {M : List UInt8} (h : Fnd l m G T M) (hlo : 3 ≤ m) (hhi : m ≤ 4096) (hG : G < 281474976710655) {l1 l' : List (List UInt8)}
    (hu : SecUpd l l1 (resBase (openS l)) (resCells (openS l) (openRecs l))) (hl : l' = l1 ∨ (l1 = over l (resBase (openS l)) (resCells (openS l) (openRecs l)) ∧ l' = l1.set 0 (resHead (openS l)))) : Fnd l' m (G + 1) T M := by
  have hnf := h.notFull hG
  have hf := openFull_not hnf
  have hc := openS_can l h.l64 (by rw [h.len]; exact hlo) (by rw [h.len]; exact hhi)
  have hg := h.gen
  rcases hl with rfl | ⟨rfl, rfl⟩
  · have hr := cut_reset rfl (openS_sz l) hc.half (by rw [h.len]; exact hlo) (resCells_len hc.sz1 hf.1) hu
    refine ⟨by rw [hu.1, h.len], hu.l64 h.l64 (splitL_64 _ _ _ _ rfl), ?_, by rw [hr.1, hr.2.1]; exact h.fits, by rw [hr.1]; exact h.recs⟩
    refine openS_gen_le (hu.newest (by have := openNew_le l; omega) (fun c hc' g i d hp => by
      have := resCells_gen (S := openS l) (ts := openRecs l) (by have := hc.gen2; omega) hc.sz2 hf.1 c hc' g i d hp
      omega)) (fun g half hp => ?_)
    rw [hr.2.2] at hp
    have := openS_head_le hp
    omega
  · have hH := Holds.of_open h.l64 (by rw [h.len]; exact hlo) (by rw [h.len]; exact hhi) hnf
    have ho := hH.open
    have hF := hH.fnd (m := m) (G := G + 1) (by rw [List.length_set, over_length, h.len]) (by show (openS l).gen + 1 ≤ G + 1; omega)
    exact ⟨hF.len, hF.l64, hF.gen, hF.fits, by rw [ho.1]; exact h.recs⟩

/-- How an Open ends. -/
def OpenMay (bd : Nat) (ps F : List Nat) (D : DiskM) (l : List (List UInt8)) (m G : Nat) (T : List (List UInt8)) (M : List UInt8) (w : World) (e : Ending) (w' : World) : Prop :=
  (∃ p v F' D' l', e = .returned (.tuple #[ptrV p, v, .int .i64 0]) ∧ Live w' bd ps F' D' p l' ((openS l).reset (openRecs l)) (openRecs l) ∧ (D.tleft = 0 → D'.tleft = 0) ∧ l'.length = m ∧ Texts w' v (openRecs l) ∧ New w v ∧ (∀ k, k ∈ own v → k ≠ p ∧ k ∉ F') ∧ w.heap.size ≤ p ∧ Moves F w F' w') ∨
  (∃ F' D' l', e = .returned (.tuple #[.pointer none, .slice none 0 0, .int .i64 11]) ∧ D.tleft ≠ 0 ∧ DiskAt w' bd ps D' F' ∧ Down D' l' ∧ Fnd l' m (G + 1) T M ∧ Moves F w F' w')
theorem Open_may (w : World) (bd : Nat) (ps F : List Nat) (D : DiskM) (l : List (List UInt8)) (m G : Nat) (T : List (List UInt8)) (M : List UInt8) (h : DiskAt w bd ps D F) (hU : Up D l) (hf : Fnd l m G T M) (hlo : 3 ≤ m) (hhi : m ≤ 4096) (hG : G < 281474976710655) :
    Calls Tryd.prog 8 #[ptrV bd, .int .i64 0] w (OpenMay bd ps F D l m G T M w) := by
  refine (Open_go w bd ps F D l h hU hf.l64 (by rw [hf.len]; exact hlo) (by rw [hf.len]; exact hhi)).mono ?_
  rintro e w' (⟨hf', -⟩ | ⟨hnf, p, v, F', D', hD', hp, hpz, hm, ⟨rfl, hU', hst, hl, htx, hnw, hvn⟩ | ⟨rfl, hn, l1, l', hD, hu, hl⟩⟩)
  · exact absurd hf' (hf.notFull hG)
  · exact .inl ⟨p, v, F', D', _, rfl, ⟨hD', hU', hst, hp, Holds.of_open hf.l64 (by rw [hf.len]; exact hlo) (by rw [hf.len]; exact hhi) hnf⟩, hl, by rw [List.length_set, over_length, hf.len], htx, hnw, hvn, hpz, hm⟩
  · exact .inr ⟨F', D', l', rfl, hn, hD', hD, hf.cut hlo hhi hG hu hl, hm⟩

/-- How an Append ends. -/
def AppMay (bd : Nat) (ps F : List Nat) (D : DiskM) (p : Nat) (l : List (List UInt8)) (S : StM) (ts : List (List UInt8)) (b : List UInt8) (w : World) (e : Ending) (w' : World) : Prop :=
  (∃ F' D' l', e = .returned (.int .i64 0) ∧ b ≠ [] ∧ Live w' bd ps F' D' p l' (S.with (S.data ++ frameL b)) (ts ++ [b]) ∧ (D.tleft = 0 → D'.tleft = 0) ∧ l'.length = l.length ∧ Moves (p :: F) w (p :: F') w') ∨
  (∃ F' D' l', e = .returned (.int .i64 11) ∧ D.tleft ≠ 0 ∧ b ≠ [] ∧ DiskAt w' bd ps D' F' ∧ Down D' l' ∧ Fnd l' l.length S.gen ts b ∧ p ∉ F' ∧ Moves (p :: F) w (p :: F') w') ∨
  (∃ c : Int, (c == 0) = false ∧ (c == 11) = false ∧ e = .returned (.int .i64 c) ∧ Keeps [] w w')
theorem Append_may (w : World) (bd p : Nat) (ps F : List Nat) (D : DiskM) (l ts : List (List UInt8)) (S : StM) (s : ByteArray) (h : Live w bd ps F D p l S ts) (hz : s.size ≤ maxLen) :
    Calls Tryd.prog 11 #[ptrV p, .string s] w (AppMay bd ps F D p l S ts s.data.toList w) := by
  unfold maxLen at hz
  by_cases h1 : 4096 < s.size
  · exact (Append_long w p bd S s h.st h.holds.okay.broken h1 hz).mono fun e w' ⟨he, hk⟩ => .inr (.inr ⟨5, by decide, by decide, he, hk⟩)
  · by_cases hc : appCode S s.size = 0
    · have hc' : appCode S s.data.toList.length = 0 := by rw [toList_length]; exact hc
      have h0 := appCode_zero hc'
      have hne : s.data.toList ≠ [] := fun e => by rw [e] at h0; simp at h0
      refine (Append_go w p bd ps F D l S s h.disk h.up h.st h.out h.holds.okay hc).mono ?_
      rintro e w' ⟨F', D', hD', hp, hm, ⟨rfl, hU', hst, hl⟩ | ⟨rfl, hn, l', hDn, hu⟩⟩
      · exact .inl ⟨F', D', _, rfl, hne, ⟨hD', hU', hst, hp, h.holds.append _ hc'⟩, hl, over_length _ _ _, hm⟩
      · obtain ⟨r1, r2, r3, r4, r5⟩ := h.holds.cut_append _ hc' hu
        refine .inr (.inl ⟨F', D', l', rfl, hn, hne, hD', hDn, ⟨hu.1, r4, openS_gen_le r2 (fun g half hp' => ?_), ?_, r1.imp id (fun e => ⟨hne, e⟩)⟩, hp, hm⟩)
        · rw [r3] at hp'; injection hp' with e; injection e with e1 e2; rw [← e1]; exact Nat.le_refl _
        · rw [r5, ← h.holds.sz]
          have hd := h.holds.okay.data
          rcases r1 with e | e
          · rw [e, ← h.holds.data]; exact hd
          · rw [e, framesL_snoc, ← h.holds.data, List.length_append, frameL_length]; omega
    · refine (Append_live_no w bd p ps F D l ts S s h (by omega) hc).mono fun e w' ⟨he, hk⟩ => .inr (.inr ⟨_, beq_eq_false_iff_ne.2 hc, beq_eq_false_iff_ne.2 ?_, he, hk⟩)
      unfold appCode; repeat (first | decide | split)

theorem On_down (w : World) (bd : Nat) (ps F : List Nat) (D : DiskM) (l : List (List UInt8)) (h : DiskAt w bd ps D F) (hD : Down D l) (h64 : ∀ s ∈ l, s.length = 64) :
    Calls Tryd.prog 20 #[ptrV bd] w fun e w' => e = .returned (.tuple #[]) ∧ ∃ D', Rest w' bd ps F D' l ∧ Moves F w F w' := by
  refine (On_any w bd ps D F h).mono ?_
  rintro e w' ⟨rfl, hD', hk⟩
  obtain ⟨hU, ht⟩ := hD.on
  exact ⟨rfl, _, ⟨hD', hU, ht, h64⟩, hk, Fresh.refl _ _⟩
theorem On_up (w : World) (bd : Nat) (ps F : List Nat) (D : DiskM) (l : List (List UInt8)) (h : DiskAt w bd ps D F) (hU : Up D l) (h64 : ∀ s ∈ l, s.length = 64) :
    Calls Tryd.prog 20 #[ptrV bd] w fun e w' => e = .returned (.tuple #[]) ∧ ∃ D', Rest w' bd ps F D' l ∧ Moves F w F w' := by
  refine (On_any w bd ps D F h).mono ?_
  rintro e w' ⟨rfl, hD', hk⟩
  exact ⟨rfl, _, ⟨hD', ⟨hU.regs, rfl, ⟨hU.ok.regs, by simp, by simp, by simp⟩⟩, rfl, h64⟩, hk, Fresh.refl _ _⟩
/-- A trap is set. -/
theorem Cut_rest (w : World) (bd : Nat) (ps F : List Nat) (D : DiskM) (l : List (List UInt8)) (n : Int) (v : Value) (k : Nat) (h : DiskAt w bd ps D F) (hU : Up D l) (hn : n ≤ 9223372036854775807) (hk : k < 2 ^ 64) (hv : Sees w v [u64V k]) (hvF : ∀ x, x ∈ own v → x ∉ F) :
    Calls Tryd.prog 19 #[ptrV bd, .int .i64 0, .int .i64 n, v] w fun e w' => e = .returned (.tuple #[]) ∧ ∃ F' D', DiskAt w' bd ps D' F' ∧ Up D' l ∧ Moves F w F' w' := by
  have hnl : 0 < ps.length := by obtain ⟨_, _, _, h'⟩ := h; rw [← h'.len, hU.regs]; simp
  have hb : bd ∈ F := by obtain ⟨_, _, _, h'⟩ := h; exact h'.bdF
  refine (Cut_one w bd ps F D n v k h hnl hv (fun x hx e => hvF x hx (by rw [e]; exact hb))).mono ?_
  rintro e w' ⟨rfl, F', hD, hm⟩
  refine ⟨rfl, F', _, hD, ?_, hm⟩
  unfold DiskM.cut
  split
  · exact ⟨hU.regs, hU.off, ⟨hU.ok.regs, by show 0 ≤ n; omega, hn, by simp; exact hk⟩⟩
  · exact ⟨hU.regs, hU.off, ⟨hU.ok.regs, by simp, by simp, by simp⟩⟩
end Go.Proofs.YtepnbfpclhincaaDoor
