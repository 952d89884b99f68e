/-
  A stream that has just been opened on a new disk; what Append says to one that does not fit.
-/
import Derived.Test.YtepnbfpclhincaaDoorMD
import Derived.Test.YtepnbfpclhincaaDoorMC
set_option linter.unusedVariables false
set_option linter.unusedSimpArgs false
namespace Go.Proofs.YtepnbfpclhincaaDoor
open Go.RowKit

theorem all_eq (l : List (List UInt8)) : (RegM.mk l []).all = l := by
  unfold RegM.all RegM.read readQ
  apply List.ext_getElem?
  intro i
  simp only [List.getElem?_map, List.foldl_nil]
  by_cases h : i < l.length
  · rw [List.getElem?_range h]; simp [List.getElem?_eq_getElem h]
  · rw [List.getElem?_eq_none (by simp; omega), List.getElem?_eq_none (by omega)]; rfl
/-- A part of a slice. -/
theorem Sees.part {w : World} {g n cap : Nat} {xs : List Value} (h : Sees w (.slice (some ⟨g, 0, none⟩) n cap) xs) (a k c : Nat) (hak : a + k ≤ xs.length) (hc : c + a = cap) : Sees w (.slice (some ⟨g, a, none⟩) k c) ((xs.drop a).take k) := by
  obtain ⟨a', cap', e, h1, h2, h3⟩ := h
  simp only [Value.slice.injEq] at e
  obtain ⟨rfl, rfl, rfl⟩ := e
  have hl : ((xs.drop a).take k).length = k := by rw [List.length_take, List.length_drop]; omega
  refine ⟨_, _, by rw [hl], by omega, by omega, ?_⟩
  rcases h3 with h3 | ⟨b, off, e, hb, hcell⟩
  · left; rw [h3]; simp
  · right
    injection e with e; injection e with e1 e2 e3
    subst e1; subst e2
    refine ⟨g, a, rfl, hb, fun j u hj => ?_⟩
    rw [List.getElem?_take] at hj
    by_cases hjk : j < k
    · rw [if_pos hjk, List.getElem?_drop] at hj
      have := hcell _ _ hj
      simpa using this
    · rw [if_neg hjk] at hj; cases hj

def openH (l : List (List UInt8)) : Nat := halfOf l.length
def openJoin (l : List (List UInt8)) : List UInt8 := match parseH (l.getD 0 []) with
  | some (g, half) => joinL g 0 ((l.drop (1 + half * openH l)).take (openH l))
  | none => []
def openRecs (l : List (List UInt8)) : List (List UInt8) := match parseH (l.getD 0 []) with
  | some _ => (allL (openJoin l)).1
  | none => []
def openNew (l : List (List UInt8)) : Nat := newestL ((l.drop 1).take (2 * openH l))
def openS (l : List (List UInt8)) : StM := match parseH (l.getD 0 []) with
  | some (g, half) => ⟨openH l, max g (openNew l), half, [], false⟩
  | none => ⟨openH l, openNew l, 1, [], false⟩
def openFull (l : List (List UInt8)) : Prop := (openS l).sz * 55 - 1 < (framesL (openRecs l)).length ∨ (openS l).gen = 281474976710655

def OpenPost (bd : Nat) (ps F : List Nat) (D : DiskM) (l : List (List UInt8)) (w : World) (e : Ending) (w' : World) : Prop :=
  (openFull l ∧ e = .returned (.tuple #[.pointer none, .slice none 0 0, .int .i64 12]) ∧ Keeps [] w w') ∨
  (¬ openFull l ∧ ∃ p v F' D', DiskAt w' bd ps D' F' ∧ p ∉ F' ∧ w.heap.size ≤ p ∧ Moves F w F' w' ∧
    ((e = .returned (.tuple #[ptrV p, v, .int .i64 0]) ∧ Up D' ((over l (resBase (openS l)) (resCells (openS l) (openRecs l))).set 0 (resHead (openS l))) ∧ StAt w' p bd ((openS l).reset (openRecs l)) ∧ (D.tleft = 0 → D'.tleft = 0)
      ∧ Texts w' v (openRecs l) ∧ New w v ∧ (∀ k, k ∈ own v → k ≠ p ∧ k ∉ F')) ∨
     (e = .returned (.tuple #[.pointer none, .slice none 0 0, .int .i64 11]) ∧ D.tleft ≠ 0 ∧ ∃ l1 l', Down D' l' ∧ SecUpd l l1 (resBase (openS l)) (resCells (openS l) (openRecs l)) ∧ (l' = l1 ∨ (l1 = over l (resBase (openS l)) (resCells (openS l) (openRecs l)) ∧ l' = l1.set 0 (resHead (openS l)))))))


theorem allL_len : ∀ (n : Nat) (x : List UInt8), x.length = n → (framesL (allL x).1).length ≤ x.length ∧ ∀ t ∈ (allL x).1, 1 ≤ t.length ∧ t.length ≤ 4096 := by
  intro n
  induction n using Nat.strongRecOn with
  | _ n ih =>
    intro x hx
    cases hg : getFrame x with
    | error c => rw [allL_err hg]; simp [framesL]
    | ok b =>
      obtain ⟨h1, h2, h3, -, -⟩ := getFrame_ok hg
      rw [allL_ok hg]
      have := ih (n - (6 + b.length)) (by omega) (x.drop (6 + b.length)) (by rw [List.length_drop]; omega)
      refine ⟨?_, fun t ht => ?_⟩
      · have e : framesL (b :: (allL (x.drop (6 + b.length))).1) = frameL b ++ framesL (allL (x.drop (6 + b.length))).1 := by simp [framesL]
        have h4 := this.1
        rw [List.length_drop] at h4
        simp only [e, List.length_append, frameL_length]
        omega
      · rcases List.mem_cons.1 ht with rfl | ht
        · exact ⟨h2, h3⟩
        · exact this.2 t ht
theorem joinL_len (g : Nat) : ∀ (l : List (List UInt8)) (k : Nat), (joinL g k l).length ≤ 55 * l.length := by
  intro l
  induction l with
  | nil => intro k; simp [joinL]
  | cons s r ih =>
    intro k
    unfold joinL
    cases hp : parseL s with
    | none => simp
    | some y =>
      obtain ⟨g', i, d⟩ := y
      have := (parseL_gen hp).2.2.2.1
      have h2 := ih (k + 1)
      simp only []
      split
      · split
        · simp only [List.length_cons]; omega
        · simp only [List.length_append, List.length_cons]; omega
      · simp
theorem parseH_some {l : List UInt8} {g h : Nat} (hl : l.length = 64) (hp : parseH l = some (g, h)) : 1 ≤ g ∧ g < 281474976710656 ∧ h ≤ 1 ∧ l = headL g h := by
  unfold parseH at hp
  have hg := Pl.getL_lt ((l.drop 8).take 6)
  have hl6 : ((l.drop 8).take 6).length = 6 := by simp [hl]
  rw [hl6] at hg
  have hg' : Pl.getL ((l.drop 8).take 6) < 281474976710656 := hg
  dsimp only at hp
  by_cases h0 : Pl.getL ((l.drop 8).take 6) = 0
  · rw [if_pos h0] at hp; cases hp
  · rw [if_neg h0] at hp
    by_cases h1 : 1 < (l.getD 14 0).toNat
    · rw [if_pos h1] at hp; cases hp
    · rw [if_neg h1] at hp
      by_cases h2 : l = headL (Pl.getL ((l.drop 8).take 6)) (l.getD 14 0).toNat
      · rw [if_pos h2] at hp
        injection hp with hp; injection hp with e1 e2
        subst e1; subst e2
        exact ⟨by omega, hg', by omega, h2⟩
      · rw [if_neg h2] at hp; cases hp
theorem openRecs_ok (l : List (List UInt8)) : (framesL (openRecs l)).length ≤ 55 * openH l ∧ ∀ t ∈ openRecs l, 1 ≤ t.length ∧ t.length ≤ 4096 := by
  unfold openRecs
  cases hp : parseH (l.getD 0 []) with
  | none => simp [framesL]
  | some y =>
    simp only []
    have h1 := allL_len _ (openJoin l) rfl
    refine ⟨Nat.le_trans h1.1 ?_, h1.2⟩
    unfold openJoin
    rw [hp]
    obtain ⟨g, half⟩ := y
    simp only []
    refine Nat.le_trans (joinL_len _ _ _) ?_
    rw [List.length_take]; omega
theorem openS_sz (l : List (List UInt8)) : (openS l).sz = openH l := by
  unfold openS; cases parseH (l.getD 0 []) <;> rfl
theorem openS_broken (l : List (List UInt8)) : (openS l).broken = false := by
  unfold openS; cases parseH (l.getD 0 []) <;> rfl
theorem openS_can (l : List (List UInt8)) (h64 : ∀ s ∈ l, s.length = 64) (hlo : 3 ≤ l.length) (hhi : l.length ≤ 4096) : (openS l).can l := by
  have hH1 : 1 ≤ openH l := by unfold openH halfOf; omega
  have hH2 : 1 + 2 * openH l ≤ l.length := by unfold openH halfOf; omega
  have hn := newestL_lt ((l.drop 1).take (2 * openH l))
  have hx : (l.getD 0 []).length = 64 := by
    rw [List.getD_eq_getElem?_getD, List.getElem?_eq_getElem (by omega)]; exact h64 _ (List.getElem_mem _)
  have hg : (openS l).half ≤ 1 ∧ (openS l).gen ≤ 281474976710655 := by
    unfold openS
    cases hp : parseH (l.getD 0 []) with
    | none => exact ⟨Nat.le_refl _, by show openNew l ≤ _; unfold openNew; omega⟩
    | some y =>
      obtain ⟨g, half⟩ := y
      obtain ⟨h1, h2, h3, -⟩ := parseH_some hx hp
      exact ⟨h3, by show max g (openNew l) ≤ _; unfold openNew; omega⟩
  exact ⟨by rw [openS_sz]; exact hH1, by rw [openS_sz]; omega, hg.1, hg.2, openS_broken l, by rw [openS_sz]; exact hH2, hhi⟩

theorem Open_tail (w wt : World) (p bd : Nat) (ps F : List Nat) (D : DiskM) (l : List (List UInt8)) (v : Value) (h : DiskAt w bd ps D F) (hU : Up D l) (h64 : ∀ s ∈ l, s.length = 64) (hlo : 3 ≤ l.length) (hhi : l.length ≤ 4096)
    (hk : Keeps [] w wt) (hst : StAt wt p bd (openS l)) (hp : w.heap.size ≤ p) (hv : Texts wt v (openRecs l)) (hnew : New w v) (hvp : p ∉ own v) :
    Calls Tryd.prog 12 #[ptrV p, v] wt fun e w' =>
      (e = .returned (.int .i64 12) ∧ OpenPost bd ps F D l w (.returned (.tuple #[.pointer none, .slice none 0 0, .int .i64 12])) w') ∨
      (e = .returned (.int .i64 0) ∧ OpenPost bd ps F D l w (.returned (.tuple #[ptrV p, v, .int .i64 0])) w') ∨
      (e = .returned (.int .i64 11) ∧ OpenPost bd ps F D l w (.returned (.tuple #[.pointer none, .slice none 0 0, .int .i64 11])) w') := by
  obtain ⟨hr1, hr2⟩ := openRecs_ok l
  have hc := openS_can l h64 hlo hhi
  have hH3 : openH l ≤ 2047 := by unfold openH halfOf; omega
  have hsee : Sees wt v ((openRecs l).map strV) := Sees.of_own (by rw [List.length_map]; exact hv)
  by_cases hf : openFull l
  · refine (Reset_full wt p bd l (openS l) v (openRecs l) hst hc hsee hr2 (by omega) hf).mono ?_
    rintro e w' ⟨rfl, hk'⟩
    exact .inl ⟨rfl, .inl ⟨hf, rfl, hk.trans hk'⟩⟩
  · have hf' := hf
    unfold openFull at hf'
    have hg := hc.gen2
    have hFl := h.lt
    have hpF : p ∉ F := fun x => by have := hFl p x; omega
    refine (Reset_go wt p bd ps F D l (openS l) v (openRecs l) (h.keeps0 hk) hU hst hpF hc hsee hr2 (by omega) (by omega) (by omega)).mono ?_
    rintro e w' ⟨F', D', hD', hp', hm', hh⟩
    have hmv : Moves F w F' w' := by
      refine ⟨?_, fun x hx => ?_⟩
      · have := hk.nil (F := p :: F) |>.trans hm'.1
        exact this.mono (fun x hx hl => by
          rcases List.mem_cons.1 hx with rfl | hx
          · omega
          · exact hx)
      · rcases hm'.2 x (List.mem_cons_of_mem _ hx) with y | y
        · rcases List.mem_cons.1 y with rfl | y
          · exact .inr hp
          · exact .inl y
        · have := hk.size; exact .inr (by omega)
    have hvF : ∀ k, k ∈ own v → k ∉ p :: F := fun k hk' hkF => by
      rcases List.mem_cons.1 hkF with rfl | hkF
      · exact hvp hk'
      · have := hnew k hk'; have := hFl k hkF; omega
    have hvlt := ownsRow_lt hv
    rcases hh with ⟨rfl, hU', hst', hl'⟩ | ⟨rfl, hn, l1, l', hd, hs, hl'⟩
    · refine .inr (.inl ⟨rfl, .inr ⟨hf, p, v, F', D', hD', hp', hp, hmv, .inl ⟨rfl, hU', hst', hl', ownsRow_keeps hm'.1 hv hvF, hnew, fun k hk' => ⟨fun e => hvp (e ▸ hk'), fun hkF => ?_⟩⟩⟩⟩)
      rcases hm'.2 k (List.mem_cons_of_mem _ hkF) with y | y
      · exact hvF k hk' y
      · have := hvlt k hk'; omega
    · exact .inr (.inr ⟨rfl, .inr ⟨hf, p, v, F', D', hD', hp', hp, hmv, .inr ⟨rfl, hn, l1, l', hd, hs, hl'⟩⟩⟩)
end Go.Proofs.YtepnbfpclhincaaDoor

namespace Go.Proofs.YtepnbfpclhincaaDoor
open Go.RowKit

set_option maxRecDepth 100000 in
set_option maxHeartbeats 2000000 in
theorem Open_go (w : World) (bd : Nat) (ps F : List Nat) (D : DiskM) (l : List (List UInt8)) (h : DiskAt w bd ps D F) (hU : Up D l) (h64 : ∀ s ∈ l, s.length = 64) (hlo : 3 ≤ l.length) (hhi : l.length ≤ 4096) :
    Calls Tryd.prog 8 #[ptrV bd, .int .i64 0] w (OpenPost bd ps F D l w) := by
  have hnl : 0 < ps.length := by obtain ⟨_, _, _, h'⟩ := h; rw [← h'.len, hU.regs]; simp
  have HSec := Lib.hid (Sectors_in w bd ps D F 0 ⟨l, []⟩ h hnl hU.reg)
  have HSz := Lib.hid (size_any l.length w)
  have HRd := Lib.hid (read_any w bd ps D F 0 ⟨l, []⟩ h hU.off hU.reg (by simp) hhi)
  have hH : halfOf l.length = openH l := rfl
  have hH1 : 1 ≤ openH l := by unfold openH halfOf; omega
  have hH2 : 1 + 2 * openH l ≤ l.length := by unfold openH halfOf; omega
  have hH3 : openH l ≤ 2047 := by omega
  rw [hH] at HSz
  have b4 : (((openH l : Nat) : Int) == 0) = false := beq_eq_false_iff_ne.2 (by omega)
  have HD := Lib.hid h
  have HU := Lib.hid hU
  have H64 := Lib.hid h64
  have HH := Lib.hid hH; clear hH
  generalize hHH : openH l = H at HSz b4 hH1 hH2 hH3
  have HHH := Lib.hid hHH
  clear h hU h64 hHH
  unfold ptrV at HSec HRd ⊢
  go_enter Tryd.func8, Tryd.ntmps8
  go_wp2_with fail
  refine (HSec.out).mono ?_
  rintro e w1 ⟨rfl, rfl⟩
  go_wp2_with fail
  refine (HSz.out).mono ?_
  rintro e w1 ⟨rfl, rfl⟩
  go_wp2_with fail
  refine (HRd.out).mono ?_
  rintro e w1 ⟨v1, rfl, htx, hnew, hk1⟩
  rw [all_eq] at htx
  obtain ⟨g1, cp1, rfl, hcp1, hcp2, hg1, hcell, -⟩ := ownsRow_at htx (by omega)
  obtain ⟨x0, hx0⟩ : ∃ x0, l[0]? = some x0 := ⟨_, List.getElem?_eq_getElem (by omega)⟩
  have hc0 : (w1.alloc (.cells #[.pointer (some ⟨bd, 0, none⟩), .int .i64 0, .int .i64 H, .int .i64 0, .int .i64 1, .string ⟨#[]⟩, .bool false] 53)).cell? ⟨g1, 0, none⟩ = some (.string ⟨x0.toArray⟩) :=
    ((Keeps.refl [] w1).alloc _).cell (hcell 0 _ (by simp [hx0, strV])) (by simp)
  have hbx := heap_alloc_new w1 (.cells #[.pointer (some ⟨bd, 0, none⟩), .int .i64 0, .int .i64 H, .int .i64 0, .int .i64 1, .string ⟨#[]⟩, .bool false] 53)
  have hHx : l.getD 0 [] = x0 := by rw [List.getD_eq_getElem?_getD, hx0]; rfl
  have HX := Lib.hid hHx
  have HX64 : Hid (x0.length = 64) := H64.out x0 (List.mem_of_getElem? hx0)
  have hx64 : x0.length = 64 := H64.out x0 (List.mem_of_getElem? hx0)
  have HP := Lib.hid (parseH_any ⟨x0.toArray⟩ (by rw [size_mk]; exact hx64) (w1.alloc (.cells #[.pointer (some ⟨bd, 0, none⟩), .int .i64 0, .int .i64 H, .int .i64 0, .int .i64 1, .string ⟨#[]⟩, .bool false] 53)))
  have HTx := Lib.hid htx; have HNw := Lib.hid hnew
  have HK1 := Lib.hid hk1
  have HBx := Lib.hid hbx
  clear htx hnew hk1 hcell hx0 hHx hx64 hbx
  go_wp2_with fail
  refine (HP.out).mono ?_
  rintro e w2 ⟨hk2, hp⟩
  have HS2 : Hid (StAt w2 w1.heap.size bd ⟨H, 0, 1, [], false⟩) := hk2.heap HBx.out (by simp)
  have HK2 : Hid (Keeps [] w w2) := HK1.out.trans (((Keeps.refl [] w1).alloc _).trans hk2)
  have hz2 : w1.heap.size < w2.heap.size := by have := hk2.size; simp at this; omega
  have HTx2 : Hid (Texts w2 (.slice (some ⟨g1, 0, none⟩) l.length cp1) l) := ownsRow_keeps (((Keeps.refl [] w1).alloc _).trans hk2) HTx.out (by simp)
  have hz1 : w.heap.size ≤ w1.heap.size := HK1.out.size
  generalize hpp : w1.heap.size = p at HS2 hz1 hz2
  have HPP := Lib.hid hpp
  clear hk2 HBx HP hc0 HTx HK1 hpp
  obtain ⟨m2, hm2⟩ : ∃ m2, m2 = 2 * H := ⟨_, rfl⟩
  have hw1 : IntKind.i64.wrap (2 * (H : Int)) = (m2 : Int) := by rw [wrap_small _ (by omega) (by omega)]; omega
  obtain ⟨m3, hm3⟩ : ∃ m3, m3 = 1 + m2 := ⟨_, rfl⟩
  have hw2 : IntKind.i64.wrap (1 + (m2 : Int)) = (m3 : Int) := by rw [wrap_small _ (by omega) (by omega)]; omega
  have hq1 : (m3 : Int) ≤ cp1 := by omega
  have hq2 : (1 : Int) ≤ m3 := by omega
  have hq3 : m3 ≤ cp1 := by omega
  have hq4 : 1 ≤ m3 := by omega
  have hm3l : m3 ≤ l.length := by omega
  have hcq : ¬ cp1 = 1 := by omega
  have HNew : Hid (∀ w', Texts w' (.slice (some ⟨g1, 0, none⟩) l.length cp1) l → Calls Tryd.prog 29 #[.slice (some ⟨g1, 1, none⟩) (m3 - 1) (cp1 - 1)] w' fun e w'' => e = .returned (.int .i64 (openNew l)) ∧ Keeps [] w' w'') := fun w' ht => by
    obtain ⟨n, hn⟩ : ∃ n, n = m3 - 1 := ⟨_, rfl⟩
    obtain ⟨c, hc'⟩ : ∃ c, c = cp1 - 1 := ⟨_, rfl⟩
    have hc : c + 1 = cp1 := by omega
    have hn2 : n = m2 := by omega
    rw [← hn, ← hc']
    have hs : Sees w' (.slice (some ⟨g1, 0, none⟩) l.length cp1) (l.map strV) := Sees.of_own (by rw [List.length_map]; exact ht)
    have hp := Sees.part hs 1 n c (by rw [List.length_map]; omega) hc
    have e : ((l.map strV).drop 1).take n = ((l.drop 1).take n).map strV := by rw [List.map_take, List.map_drop]
    rw [e] at hp
    have := Newest_any _ _ w' hp (by rw [List.length_take, List.length_drop]; omega) (fun s hs => by have := H64.out s (List.mem_of_mem_drop (List.mem_of_mem_take hs)); omega)
    unfold openNew
    rw [HHH.out, ← hm2, ← hn2]
    exact this
  have HM2 := Lib.hid hm2; have HM3 := Lib.hid hm3
  clear hm2 hm3
  cases hr : parseH x0 with
  | none =>
    rw [hr] at hp
    subst hp
    have HN := Lib.hid hr; clear hr
    obtain ⟨-, -, -, d3, -, -, -⟩ := HS2.out.cells
    have f3 : w2.frozen? ⟨p, 3, none⟩ = false := free_blk HS2.out 3
    have HC3 : Hid (∀ w', Keeps [] w2 w' → w'.cell? ⟨p, 3, none⟩ = some (.int .i64 0) ∧ w'.frozen? ⟨p, 3, none⟩ = false ∧ Hid (Keeps [] w2 w')) := fun w' k => by
      have := HS2.out.keeps k (by simp)
      exact ⟨this.cells.2.2.2.1, free_blk this 3, k⟩
    have hmx : max (0 : Int) (openNew l : Int) = (openNew l : Int) := by omega
    go_wp2_with fail
    go_region_law (first | (go_simp; go_at_call 29; refine (HNew.out _ (ownsRow_keeps (F := []) (by repeat (first | exact Keeps.refl [] _ | refine Keeps.drew ?_)) HTx2.out (by simp))).mono ?_; rintro e w3 ⟨rfl, hk3⟩; obtain ⟨d3', f3', HK3⟩ := HC3.out w3 (by first | exact hk3 | exact Keeps.of_drew hk3)))
    all_goals
      have hz3 : w2.heap.size ≤ w3.heap.size := HK3.out.size
      have hst3 : StAt w3 p bd ⟨H, 0, 1, [], false⟩ := HS2.out.keeps HK3.out (by simp)
      have hk4 : Keeps [] w (w3.setCell ⟨p, 3, none⟩ (.int .i64 (openNew l))) := (HK2.out.trans HK3.out).trans' (Keeps.one (w := w3) p 3 (.int .i64 (openNew l))) (fun x hx hl => by simp at hx; omega)
      have hst4 : StAt (w3.setCell ⟨p, 3, none⟩ (.int .i64 (openNew l))) p bd (openS l) := by
        have e : openS l = ⟨H, openNew l, 1, [], false⟩ := by unfold openS; rw [HX.out, HN.out, HHH.out]
        rw [e]; exact setCell_blk hst3 3 _
      have er : openRecs l = [] := by unfold openRecs; rw [HX.out, HN.out]
      have HT := Lib.hid (Open_tail w _ p bd ps F D l (.slice none 0 0) HD.out HU.out H64.out hlo hhi hk4 hst4 hz1 (by rw [er]; exact World.ownsRow_nil _ _ _ _) (New.nil _) (by simp [own, Value.ownBlock]))
      clear hst4 hk4 hst3 er d3' f3' d3 f3 hk3 HK3
      unfold ptrV at HT
      go_wp2_with fail
      refine (HT.out).mono ?_
      rintro e w5 (⟨rfl, hq⟩ | ⟨rfl, hq⟩ | ⟨rfl, hq⟩)
      · have HQ := Lib.hid hq; clear hq
        go_wp2_with fail
        go_ret3
        exact HQ.out
      · have HQ := Lib.hid hq; clear hq
        unfold ptrV at HQ
        go_wp2_with fail
        go_ret3
        exact HQ.out
      · have HQ := Lib.hid hq; clear hq
        go_wp2_with fail
        go_ret3
        exact HQ.out
  | some r =>
    obtain ⟨g, half⟩ := r
    obtain ⟨hp1, hp2, hp3, -⟩ := parseH_some HX64.out hr
    rw [hr] at hp
    subst hp
    have HN := Lib.hid hr; clear hr
    obtain ⟨-, -, -, d3, d4, -, -⟩ := HS2.out.cells
    have f3 : w2.frozen? ⟨p, 3, none⟩ = false := free_blk HS2.out 3
    have h3 := setCell_blk HS2.out 3 (.int .i64 (g : Int))
    have f4 : (w2.setCell ⟨p, 3, none⟩ (.int .i64 (g : Int))).frozen? ⟨p, 4, none⟩ = false := free_blk h3 4
    have d4' : (w2.setCell ⟨p, 3, none⟩ (.int .i64 (g : Int))).cell? ⟨p, 4, none⟩ = some (.int .i64 1) := by rw [cell_blk h3]; rfl
    have HS3 : Hid (StAt ((w2.setCell ⟨p, 3, none⟩ (.int .i64 (g : Int))).setCell ⟨p, 4, none⟩ (.int .i64 (half : Int))) p bd ⟨H, g, half, [], false⟩) := setCell_blk h3 4 _
    have hpw2 : w.heap.size ≤ p := hz1
    have hkp : Keeps [p] w2 ((w2.setCell ⟨p, 3, none⟩ (.int .i64 (g : Int))).setCell ⟨p, 4, none⟩ (.int .i64 (half : Int))) := (Keeps.one p 3 _).trans (Keeps.one p 4 _)
    have hg1p : g1 ≠ p := by have := HPP.out; omega
    have HTx3 : Hid (Texts ((w2.setCell ⟨p, 3, none⟩ (.int .i64 (g : Int))).setCell ⟨p, 4, none⟩ (.int .i64 (half : Int))) (.slice (some ⟨g1, 0, none⟩) l.length cp1) l) := ownsRow_keeps hkp HTx2.out (fun k hk hk' => by simp [own, Value.ownBlock] at hk hk'; omega)
    have HK3 : Hid (Keeps [] w ((w2.setCell ⟨p, 3, none⟩ (.int .i64 (g : Int))).setCell ⟨p, 4, none⟩ (.int .i64 (half : Int)))) := HK2.out.trans' hkp (fun x hx hl => by simp at hx; omega)
    have HFr := Lib.hid (from_any _ p bd _ HS3.out hp3 (by show H ≤ 4096; omega))
    have hfr1 := half_le (sz := H) hp3
    obtain ⟨fr, hfr⟩ : ∃ fr, fr = 1 + half * H := ⟨_, rfl⟩
    simp only [← hfr] at HFr
    have hfr2 : 1 ≤ fr := by omega
    have hfr3 : fr + H ≤ l.length := by omega
    obtain ⟨m4, hm4⟩ : ∃ m4, m4 = fr + H := ⟨_, rfl⟩
    have hw4 : IntKind.i64.wrap ((fr : Int) + (H : Int)) = (m4 : Int) := by rw [wrap_small _ (by omega) (by omega)]; omega
    have hq5 : (m4 : Int) ≤ cp1 := by omega
    have hq6 : (fr : Int) ≤ m4 := by omega
    have hq7 : m4 ≤ cp1 := by omega
    have hq8 : fr ≤ m4 := by omega
    have hq9 : ¬ cp1 = fr := by omega
    have hJ : joinL g 0 ((l.drop fr).take H) = openJoin l := by unfold openJoin; rw [HX.out, HN.out]; simp only []; rw [HHH.out, hfr]
    have hJl : (openJoin l).length ≤ 55 * H := by
      rw [← hJ]; refine Nat.le_trans (joinL_len _ _ _) ?_; rw [List.length_take]; omega
    have HJn : Hid (∀ w', Texts w' (.slice (some ⟨g1, 0, none⟩) l.length cp1) l → Calls Tryd.prog 28 #[.slice (some ⟨g1, fr, none⟩) (m4 - fr) (cp1 - fr), .int .i64 g] w' fun e w'' => e = .returned (.string ⟨(openJoin l).toArray⟩) ∧ Keeps [] w' w'') := fun w' ht => by
      obtain ⟨n, hn⟩ : ∃ n, n = m4 - fr := ⟨_, rfl⟩
      obtain ⟨c, hc'⟩ : ∃ c, c = cp1 - fr := ⟨_, rfl⟩
      have hn2 : n = H := by omega
      rw [← hn, ← hc']
      have hs : Sees w' (.slice (some ⟨g1, 0, none⟩) l.length cp1) (l.map strV) := Sees.of_own (by rw [List.length_map]; exact ht)
      have hp := Sees.part hs fr n c (by rw [List.length_map]; omega) (by omega)
      have e : ((l.map strV).drop fr).take n = ((l.drop fr).take n).map strV := by rw [List.map_take, List.map_drop]
      rw [e] at hp
      have := Join_any _ _ g w' hp (by rw [List.length_take, List.length_drop]; omega) (fun s hs => by have := H64.out s (List.mem_of_mem_drop (List.mem_of_mem_take hs)); omega)
      rw [hn2, hJ] at this
      rw [hn2]
      exact this
    have HAl : Hid (∀ w', Calls Tryd.prog 27 #[.string ⟨(openJoin l).toArray⟩] w' (AllPost ⟨(openJoin l).toArray⟩ w')) := fun w' => FAll_any _ (by rw [size_mk]; omega) w'
    have er : (allL (openJoin l)).1 = openRecs l := by unfold openRecs; rw [HX.out, HN.out]
    have HER := Lib.hid er
    have HFR := Lib.hid hfr; have HM4 := Lib.hid hm4
    clear hJ hJl hfr hm4 er h3 hfr1 hkp hfr3
    unfold ptrV at HFr
    go_wp2_with fail
    refine (HFr.out).mono ?_
    rintro e w4 ⟨rfl, hk4⟩
    have HTx4 : Hid (Texts w4 (.slice (some ⟨g1, 0, none⟩) l.length cp1) l) := ownsRow_keeps hk4 HTx3.out (by simp)
    have HK4 := Lib.hid hk4
    clear d3 d4 f3 f4 d4' HFr hk4
    go_wp2_with fail
    refine (HJn.out _ HTx4.out).mono ?_
    rintro e w5 ⟨rfl, hk5⟩
    have HK5 := Lib.hid hk5
    clear hk5
    go_wp2_with fail
    refine (HAl.out _).mono ?_
    rintro e w6 ⟨v6, rfl, htx6, hnew6, hk6⟩
    obtain ⟨av, nv, cv, ev⟩ : ∃ av nv cv, v6 = .slice av nv cv := by obtain ⟨a, c, e⟩ := ownsRow_form htx6; exact ⟨_, _, _, e⟩
    subst ev
    have HTx6 : Hid (Texts w6 (.slice av nv cv) (openRecs l)) := by rw [← HER.out]; exact htx6
    have HN6 := Lib.hid hnew6
    have HK6 : Hid (Keeps [] ((w2.setCell ⟨p, 3, none⟩ (.int .i64 (g : Int))).setCell ⟨p, 4, none⟩ (.int .i64 (half : Int))) w6) := (HK4.out.trans HK5.out).trans hk6
    have HS6 : Hid (StAt w6 p bd ⟨H, g, half, [], false⟩) := HS3.out.keeps HK6.out (by simp)
    have HTl6 : Hid (Texts w6 (.slice (some ⟨g1, 0, none⟩) l.length cp1) l) := ownsRow_keeps HK6.out HTx3.out (by simp)
    have hz5 : p < w5.heap.size := by have h1 := HS3.out.lt; have h2 := HK4.out.size; have h3 := HK5.out.size; omega
    clear htx6 hnew6 hk6 HJn HAl HTx4
    obtain ⟨-, -, -, d3, -, -, -⟩ := HS6.out.cells
    have f3 : w6.frozen? ⟨p, 3, none⟩ = false := free_blk HS6.out 3
    have HC3 : Hid (∀ w', Keeps [] w6 w' → w'.cell? ⟨p, 3, none⟩ = some (.int .i64 g) ∧ w'.frozen? ⟨p, 3, none⟩ = false ∧ Hid (Keeps [] w6 w')) := fun w' k => by
      have := HS6.out.keeps k (by simp)
      exact ⟨this.cells.2.2.2.1, free_blk this 3, k⟩
    obtain ⟨mg, hmg⟩ : ∃ mg, mg = max g (openNew l) := ⟨_, rfl⟩
    have hmx : max (g : Int) (openNew l : Int) = (mg : Int) := by omega
    have HMG := Lib.hid hmg; clear hmg
    go_wp2_with fail
    go_region_law (first | (go_simp; go_at_call 29; refine (HNew.out _ (ownsRow_keeps (F := []) (by repeat (first | exact Keeps.refl [] _ | refine Keeps.drew ?_)) HTl6.out (by simp))).mono ?_; rintro e w7 ⟨rfl, hk7⟩; obtain ⟨d3', f3', HK7⟩ := HC3.out w7 (by first | exact hk7 | exact Keeps.of_drew hk7)))
    all_goals
      have hst3 : StAt w7 p bd ⟨H, g, half, [], false⟩ := HS6.out.keeps HK7.out (by simp)
      have hk8 : Keeps [] w (w7.setCell ⟨p, 3, none⟩ (.int .i64 (mg : Int))) := (HK3.out.trans (HK6.out.trans HK7.out)).trans' (Keeps.one (w := w7) p 3 (.int .i64 (mg : Int))) (fun x hx hl => by simp at hx; omega)
      have hst4 : StAt (w7.setCell ⟨p, 3, none⟩ (.int .i64 (mg : Int))) p bd (openS l) := by
        have e : openS l = ⟨H, mg, half, [], false⟩ := by unfold openS; rw [HX.out, HN.out, HHH.out, HMG.out]
        rw [e]; exact setCell_blk hst3 3 _
      have hnp : ∀ k, k ∈ own (.slice av nv cv) → k ≠ p := fun k hk e => by have := HN6.out k hk; omega
      have hnw : New w (.slice av nv cv) := fun k hk => by have := HN6.out k hk; omega
      have HT := Lib.hid (Open_tail w _ p bd ps F D l (.slice av nv cv) HD.out HU.out H64.out hlo hhi hk8 hst4 hz1 (ownsRow_keeps (Keeps.one (w := w7) p 3 (.int .i64 (mg : Int))) (ownsRow_keeps HK7.out HTx6.out (by simp)) (fun k hk hk' => by simp at hk'; exact hnp k hk hk')) hnw (fun h => hnp p h rfl))
      clear hst4 hk8 hst3 d3' f3' d3 f3 hk7 HK7 hnp hnw
      unfold ptrV at HT
      go_wp2_with fail
      refine (HT.out).mono ?_
      rintro e w9 (⟨rfl, hq⟩ | ⟨rfl, hq⟩ | ⟨rfl, hq⟩)
      · have HQ := Lib.hid hq; clear hq
        go_wp2_with fail
        go_ret3
        exact HQ.out
      · have HQ := Lib.hid hq; clear hq
        unfold ptrV at HQ
        go_wp2_with fail
        go_ret3
        exact HQ.out
      · have HQ := Lib.hid hq; clear hq
        go_wp2_with fail
        go_ret3
        exact HQ.out
end Go.Proofs.YtepnbfpclhincaaDoor

namespace Go.Proofs.YtepnbfpclhincaaDoor
open Go.RowKit

theorem str_ne (x y : List UInt8) (h : x ≠ y) : ((ByteArray.mk x.toArray).toList == (ByteArray.mk y.toArray).toList) = false := by
  rw [beq_eq_false_iff_ne, ByteArray.toList_eq, ByteArray.toList_eq]; simpa using h

set_option maxRecDepth 100000 in
set_option maxHeartbeats 1000000 in
theorem equal_any (v1 v2 : Value) (l1 l2 : List (List UInt8)) (w : World) (h1 : Sees w v1 (l1.map strV)) (h2 : Sees w v2 (l2.map strV)) :
    Calls Tryd.prog 18 #[v1, v2] w fun e w' => e = .returned (.bool (decide (l1 = l2))) ∧ Keeps [] w w' := by
  obtain ⟨a1, cap1, rfl, hc11, hc12, hcell1⟩ := h1
  obtain ⟨a2, cap2, rfl, hc21, hc22, hcell2⟩ := h2
  rw [List.length_map] at *
  have HC1 := Lib.hid hcell1; have HC2 := Lib.hid hcell2
  unfold maxLen at hc12 hc22
  clear hcell1 hcell2
  by_cases hl : l1.length = l2.length
  · have bl : ((l1.length : Int) != (l2.length : Int)) = false := by simp [hl]
    have HL := Lib.hid hl
    clear hl
    go_enter Tryd.func18, Tryd.ntmps18
    go_wp2_with fail
    go_loopw [13] (fun i wr => ∃ k : Nat, k ≤ l1.length ∧ i = .int .i64 k ∧ l1.take k = l2.take k ∧ Keeps [] w wr) (fun i _ => l1.length - (intOf i).toNat)
    case atStart => exact ⟨0, by omega, rfl, by simp, Keeps.refl _ _⟩
    case round =>
      obtain ⟨k, hk, rfl, htk, hkp⟩ := hrel
      by_cases hlt : k < l1.length
      · have hlt2 : k < l2.length := by have := HL.out; omega
        obtain ⟨b1, o1, rfl, hb1, hce1⟩ := HC1.out.resolve_left (by intro h; have := congrArg List.length h; simp at this; rw [this] at hlt; simp at hlt)
        obtain ⟨b2, o2, rfl, hb2, hce2⟩ := HC2.out.resolve_left (by intro h; have := congrArg List.length h; simp at this; rw [this] at hlt2; simp at hlt2)
        have hx1 : wr.cell? ⟨b1, o1 + k, none⟩ = some (strV l1[k]) := hkp.cell (hce1 k _ (by simp [List.getElem?_eq_getElem hlt])) (by simp)
        have hx2 : wr.cell? ⟨b2, o2 + k, none⟩ = some (strV l2[k]) := hkp.cell (hce2 k _ (by simp [List.getElem?_eq_getElem hlt2])) (by simp)
        have HT1 := Lib.hid (List.take_succ_eq_append_getElem hlt)
        have HT2 := Lib.hid (List.take_succ_eq_append_getElem hlt2)
        have HG1 := Lib.hid (List.getElem?_eq_getElem hlt)
        have HG2 := Lib.hid (List.getElem?_eq_getElem hlt2)
        have HTK := Lib.hid htk
        generalize l1[k] = x at hx1 HT1 HG1
        generalize l2[k] = y at hx2 HT2 HG2
        unfold strV at hx1 hx2
        clear hce1 hce2 htk
        by_cases hxy : x = y
        · subst hxy
          go_wp2_with fail
          go_region
          go_wp2_with fail
          go_roundw
          case rel => exact ⟨k + 1, by omega, by go_num, by rw [HT1.out, HT2.out, HTK.out], hkp.drew⟩
          case measure => simp [intOf]; omega
        · have bx : (x == y) = false := beq_eq_false_iff_ne.2 hxy
          have HNE : Hid (decide (l1 = l2) = false) := by
            refine decide_eq_false (fun e => hxy ?_)
            have h1 := HG1.out; have h2 := HG2.out
            rw [e] at h1
            exact Option.some.inj (h1.symm.trans h2)
          clear hxy
          go_wp2_with fail
          go_region
          go_wp2_with fail
          go_ret
          exact ⟨by rw [HNE.out]; rfl, hkp.drew⟩
      · have HE : Hid (decide (l1 = l2) = true) := by
          have hk2 : k = l1.length := by omega
          refine decide_eq_true ?_
          have h2 := HL.out
          rw [hk2, List.take_length, h2, List.take_length] at htk
          exact htk
        clear htk
        go_wp2_with fail
        go_ret
        exact ⟨by rw [HE.out]; rfl, hkp⟩
  · have bl : ((l1.length : Int) != (l2.length : Int)) = true := by simp; omega
    have HNE : Hid (decide (l1 = l2) = false) := decide_eq_false (fun e => hl (by rw [e]))
    go_enter Tryd.func18, Tryd.ntmps18
    go_wp2_with fail
    go_ret
    exact ⟨by rw [HNE.out]; rfl, Keeps.refl _ _⟩
end Go.Proofs.YtepnbfpclhincaaDoor

namespace Go.Proofs.YtepnbfpclhincaaDoor
open Go.RowKit

theorem take_at {α : Type _} (a b : List α) (n : Nat) (h : a.length = n) : (a ++ b).take n = a := by subst h; simp
theorem drop_at {α : Type _} (a b : List α) (n : Nat) (h : a.length = n) : (a ++ b).drop n = b := by subst h; simp
theorem frame_parts (t r : List UInt8) : frameL t ++ r = Pl.putL 2 t.length ++ (Pl.putL 4 (sumL (Pl.putL 2 t.length ++ t)).toNat ++ (t ++ r)) := by simp [frameL]
theorem getFrame_frame (t r : List UInt8) (h1 : 1 ≤ t.length) (h2 : t.length ≤ 4096) : getFrame (frameL t ++ r) = .ok t := by
  have hlen : (frameL t ++ r).length = t.length + 6 + r.length := by rw [List.length_append, frameL_length]
  have e2 : (frameL t ++ r).take 2 = Pl.putL 2 t.length := by rw [frame_parts]; exact take_at _ _ 2 (by simp)
  have e4 : ((frameL t ++ r).drop 2).take 4 = Pl.putL 4 (sumL (Pl.putL 2 t.length ++ t)).toNat := by
    rw [frame_parts, drop_at _ _ 2 (by simp)]; exact take_at _ _ 4 (by simp)
  have e6 : ((frameL t ++ r).drop 6).take t.length = t := by
    rw [show (6 : Nat) = 2 + 4 from rfl, ← List.drop_drop, frame_parts, drop_at _ _ 2 (by simp), drop_at _ _ 4 (by simp)]
    exact take_at _ _ _ rfl
  have hn : Pl.getL (Pl.putL 2 t.length) = t.length := by rw [Pl.getL_putL]; exact Nat.mod_eq_of_lt (by omega)
  have hs := sumL_U32 (Pl.putL 2 t.length ++ t)
  have hc : Pl.getL (Pl.putL 4 (sumL (Pl.putL 2 t.length ++ t)).toNat) = (sumL (Pl.putL 2 t.length ++ t)).toNat := by
    rw [Pl.getL_putL]; exact Nat.mod_eq_of_lt (by have := hs.2; omega)
  unfold getFrame
  rw [if_neg (by omega)]
  dsimp only
  rw [e2, hn, if_neg (by omega), if_neg (by omega), if_neg (by omega), e6, e4, hc]
  rw [if_neg (by have := hs.2; rw [Nat.mod_eq_of_lt (by omega)]; simp)]
theorem getFrame_cut (t : List UInt8) (m : Nat) (h1 : 1 ≤ t.length) (h2 : t.length ≤ 4096) (hm : m < (frameL t).length) : getFrame ((frameL t).take m) = .error 3 := by
  rw [frameL_length] at hm
  have hlen : ((frameL t).take m).length = m := by rw [List.length_take, frameL_length]; omega
  unfold getFrame
  by_cases h : m < 2
  · rw [if_pos (by omega)]
  · rw [if_neg (by omega)]
    dsimp only
    have e2 : ((frameL t).take m).take 2 = Pl.putL 2 t.length := by
      rw [List.take_take, Nat.min_eq_left (by omega)]
      have := frame_parts t []
      rw [List.append_nil] at this
      rw [this]; exact take_at _ _ 2 (by simp)
    have hn : Pl.getL (Pl.putL 2 t.length) = t.length := by rw [Pl.getL_putL]; exact Nat.mod_eq_of_lt (by omega)
    rw [e2, hn, if_neg (by omega), if_neg (by omega), if_pos (by omega)]
theorem framesL_cons (t : List UInt8) (ts : List (List UInt8)) : framesL (t :: ts) = frameL t ++ framesL ts := by simp [framesL]
/-- What is read of frames, and of a beginning of one more. -/
theorem allL_frames (r : List UInt8) (hr : (allL r).1 = []) : ∀ ts : List (List UInt8), (∀ t ∈ ts, 1 ≤ t.length ∧ t.length ≤ 4096) → (allL (framesL ts ++ r)).1 = ts := by
  intro ts
  induction ts with
  | nil => intro _; simpa [framesL] using hr
  | cons t ts ih =>
    intro h
    have ht := h t (by simp)
    have hg := getFrame_frame t (framesL ts ++ r) ht.1 ht.2
    rw [framesL_cons, List.append_assoc, allL_ok hg]
    have e : (frameL t ++ (framesL ts ++ r)).drop (6 + t.length) = framesL ts ++ r := drop_at _ _ _ (by rw [frameL_length]; omega)
    rw [e, ih (fun t h' => h t (by simp [h']))]
theorem allL_nil : (allL []).1 = [] := by
  have : getFrame [] = .error 3 := by unfold getFrame; rw [if_pos (by simp)]
  rw [allL_err this]
theorem allL_cut (t : List UInt8) (m : Nat) (h1 : 1 ≤ t.length) (h2 : t.length ≤ 4096) (hm : m < (frameL t).length) : (allL ((frameL t).take m)).1 = [] := by
  rw [allL_err (getFrame_cut t m h1 h2 hm)]

/-- A head tells what it was made of. -/
theorem parseH_head (g h : Nat) (hg : 1 ≤ g) (hg2 : g < 281474976710656) (hh : h ≤ 1) : parseH (headL g h) = some (g, h) := by
  have e : headL g h = magicL ++ (Pl.putL 6 g ++ (Pl.putL 1 h ++ List.replicate 49 0)) := by simp [headL]
  have e8 : ((headL g h).drop 8).take 6 = Pl.putL 6 g := by rw [e, drop_at _ _ 8 rfl]; exact take_at _ _ 6 (by simp)
  have hn : Pl.getL (Pl.putL 6 g) = g := by rw [Pl.getL_putL]; exact Nat.mod_eq_of_lt hg2
  have e14 : ((headL g h).getD 14 0).toNat = h := by
    have : (headL g h).drop 14 = Pl.putL 1 h ++ List.replicate 49 0 := by
      rw [e, show (14 : Nat) = 8 + 6 from rfl, ← List.drop_drop, drop_at _ _ 8 rfl, drop_at _ _ 6 (by simp)]
    rw [List.getD_eq_getElem?_getD]
    have h0 : (headL g h)[14]? = ((headL g h).drop 14)[0]? := by rw [List.getElem?_drop]
    rw [h0, this]
    rcases Nat.le_one_iff_eq_zero_or_eq_one.1 hh with rfl | rfl <;> rfl
  unfold parseH
  dsimp only
  rw [e8, hn, e14, if_neg (by omega), if_neg (by omega), if_pos rfl]
end Go.Proofs.YtepnbfpclhincaaDoor

namespace Go.Proofs.YtepnbfpclhincaaDoor
open Go.RowKit

theorem cell_parts (g i : Nat) (d : List UInt8) : cellL g i d = Pl.putL 6 g ++ (Pl.putL 2 i ++ (Pl.putL 1 d.length ++ (d ++ List.replicate (55 - d.length) 0))) := by simp [cellL]
theorem parseL_cell (g i : Nat) (d : List UInt8) (hg : 1 ≤ g) (hg2 : g < 281474976710656) (hi : i < 65536) (hd : d.length ≤ 55) : parseL (cellL g i d) = some (g, i, d) := by
  have hl := cellL_length g i d hd
  have e6 : (cellL g i d).take 6 = Pl.putL 6 g := by rw [cell_parts]; exact take_at _ _ 6 (by simp)
  have hn : Pl.getL (Pl.putL 6 g) = g := by rw [Pl.getL_putL]; exact Nat.mod_eq_of_lt hg2
  have d6 : (cellL g i d).drop 6 = Pl.putL 2 i ++ (Pl.putL 1 d.length ++ (d ++ List.replicate (55 - d.length) 0)) := by rw [cell_parts]; exact drop_at _ _ 6 (by simp)
  have e2 : ((cellL g i d).drop 6).take 2 = Pl.putL 2 i := by rw [d6]; exact take_at _ _ 2 (by simp)
  have hi2 : Pl.getL (Pl.putL 2 i) = i := by rw [Pl.getL_putL]; exact Nat.mod_eq_of_lt hi
  have d8 : (cellL g i d).drop 8 = Pl.putL 1 d.length ++ (d ++ List.replicate (55 - d.length) 0) := by
    rw [show (8 : Nat) = 6 + 2 from rfl, ← List.drop_drop, d6]; exact drop_at _ _ 2 (by simp)
  have d9 : (cellL g i d).drop 9 = d ++ List.replicate (55 - d.length) 0 := by
    rw [show (9 : Nat) = 8 + 1 from rfl, ← List.drop_drop, d8]; exact drop_at _ _ 1 (by simp)
  have e8 : ((cellL g i d).getD 8 0).toNat = d.length := by
    rw [List.getD_eq_getElem?_getD]
    have h0 : (cellL g i d)[8]? = ((cellL g i d).drop 8)[0]? := by rw [List.getElem?_drop]
    rw [h0, d8]
    simp [Pl.putL]; omega
  have d9n : (cellL g i d).drop (9 + d.length) = List.replicate (55 - d.length) 0 := by
    rw [← List.drop_drop, d9]; exact drop_at _ _ _ rfl
  unfold parseL
  rw [if_neg (by simp [hl])]
  dsimp only
  rw [e6, hn, e8, if_neg (by omega), if_neg (by omega), d9n, if_neg (by simp), e2, hi2, d9, take_at _ _ _ rfl]

theorem joinL_cell (g k : Nat) (d : List UInt8) (r : List (List UInt8)) (hg : 1 ≤ g) (hg2 : g < 281474976710656) (hi : k < 65536) (hd : d.length ≤ 55) : joinL g k (cellL g k d :: r) = if d.length < 55 then d else d ++ joinL g (k + 1) r := by
  rw [joinL, parseL_cell g k d hg hg2 hi hd]; simp
/-- A sector that is no cell of the generation at the index. -/
def Stray (g k : Nat) (s : List UInt8) : Prop := ∀ d, parseL s ≠ some (g, k, d)
theorem joinL_stray (g k : Nat) (s : List UInt8) (r : List (List UInt8)) (h : Stray g k s) : joinL g k (s :: r) = [] := by
  rw [joinL]
  cases hp : parseL s with
  | none => rfl
  | some y =>
    obtain ⟨g', i, d⟩ := y
    dsimp only
    by_cases e : g' = g ∧ i = k
    · obtain ⟨rfl, rfl⟩ := e; exact absurd hp (h d)
    · rw [if_neg e]
/-- Sectors of which each is a cell of the data, or a stray one, hold a beginning of it. -/
theorem joinL_mix (g : Nat) (hg : 1 ≤ g) (hg2 : g < 281474976710656) : ∀ (xs : List (List UInt8)) (k : Nat) (D : List UInt8), k + xs.length ≤ 65536 →
    (∀ j s, xs[j]? = some s → (splitL g k D)[j]? = some s ∨ Stray g (k + j) s) → ∃ m, joinL g k xs = D.take m := by
  intro xs
  induction xs with
  | nil => intro k D _ _; exact ⟨0, by simp [joinL]⟩
  | cons s r ih =>
    intro k D hk h
    simp only [List.length_cons] at hk
    rcases h 0 s (by simp) with h0 | h0
    · by_cases hd : D.length < 55
      · rw [splitL_lt hd] at h0
        simp at h0
        subst h0
        rw [joinL_cell g k D r hg hg2 (by omega) (by omega), if_pos hd]
        exact ⟨D.length, by simp⟩
      · rw [splitL_ge hd] at h0
        simp at h0
        subst h0
        have hl : (D.take 55).length = 55 := by rw [List.length_take]; omega
        rw [joinL_cell g k _ r hg hg2 (by omega) (by omega), if_neg (by omega)]
        obtain ⟨m, hm⟩ := ih (k + 1) (D.drop 55) (by omega) (fun j s hj => by
          have := h (j + 1) s (by simpa using hj)
          rw [splitL_ge hd] at this
          rw [show k + 1 + j = k + (j + 1) by omega]
          simpa using this)
        refine ⟨55 + m, ?_⟩
        rw [hm, List.take_add]
    · exact ⟨0, by rw [joinL_stray g k s r (by simpa using h0)]; simp⟩
/-- The same, where the first sector is a cell of the data: at least that is there. -/
theorem joinL_mix1 (g : Nat) (hg : 1 ≤ g) (hg2 : g < 281474976710656) (xs : List (List UInt8)) (k : Nat) (D : List UInt8) (hk : k + xs.length ≤ 65536)
    (h0 : xs[0]? = (splitL g k D)[0]?) (h : ∀ j s, xs[j]? = some s → (splitL g k D)[j]? = some s ∨ Stray g (k + j) s) : ∃ m, min 55 D.length ≤ m ∧ joinL g k xs = D.take m := by
  cases xs with
  | nil =>
    exfalso
    by_cases hd : D.length < 55
    · rw [splitL_lt hd] at h0; simp at h0
    · rw [splitL_ge hd] at h0; simp at h0
  | cons s r =>
    simp only [List.length_cons] at hk
    by_cases hd : D.length < 55
    · rw [splitL_lt hd] at h0
      simp at h0
      subst h0
      rw [joinL_cell g k D r hg hg2 (by omega) (by omega), if_pos hd]
      exact ⟨D.length, by omega, by simp⟩
    · rw [splitL_ge hd] at h0
      simp at h0
      subst h0
      have hl : (D.take 55).length = 55 := by rw [List.length_take]; omega
      rw [joinL_cell g k _ r hg hg2 (by omega) (by omega), if_neg (by omega)]
      obtain ⟨m, hm⟩ := joinL_mix g hg hg2 r (k + 1) (D.drop 55) (by omega) (fun j s hj => by
        have := h (j + 1) s (by simpa using hj)
        rw [splitL_ge hd] at this
        rw [show k + 1 + j = k + (j + 1) by omega]
        simpa using this)
      refine ⟨55 + m, by omega, ?_⟩
      rw [hm, List.take_add]
theorem joinL_split (g : Nat) (hg : 1 ≤ g) (hg2 : g < 281474976710656) (r : List (List UInt8)) : ∀ (n : Nat) (D : List UInt8) (k : Nat), D.length = n → k + n / 55 < 65536 → joinL g k (splitL g k D ++ r) = D := by
  intro n
  induction n using Nat.strongRecOn with
  | _ n ih =>
    intro D k hn hk
    by_cases hd : D.length < 55
    · rw [splitL_lt hd, List.singleton_append, joinL_cell g k D r hg hg2 (by omega) (by omega), if_pos hd]
    · have hl : (D.take 55).length = 55 := by rw [List.length_take]; omega
      rw [splitL_ge hd, List.cons_append, joinL_cell g k _ _ hg hg2 (by omega) (by omega), if_neg (by omega), ih (n - 55) (by omega) (D.drop 55) (k + 1) (by rw [List.length_drop]; omega) (by omega), List.take_append_drop]
/-- Whole cells, then what follows. -/
theorem joinL_full (g : Nat) (hg : 1 ≤ g) (hg2 : g < 281474976710656) (r : List (List UInt8)) : ∀ (q : Nat) (D : List UInt8) (k : Nat), 55 * q ≤ D.length → k + q < 65536 → joinL g k ((splitL g k D).take q ++ r) = D.take (55 * q) ++ joinL g (k + q) r := by
  intro q
  induction q with
  | zero => intro D k _ _; simp
  | succ q ih =>
    intro D k hq hk
    have hd : ¬ D.length < 55 := by omega
    have hl : (D.take 55).length = 55 := by rw [List.length_take]; omega
    rw [splitL_ge hd, List.take_succ_cons, List.cons_append, joinL_cell g k _ _ hg hg2 (by omega) (by omega), if_neg (by omega), ih (D.drop 55) (k + 1) (by rw [List.length_drop]; omega) (by omega)]
    rw [show 55 * (q + 1) = 55 + 55 * q by omega, List.take_add, List.append_assoc, show k + 1 + q = k + (q + 1) by omega]
/-- The cells of data with more behind it. -/
theorem splitL_more (g : Nat) : ∀ (q : Nat) (d f : List UInt8) (k : Nat), d.length / 55 = q → splitL g k (d ++ f) = (splitL g k d).take q ++ splitL g (k + q) ((d ++ f).drop (q * 55)) := by
  intro q
  induction q with
  | zero => intro d f k _; simp
  | succ q ih =>
    intro d f k hq
    have hd : ¬ d.length < 55 := by omega
    have hd2 : ¬ (d ++ f).length < 55 := by rw [List.length_append]; omega
    have e1 : (d ++ f).take 55 = d.take 55 := by rw [List.take_append_of_le_length (by omega)]
    have e2 : (d ++ f).drop 55 = d.drop 55 ++ f := by rw [List.drop_append_of_le_length (by omega)]
    rw [splitL_ge hd2, splitL_ge hd, e1, e2, ih (d.drop 55) f (k + 1) (by rw [List.length_drop]; omega), List.take_succ_cons, List.cons_append]
    rw [show k + 1 + q = k + (q + 1) by omega, show (q + 1) * 55 = 55 + q * 55 by omega, ← List.drop_drop, e2]
end Go.Proofs.YtepnbfpclhincaaDoor

namespace Go.Proofs.YtepnbfpclhincaaDoor
open Go.RowKit

/-- The half of a stream. -/
def rowL (l : List (List UInt8)) (half sz : Nat) : List (List UInt8) := (l.drop (1 + half * sz)).take sz
structure Holds (l : List (List UInt8)) (S : StM) (ts : List (List UInt8)) : Prop where
  okay : S.okay l
  l64 : ∀ s ∈ l, s.length = 64
  sz : S.sz = openH l
  head : l[0]? = some (headL S.gen S.half)
  data : S.data = framesL ts
  ts : ∀ t ∈ ts, 1 ≤ t.length ∧ t.length ≤ 4096
  row : ∃ rest, rowL l S.half S.sz = splitL S.gen 0 S.data ++ rest ∧ ∀ j s, rest[j]? = some s → Stray S.gen ((splitL S.gen 0 S.data).length + j) s
  newest : openNew l ≤ S.gen

theorem Holds.parse {l : List (List UInt8)} {S : StM} {ts : List (List UInt8)} (h : Holds l S ts) : parseH (l.getD 0 []) = some (S.gen, S.half) := by
  rw [List.getD_eq_getElem?_getD, h.head]
  have := h.okay.gen2
  exact parseH_head _ _ h.okay.gen1 (by omega) h.okay.half
theorem Holds.join {l : List (List UInt8)} {S : StM} {ts : List (List UInt8)} (h : Holds l S ts) : openJoin l = S.data := by
  unfold openJoin
  rw [h.parse]
  dsimp only
  obtain ⟨rest, hr, -⟩ := h.row
  have : ((l.drop (1 + S.half * openH l)).take (openH l)) = splitL S.gen 0 S.data ++ rest := by rw [← h.sz]; exact hr
  rw [this]
  have hd := h.okay.data; have h2 := h.okay.sz2; have hg := h.okay.gen2
  exact joinL_split S.gen h.okay.gen1 (by omega) rest _ _ 0 rfl (by omega)
theorem Holds.open {l : List (List UInt8)} {S : StM} {ts : List (List UInt8)} (h : Holds l S ts) : openRecs l = ts ∧ openS l = ⟨S.sz, S.gen, S.half, [], false⟩ := by
  constructor
  · unfold openRecs
    rw [h.parse]
    dsimp only
    rw [h.join, h.data]
    have := allL_frames [] allL_nil ts h.ts
    rwa [List.append_nil] at this
  · unfold openS
    rw [h.parse]
    dsimp only
    have := h.newest
    rw [Nat.max_eq_left this, h.sz]
theorem newestL_le {l : List (List UInt8)} {G : Nat} : newestL l ≤ G ↔ ∀ s ∈ l, ∀ g i d, parseL s = some (g, i, d) → g ≤ G := by
  have aux : ∀ (n : Nat) (l : List (List UInt8)), l.length = n → (newestL l ≤ G ↔ ∀ s ∈ l, ∀ g i d, parseL s = some (g, i, d) → g ≤ G) := by
    intro n
    induction n with
    | zero => intro l hl; rw [List.length_eq_zero_iff] at hl; subst hl; simp [newestL]
    | succ n ih =>
      intro l hl
      obtain ⟨r, s, rfl⟩ : ∃ r s, l = r ++ [s] := ⟨l.dropLast, l.getLast (by intro e; simp [e] at hl), (List.dropLast_concat_getLast _).symm⟩
      have hr := ih r (by simpa using hl)
      rw [newestL_snoc]
      constructor
      · intro h s' hs' g i d hp
        rcases List.mem_append.1 hs' with hs' | hs'
        · cases hq : parseL s with
          | none => rw [hq] at h; exact hr.1 h s' hs' g i d hp
          | some y =>
            obtain ⟨g', i', d'⟩ := y
            rw [hq] at h
            dsimp only at h
            exact hr.1 (Nat.max_le.1 h).1 s' hs' g i d hp
        · simp at hs'; subst hs'
          rw [hp] at h; exact (Nat.max_le.1 h).2
      · intro h
        have h1 := hr.2 (fun s' hs' => h s' (by simp [hs']))
        cases hq : parseL s with
        | none => exact h1
        | some y =>
          obtain ⟨g', i', d'⟩ := y
          exact Nat.max_le.2 ⟨h1, h s (by simp) g' i' d' hq⟩
  exact aux _ l rfl
end Go.Proofs.YtepnbfpclhincaaDoor

namespace Go.Proofs.YtepnbfpclhincaaDoor
open Go.RowKit

theorem over_get (cs : List (List UInt8)) : ∀ (l : List (List UInt8)) (base s : Nat), base + cs.length ≤ l.length → (over l base cs)[s]? = if base ≤ s ∧ s < base + cs.length then cs[s - base]? else l[s]? := by
  induction cs with
  | nil => intro l base s _; rw [over, if_neg (by simp <;> omega)]
  | cons c cs ih =>
    intro l base s h
    simp only [List.length_cons] at h ⊢
    rw [over, ih _ _ _ (by rw [List.length_set]; omega), List.getElem?_set]
    by_cases h1 : base + 1 ≤ s ∧ s < base + 1 + cs.length
    · rw [if_pos h1, if_pos (by omega), show s - base = (s - (base + 1)) + 1 by omega]; simp
    · rw [if_neg h1]
      by_cases h2 : base = s
      · subst h2
        rw [if_pos rfl, if_pos (by omega), if_pos (by omega)]; simp
      · rw [if_neg h2, if_neg (by omega)]
theorem rowL_get (l : List (List UInt8)) (half sz j : Nat) : (rowL l half sz)[j]? = if j < sz then l[1 + half * sz + j]? else none := by
  unfold rowL; rw [List.getElem?_take]
  split
  · rw [List.getElem?_drop]
  · rfl
theorem splitL_mem (g : Nat) : ∀ (n : Nat) (d : List UInt8) (i : Nat), d.length = n → ∀ c ∈ splitL g i d, ∃ j e, c = cellL g j e ∧ e.length ≤ 55 ∧ j ≤ i + n / 55 := by
  intro n
  induction n using Nat.strongRecOn with
  | _ n ih =>
    intro d i h c hc
    by_cases hd : d.length < 55
    · rw [splitL_lt hd] at hc; simp at hc; exact ⟨i, d, hc, by omega, by omega⟩
    · rw [splitL_ge hd] at hc
      rcases List.mem_cons.1 hc with rfl | hc
      · exact ⟨i, _, rfl, by rw [List.length_take]; omega, by omega⟩
      · obtain ⟨j, e, h1, h2, h3⟩ := ih (n - 55) (by omega) (d.drop 55) (i + 1) (by rw [List.length_drop]; omega) c hc
        exact ⟨j, e, h1, h2, by omega⟩
theorem splitL_gen {g i : Nat} {d c : List UInt8} (hg : 1 ≤ g) (hg2 : g < 281474976710656) (hi : i + d.length / 55 < 65536) (hc : c ∈ splitL g i d) {g' i' : Nat} {d' : List UInt8} (hp : parseL c = some (g', i', d')) : g' = g := by
  obtain ⟨j, e, rfl, h2, h3⟩ := splitL_mem g _ d i rfl c hc
  rw [parseL_cell g j e hg hg2 (by omega) h2] at hp
  injection hp with hp; injection hp with hp _; exact hp.symm
theorem openH_eq {l l' : List (List UInt8)} (h : l'.length = l.length) : openH l' = openH l := by unfold openH; rw [h]
/-- What generations there may be behind writes. -/
theorem SecUpd.newest {l l' : List (List UInt8)} {base G : Nat} {cs : List (List UInt8)} (h : SecUpd l l' base cs) (hl : openNew l ≤ G) (hc : ∀ c ∈ cs, ∀ g i d, parseL c = some (g, i, d) → g ≤ G) : openNew l' ≤ G := by
  unfold openNew at *
  rw [newestL_le] at hl ⊢
  intro s hs g i d hp
  obtain ⟨j, hj⟩ := List.mem_iff_getElem?.1 hs
  rw [List.getElem?_take] at hj
  split at hj
  · rename_i hjl
    rw [List.getElem?_drop] at hj
    rcases h.2 (1 + j) with h1 | ⟨k, c, e, hk, h1⟩
    · refine hl s (List.mem_iff_getElem?.2 ⟨j, ?_⟩) g i d hp
      rw [List.getElem?_take, if_pos (by rw [← openH_eq h.1]; exact hjl), List.getElem?_drop, ← h1]; exact hj
    · rw [hj] at h1
      injection h1 with h1; subst h1
      exact hc s (List.mem_of_getElem? hk) g i d hp
  · cases hj
theorem openNew_set (l : List (List UInt8)) (x : List UInt8) : openNew (l.set 0 x) = openNew l := by
  unfold openNew
  rw [openH_eq (List.length_set ..)]
  congr 2
  apply List.ext_getElem?; intro i
  rw [List.getElem?_drop, List.getElem?_drop, List.getElem?_set, if_neg (by omega)]
theorem SecUpd.l64 {l l' : List (List UInt8)} {base : Nat} {cs : List (List UInt8)} (h : SecUpd l l' base cs) (hl : ∀ s ∈ l, s.length = 64) (hc : ∀ c ∈ cs, c.length = 64) : ∀ s ∈ l', s.length = 64 := by
  intro s hs
  obtain ⟨j, hj⟩ := List.mem_iff_getElem?.1 hs
  rcases h.2 j with h1 | ⟨k, c, e, hk, h1⟩
  · rw [hj] at h1; exact hl s (List.mem_iff_getElem?.2 ⟨j, h1.symm⟩)
  · rw [hj] at h1; injection h1 with h1; subst h1; exact hc s (List.mem_of_getElem? hk)
end Go.Proofs.YtepnbfpclhincaaDoor

namespace Go.Proofs.YtepnbfpclhincaaDoor
open Go.RowKit

theorem stray_of_newest {l : List (List UInt8)} {G k : Nat} (h : openNew l ≤ G) {i : Nat} {s : List UInt8} (hi : 1 ≤ i) (hi2 : i < 1 + 2 * openH l) (hs : l[i]? = some s) : Stray (G + 1) k s := by
  intro d hp
  have := newestL_le.1 h s (List.mem_iff_getElem?.2 ⟨i - 1, by
    rw [List.getElem?_take, if_pos (by omega), List.getElem?_drop, show 1 + (i - 1) = i by omega]; exact hs⟩) _ _ _ hp
  omega
theorem resCells_len {S : StM} {ts : List (List UInt8)} (h1 : 1 ≤ S.sz) (hT : (framesL ts).length ≤ S.sz * 55 - 1) : (resCells S ts).length ≤ S.sz := by
  unfold resCells; rw [splitL_length _ _ _ _ rfl]; omega
theorem resCells_gen {S : StM} {ts : List (List UInt8)} (hg : S.gen < 281474976710655) (h2 : S.sz ≤ 2047) (hT : (framesL ts).length ≤ S.sz * 55 - 1) : ∀ c ∈ resCells S ts, ∀ g i d, parseL c = some (g, i, d) → g ≤ S.gen + 1 := by
  intro c hc g i d hp
  have := splitL_gen (g := S.gen + 1) (by omega) (by omega) (by omega) hc hp
  omega
theorem Holds.of_reset {l : List (List UInt8)} {S : StM} {ts : List (List UInt8)} (hc : S.can l) (hsz : S.sz = openH l) (h64 : ∀ s ∈ l, s.length = 64) (hn : openNew l ≤ S.gen) (hg : S.gen < 281474976710655)
    (ht : ∀ t ∈ ts, 1 ≤ t.length ∧ t.length ≤ 4096) (hT : (framesL ts).length ≤ S.sz * 55 - 1) :
    Holds ((over l (resBase S) (resCells S ts)).set 0 (resHead S)) (S.reset ts) ts := by
  have h1 := hc.sz1; have h2 := hc.sz2; have hh := hc.half; have hlen := hc.len; have hlen2 := hc.len2
  have hcl := resCells_len h1 hT
  have hb := half_le (half := 1 - S.half) (sz := S.sz) (by omega)
  have hbase : resBase S = 1 + (1 - S.half) * S.sz := rfl
  have hin : resBase S + (resCells S ts).length ≤ l.length := by rw [hbase]; omega
  have hup := SecUpd.over l (resBase S) (resCells S ts)
  have hll : ((over l (resBase S) (resCells S ts)).set 0 (resHead S)).length = l.length := by rw [List.length_set, over_length]
  refine ⟨⟨h1, h2, by show 1 - S.half ≤ 1; omega, by show 1 ≤ S.gen + 1; omega, by show S.gen + 1 ≤ _; omega, hT, hc.broken, by rw [hll]; exact hlen, by rw [hll]; exact hlen2⟩, ?_, ?_, ?_, rfl, ht, ?_, ?_⟩
  · have h64' := hup.l64 h64 (splitL_64 _ _ _ _ rfl)
    intro s hs
    rcases List.mem_or_eq_of_mem_set hs with hs | rfl
    · exact h64' s hs
    · exact headL_length _ _
  · rw [openH_eq hll]; exact hsz
  · rw [List.getElem?_set, if_pos rfl, if_pos (by rw [over_length]; omega)]; rfl
  · refine ⟨(rowL l (1 - S.half) S.sz).drop (resCells S ts).length, ?_, fun j s hj => ?_⟩
    · show rowL ((over l (resBase S) (resCells S ts)).set 0 (resHead S)) (1 - S.half) S.sz = resCells S ts ++ _
      apply List.ext_getElem?
      intro j
      rw [rowL_get, List.getElem?_append]
      by_cases hj : j < S.sz
      · rw [if_pos hj, List.getElem?_set, if_neg (by omega), over_get _ _ _ _ hin, hbase]
        by_cases hjc : j < (resCells S ts).length
        · rw [if_pos (by omega), if_pos hjc, show 1 + (1 - S.half) * S.sz + j - (1 + (1 - S.half) * S.sz) = j by omega]
        · rw [if_neg (by omega), if_neg hjc, List.getElem?_drop, rowL_get, if_pos (by omega), show (resCells S ts).length + (j - (resCells S ts).length) = j by omega]
      · rw [if_neg hj, if_neg (by omega), List.getElem?_drop, rowL_get, if_neg (by omega)]
    · rw [List.getElem?_drop, rowL_get] at hj
      split at hj
      · exact stray_of_newest hn (by omega) (by rw [← hsz]; omega) hj
      · cases hj
  · rw [openNew_set]
    exact hup.newest (G := S.gen + 1) (by omega) (resCells_gen hg h2 hT)

/-- Behind a Reset that was cut off ahead of its head: what is found is what was. -/
theorem cut_reset {l l1 : List (List UInt8)} {S : StM} {cs : List (List UInt8)} (hS : S.half = (openS l).half) (hsz : S.sz = openH l) (hh : S.half ≤ 1) (hlo : 3 ≤ l.length) (hcs : cs.length ≤ S.sz) (hu : SecUpd l l1 (resBase S) cs) :
    openRecs l1 = openRecs l ∧ openH l1 = openH l ∧ parseH (l1.getD 0 []) = parseH (l.getD 0 []) := by
  have hH := openH_eq hu.1
  have hbase : resBase S = 1 + (1 - S.half) * S.sz := rfl
  have h0 : l1.getD 0 [] = l.getD 0 [] := by
    rw [List.getD_eq_getElem?_getD, List.getD_eq_getElem?_getD]
    rcases hu.2 0 with h | ⟨i, c, e, -, -⟩
    · rw [h]
    · rw [hbase] at e; omega
  refine ⟨?_, hH, by rw [h0]⟩
  unfold openRecs openJoin
  rw [h0]
  cases hp : parseH (l.getD 0 []) with
  | none => rfl
  | some y =>
    obtain ⟨g, half⟩ := y
    dsimp only
    have hhalf : S.half = half := by rw [hS]; unfold openS; rw [hp]
    rw [hH]
    have : (l1.drop (1 + half * openH l)).take (openH l) = (l.drop (1 + half * openH l)).take (openH l) := by
      show rowL l1 half (openH l) = rowL l half (openH l)
      apply List.ext_getElem?
      intro j
      rw [rowL_get, rowL_get]
      by_cases hj : j < openH l
      · rw [if_pos hj, if_pos hj]
        rcases hu.2 (1 + half * openH l + j) with h | ⟨i, c, e, hc, -⟩
        · exact h
        · exfalso
          have := getElem?_lt hc
          rw [hbase, hhalf, hsz] at e
          have h1 : half = 0 ∨ half = 1 := by omega
          rcases h1 with rfl | rfl
          · simp at e; omega
          · simp at e; omega
      · rw [if_neg hj, if_neg hj]
    rw [this]
end Go.Proofs.YtepnbfpclhincaaDoor

namespace Go.Proofs.YtepnbfpclhincaaDoor
open Go.RowKit

theorem splitL_last (g : Nat) (d : List UInt8) (k : Nat) : splitL g k d = (splitL g k d).take (d.length / 55) ++ [cellL g (k + d.length / 55) (d.drop (d.length / 55 * 55))] := by
  have h := splitL_more g (d.length / 55) d [] k rfl
  rw [List.append_nil] at h
  rw [splitL_lt (d := d.drop (d.length / 55 * 55)) (by rw [List.length_drop]; omega)] at h
  exact h
theorem appCells_len (S : StM) (b : List UInt8) : (appCells S b).length = (S.data.length + (b.length + 6) - S.data.length / 55 * 55) / 55 + 1 := by
  unfold appCells
  exact splitL_length _ _ _ _ (by rw [List.length_drop, List.length_append, frameL_length])
theorem appCode_zero {S : StM} {n : Nat} (hc : appCode S n = 0) : 1 ≤ n ∧ n ≤ 4096 ∧ n + 6 ≤ S.sz * 55 - 1 - S.data.length := by
  unfold appCode at hc
  by_cases h0 : n = 0
  · rw [if_pos h0] at hc; cases hc
  · rw [if_neg h0] at hc
    by_cases h1 : 4096 < n
    · rw [if_pos h1] at hc; cases hc
    · rw [if_neg h1] at hc
      by_cases h2 : S.sz * 55 - 1 - S.data.length < n + 6
      · rw [if_pos h2] at hc; cases hc
      · exact ⟨by omega, by omega, by omega⟩
theorem appCells_gen {S : StM} {b : List UInt8} (h1 : 1 ≤ S.gen) (h2 : S.gen ≤ 281474976710655) (hs : S.sz ≤ 2047) (hd : S.data.length + (b.length + 6) ≤ S.sz * 55 - 1) : ∀ c ∈ appCells S b, ∀ g i d, parseL c = some (g, i, d) → g ≤ S.gen := by
  intro c hc g i d hp
  have := splitL_gen (g := S.gen) (i := S.data.length / 55) (d := (S.data ++ frameL b).drop (S.data.length / 55 * 55)) h1 (by omega) (by rw [List.length_drop, List.length_append, frameL_length]; omega) hc hp
  omega
theorem app_in {l : List (List UInt8)} {S : StM} (ho : S.okay l) {b : List UInt8} (hd : S.data.length + (b.length + 6) ≤ S.sz * 55 - 1) : S.data.length / 55 + (appCells S b).length ≤ S.sz ∧ appBase S + (appCells S b).length ≤ l.length := by
  have h1 := appCells_len S b
  have h2 := half_le (sz := S.sz) ho.half
  have h3 := ho.len
  have h4 : appBase S = 1 + S.half * S.sz + S.data.length / 55 := rfl
  omega

theorem Holds.append {l : List (List UInt8)} {S : StM} {ts : List (List UInt8)} (h : Holds l S ts) (b : List UInt8) (hc : appCode S b.length = 0) :
    Holds (over l (appBase S) (appCells S b)) (S.with (S.data ++ frameL b)) (ts ++ [b]) := by
  obtain ⟨hb1, hb2, hb3⟩ := appCode_zero hc
  have hd := h.okay.data
  have hd2 : S.data.length + (b.length + 6) ≤ S.sz * 55 - 1 := by omega
  obtain ⟨hi1, hi2⟩ := app_in h.okay hd2
  have hup := SecUpd.over l (appBase S) (appCells S b)
  have hll : (over l (appBase S) (appCells S b)).length = l.length := over_length _ _ _
  have hab : appBase S = 1 + S.half * S.sz + S.data.length / 55 := rfl
  refine ⟨⟨h.okay.sz1, h.okay.sz2, h.okay.half, h.okay.gen1, h.okay.gen2, ?_, h.okay.broken, by rw [hll]; exact h.okay.len, by rw [hll]; exact h.okay.len2⟩, ?_, ?_, ?_, ?_, ?_, ?_, ?_⟩
  · show (S.data ++ frameL b).length ≤ S.sz * 55 - 1
    rw [List.length_append, frameL_length]; omega
  · exact hup.l64 h.l64 (splitL_64 _ _ _ _ rfl)
  · rw [openH_eq hll]; exact h.sz
  · rw [over_get _ _ _ _ hi2, if_neg (by omega)]; exact h.head
  · show S.data ++ frameL b = framesL (ts ++ [b])
    rw [framesL_snoc, h.data]
  · intro t ht
    rcases List.mem_append.1 ht with ht | ht
    · exact h.ts t ht
    · simp at ht; subst ht; exact ⟨hb1, hb2⟩
  · obtain ⟨rest, hr, hst⟩ := h.row
    have hm := splitL_more S.gen _ S.data (frameL b) 0 rfl
    rw [Nat.zero_add] at hm
    have hsl : (splitL S.gen 0 S.data).length = S.data.length / 55 + 1 := splitL_length _ _ _ _ rfl
    have htl : ((splitL S.gen 0 S.data).take (S.data.length / 55)).length = S.data.length / 55 := by rw [List.length_take, hsl]; omega
    have hnl : (splitL S.gen 0 (S.data ++ frameL b)).length = S.data.length / 55 + (appCells S b).length := by
      rw [hm, List.length_append, htl]; rfl
    have hal := appCells_len S b
    refine ⟨rest.drop ((appCells S b).length - 1), ?_, fun j s hj => ?_⟩
    · show rowL (over l (appBase S) (appCells S b)) S.half S.sz = splitL S.gen 0 (S.data ++ frameL b) ++ _
      apply List.ext_getElem?
      intro j
      have hrow := congrArg (fun x => x[j]?) hr
      simp only [rowL_get, List.getElem?_append, hsl] at hrow
      rw [rowL_get, List.getElem?_append, hnl, over_get _ _ _ _ hi2, hab]
      by_cases hj : j < S.sz
      · rw [if_pos hj] at hrow ⊢
        by_cases h1 : j < S.data.length / 55
        · rw [if_neg (by omega), if_pos (by omega), hm, List.getElem?_append, if_pos (by omega), List.getElem?_take, if_pos h1, hrow, if_pos (by omega)]
        · by_cases h2 : j < S.data.length / 55 + (appCells S b).length
          · rw [if_pos (by omega), if_pos h2, hm, List.getElem?_append, if_neg (by omega), htl, show 1 + S.half * S.sz + j - (1 + S.half * S.sz + S.data.length / 55) = j - S.data.length / 55 by omega]
            rfl
          · rw [if_neg (by omega), if_neg h2, hrow, if_neg (by omega), List.getElem?_drop, show (appCells S b).length - 1 + (j - (S.data.length / 55 + (appCells S b).length)) = j - (S.data.length / 55 + 1) by omega]
      · rw [if_neg hj] at hrow ⊢
        rw [if_neg (by omega), List.getElem?_drop, show (appCells S b).length - 1 + (j - (S.data.length / 55 + (appCells S b).length)) = j - (S.data.length / 55 + 1) by omega]
        rw [if_neg (by omega)] at hrow
        exact hrow
    · rw [List.getElem?_drop] at hj
      have := hst _ s hj
      show Stray S.gen ((splitL S.gen 0 (S.data ++ frameL b)).length + j) s
      rw [hnl]
      rw [hsl] at this
      rwa [show S.data.length / 55 + 1 + ((appCells S b).length - 1 + j) = S.data.length / 55 + (appCells S b).length + j by omega] at this
  · exact hup.newest h.newest (appCells_gen h.okay.gen1 h.okay.gen2 h.okay.sz2 hd2)
end Go.Proofs.YtepnbfpclhincaaDoor

namespace Go.Proofs.YtepnbfpclhincaaDoor
open Go.RowKit

/-- Behind an Append that was cut off: what was told, and perhaps the one that was not. -/
theorem Holds.cut_append {l l' : List (List UInt8)} {S : StM} {ts : List (List UInt8)} (h : Holds l S ts) (b : List UInt8) (hc : appCode S b.length = 0) (hu : SecUpd l l' (appBase S) (appCells S b)) :
    (openRecs l' = ts ∨ openRecs l' = ts ++ [b]) ∧ openNew l' ≤ S.gen ∧ parseH (l'.getD 0 []) = some (S.gen, S.half) ∧ (∀ s ∈ l', s.length = 64) ∧ openH l' = openH l := by
  obtain ⟨hb1, hb2, hb3⟩ := appCode_zero hc
  have hd := h.okay.data
  have hd2 : S.data.length + (b.length + 6) ≤ S.sz * 55 - 1 := by omega
  obtain ⟨hi1, hi2⟩ := app_in h.okay hd2
  have hab : appBase S = 1 + S.half * S.sz + S.data.length / 55 := rfl
  have hH := openH_eq hu.1
  have hg1 := h.okay.gen1
  have hg2 : S.gen < 281474976710656 := by have := h.okay.gen2; omega
  have hz2 := h.okay.sz2
  have h0 : l'.getD 0 [] = l.getD 0 [] := by
    rw [List.getD_eq_getElem?_getD, List.getD_eq_getElem?_getD]
    rcases hu.2 0 with h | ⟨i, c, e, -, -⟩
    · rw [h]
    · rw [hab] at e; omega
  have hph : parseH (l'.getD 0 []) = some (S.gen, S.half) := by rw [h0]; exact h.parse
  refine ⟨?_, hu.newest h.newest (appCells_gen h.okay.gen1 h.okay.gen2 h.okay.sz2 hd2), hph, hu.l64 h.l64 (splitL_64 _ _ _ _ rfl), hH⟩
  have key : ∃ m, m ≤ (frameL b).length ∧ joinL S.gen 0 (rowL l' S.half S.sz) = S.data ++ (frameL b).take m := by
    obtain ⟨rest, hr, hst⟩ := h.row
    obtain ⟨q, hq⟩ : ∃ q, q = S.data.length / 55 := ⟨_, rfl⟩
    have hsl : (splitL S.gen 0 S.data).length = q + 1 := by rw [hq]; exact splitL_length _ _ _ _ rfl
    have hlast := splitL_last S.gen S.data 0
    rw [Nat.zero_add, ← hq] at hlast
    rw [hsl] at hst
    rw [hab, ← hq] at hu
    rw [← hq] at hi1
    have hCe : appCells S b = splitL S.gen q ((S.data ++ frameL b).drop (q * 55)) := by unfold appCells; rw [hq]
    rw [hCe] at hu hi1
    have hDl : ((S.data ++ frameL b).drop (q * 55)).length = S.data.length + (b.length + 6) - q * 55 := by rw [List.length_drop, List.length_append, frameL_length]
    have hDe : (S.data ++ frameL b).drop (q * 55) = S.data.drop (q * 55) ++ frameL b := by rw [List.drop_append_of_le_length (by omega)]
    -- each sector of the half, old and new
    have hrow : ∀ j, j < S.sz → l[1 + S.half * S.sz + j]? = (splitL S.gen 0 S.data ++ rest)[j]? := fun j hj => by
      rw [← hr, rowL_get, if_pos hj]
    have hfull : rowL l' S.half S.sz = (splitL S.gen 0 S.data).take q ++ (rowL l' S.half S.sz).drop q := by
      have e : (rowL l' S.half S.sz).take q = (splitL S.gen 0 S.data).take q := by
        apply List.ext_getElem?
        intro j
        rw [List.getElem?_take, List.getElem?_take]
        by_cases hj : j < q
        · rw [if_pos hj, if_pos hj, rowL_get, if_pos (by omega)]
          rcases hu.2 (1 + S.half * S.sz + j) with h1 | ⟨i, c, e, -, -⟩
          · rw [h1, hrow j (by omega), List.getElem?_append, if_pos (by omega)]
          · omega
        · rw [if_neg hj, if_neg hj]
      rw [← e, List.take_append_drop]
    have htail : ∀ j, q + j < S.sz → ((rowL l' S.half S.sz).drop q)[j]? = (splitL S.gen 0 S.data ++ rest)[q + j]? ∨ ∃ c, (splitL S.gen q ((S.data ++ frameL b).drop (q * 55)))[j]? = some c ∧ ((rowL l' S.half S.sz).drop q)[j]? = some c := fun j hj => by
      rw [List.getElem?_drop, rowL_get, if_pos hj]
      rcases hu.2 (1 + S.half * S.sz + (q + j)) with h1 | ⟨i, c, e, hc, h1⟩
      · left; rw [h1, hrow _ hj]
      · right; exact ⟨c, by rw [show j = i by omega]; exact hc, h1⟩
    have htl : ((rowL l' S.half S.sz).drop q).length ≤ S.sz - q := by
      unfold rowL; rw [List.length_drop, List.length_take]; omega
    have hstray : ∀ j s, 1 ≤ j → (splitL S.gen 0 S.data ++ rest)[q + j]? = some s → Stray S.gen (q + j) s := fun j s hj hs => by
      rw [List.getElem?_append, if_neg (by omega), hsl] at hs
      have := hst _ s hs
      rwa [show q + 1 + (q + j - (q + 1)) = q + j by omega] at this
    rw [hfull, joinL_full S.gen hg1 hg2 _ q S.data 0 (by omega) (by omega), Nat.zero_add]
    have hq0 : (splitL S.gen 0 S.data ++ rest)[q]? = some (cellL S.gen q (S.data.drop (q * 55))) := by
      rw [List.getElem?_append, if_pos (by omega), hlast, List.getElem?_append, if_neg (by rw [List.length_take]; omega)]
      have : ((splitL S.gen 0 S.data).take q).length = q := by rw [List.length_take]; omega
      rw [this]; simp
    have hnew : ∀ x, (splitL S.gen q ((S.data ++ frameL b).drop (q * 55)))[0]? = some x → ((rowL l' S.half S.sz).drop q)[0]? = some x → ∃ m, m ≤ (frameL b).length ∧ S.data.take (55 * q) ++ joinL S.gen q ((rowL l' S.half S.sz).drop q) = S.data ++ (frameL b).take m := fun x hx1 hx2 => by
      obtain ⟨m, hm, he⟩ := joinL_mix1 S.gen hg1 hg2 ((rowL l' S.half S.sz).drop q) q ((S.data ++ frameL b).drop (q * 55)) (by omega) (by rw [hx1, hx2]) (fun j s hj => by
        have hjl := getElem?_lt hj
        rcases htail j (by omega) with h1 | ⟨c, h1, h2⟩
        · by_cases hj0 : j = 0
          · subst hj0; rw [hx2] at hj; injection hj with hj; subst hj; exact .inl hx1
          · right; rw [hj] at h1; exact hstray j s (by omega) h1.symm
        · left; rw [h1, ← h2, hj])
      have hml : S.data.length - q * 55 ≤ m := by omega
      rw [he, hDe, List.take_append, Nat.mul_comm 55 q]
      have e1 : (S.data.drop (q * 55)).take m = S.data.drop (q * 55) := List.take_of_length_le (by rw [List.length_drop]; omega)
      rw [e1, ← List.append_assoc, List.take_append_drop]
      refine ⟨min (m - (S.data.drop (q * 55)).length) (frameL b).length, by omega, ?_⟩
      congr 1
      rw [List.take_eq_take_iff]; omega
    rcases htail 0 (by omega) with h1 | ⟨c, h1, h2⟩
    · rw [Nat.add_zero, hq0] at h1
      cases hx : (rowL l' S.half S.sz).drop q with
      | nil => rw [hx] at h1; simp at h1
      | cons x r =>
        rw [hx] at h1
        simp at h1
        subst h1
        have hle : (S.data.drop (q * 55)).length < 55 := by rw [List.length_drop]; omega
        rw [joinL_cell S.gen q _ r hg1 hg2 (by omega) (by omega), if_pos hle, Nat.mul_comm 55 q, List.take_append_drop]
        exact ⟨0, by omega, by simp⟩
    · exact hnew c h1 h2
  obtain ⟨m, hm, he⟩ := key
  have hj : openJoin l' = S.data ++ (frameL b).take m := by
    unfold openJoin
    rw [hph]
    dsimp only
    rw [hH, ← h.sz]
    exact he
  unfold openRecs
  rw [hph]
  dsimp only
  rw [hj, h.data]
  by_cases hmm : m < (frameL b).length
  · left
    exact allL_frames _ (allL_cut b m hb1 hb2 hmm) ts h.ts
  · right
    rw [List.take_of_length_le (by omega)]
    have := allL_frames [] allL_nil (ts ++ [b]) (fun t ht => by
      rcases List.mem_append.1 ht with ht | ht
      · exact h.ts t ht
      · simp at ht; subst ht; exact ⟨hb1, hb2⟩)
    rw [List.append_nil, framesL_snoc] at this
    exact this
end Go.Proofs.YtepnbfpclhincaaDoor

namespace Go.Proofs.YtepnbfpclhincaaDoor
open Go.RowKit

theorem size_zero (w : World) : Calls Tryd.prog 22 #[.int .i64 0] w fun e w' => e = .returned (.int .i64 0) ∧ w = w' := by
  have := size_any 0 w
  exact this
theorem Open_nil (n : Int) (w : World) : Calls Tryd.prog 8 #[.pointer none, .int .i64 n] w fun e w' => e = .returned (.tuple #[.pointer none, .slice none 0 0, .int .i64 1]) ∧ w = w' := by
  go_enter Tryd.func8, Tryd.ntmps8
  go_wp2_with fail
  refine (Sectors_nil w n).mono ?_
  rintro e w1 ⟨rfl, rfl⟩
  go_wp2_with fail
  refine (size_zero _).mono ?_
  rintro e w1 ⟨rfl, rfl⟩
  go_wp2_with fail
  go_ret3
  exact ⟨rfl, rfl⟩
/-- Of a region without room: none. -/
theorem Open_small (bd : Nat) (n : Int) (k : Nat) (hk : halfOf k = 0) (w : World) (hs : Calls Tryd.prog 23 #[ptrV bd, .int .i64 n] w fun e w' => e = .returned (.int .i64 k) ∧ w = w') :
    Calls Tryd.prog 8 #[ptrV bd, .int .i64 n] w fun e w' => e = .returned (.tuple #[.pointer none, .slice none 0 0, .int .i64 10]) ∧ w = w' := by
  have HS := Lib.hid hs
  have hz := size_any k w
  rw [hk] at hz
  have HZ := Lib.hid hz
  clear hs hz
  unfold ptrV at HS ⊢
  go_enter Tryd.func8, Tryd.ntmps8
  go_wp2_with fail
  refine (HS.out).mono ?_
  rintro e w1 ⟨rfl, rfl⟩
  go_wp2_with fail
  refine (HZ.out).mono ?_
  rintro e w1 ⟨rfl, rfl⟩
  go_wp2_with fail
  go_ret3
  exact ⟨rfl, rfl⟩
end Go.Proofs.YtepnbfpclhincaaDoor

namespace Go.Proofs.YtepnbfpclhincaaDoor
open Go.RowKit

theorem Capacity_any (n : Nat) (w : World) : Calls Tryd.prog 15 #[.int .i64 n] w fun e w' => e = .returned (.int .i64 (halfOf n * 55 - 1 : Nat)) ∧ w = w' := by
  have HZ := Lib.hid (size_any n w)
  have hh : halfOf n ≤ 2047 := by unfold halfOf; omega
  generalize halfOf n = H at HZ hh
  have hmx : max (0 : Int) ((H : Int) * 55 - 1) = ((H * 55 - 1 : Nat) : Int) := by omega
  go_enter Tryd.func15, Tryd.ntmps15
  go_wp2_with (first | (go_at_call 22; refine (HZ.out).mono ?_; rintro e w1 ⟨rfl, rfl⟩) | fail)
  go_ret
  refine ⟨ret_of ?_, rfl⟩
  first | rfl | exact congrArg (Value.int .i64) hmx
end Go.Proofs.YtepnbfpclhincaaDoor

namespace Go.Proofs.YtepnbfpclhincaaDoor
open Go.RowKit

theorem parseH_none : parseH noneL = none := by
  have e : Pl.getL ((noneL.drop 8).take 6) = 0 := by rfl
  unfold parseH; dsimp only; rw [e, if_pos rfl]
theorem parseL_none : parseL noneL = none := by
  have e : Pl.getL (noneL.take 6) = 0 := by rfl
  have h : noneL.length = 64 := by rfl
  unfold parseL; rw [if_neg (by rw [h]; simp)]; dsimp only; rw [e, if_pos rfl]
/-- What is found in a region of noughts. -/
theorem fresh_open (n : Nat) (hn : 3 ≤ n) : openRecs (List.replicate n noneL) = [] ∧ openS (List.replicate n noneL) = ⟨openH (List.replicate n noneL), 0, 1, [], false⟩ := by
  have h0 : (List.replicate n noneL).getD 0 [] = noneL := by
    rw [List.getD_eq_getElem?_getD, List.getElem?_replicate, if_pos (by omega)]; rfl
  have hnw : openNew (List.replicate n noneL) = 0 := by
    refine Nat.le_zero.1 (newestL_le.2 fun s hs g i d hp => ?_)
    have := List.eq_of_mem_replicate (List.mem_of_mem_drop (List.mem_of_mem_take hs))
    rw [this, parseL_none] at hp; cases hp
  constructor
  · unfold openRecs; rw [h0, parseH_none]
  · unfold openS; rw [h0, parseH_none]; dsimp only; rw [hnw]
end Go.Proofs.YtepnbfpclhincaaDoor

namespace Go.Proofs.YtepnbfpclhincaaDoor
open Go.RowKit

/-- A disk of one region, just made. -/
theorem New1 (v : Value) (n : Nat) (w : World) (hv : Sees w v [intV n]) (h1 : 1 ≤ n) (h2 : n ≤ 4096) :
    Calls Tryd.prog 9 #[v] w fun e w' => ∃ bd ps F D, e = .returned (ptrV bd) ∧ DiskAt w' bd ps D F ∧ Up D (List.replicate n noneL) ∧ D.tleft = 0 ∧ (∀ x, x ∈ F → w.heap.size ≤ x) ∧ Keeps [] w w' := by
  refine (New_any v [n] w hv (by simp) (by simpa using h1)).mono ?_
  rintro e w' ⟨bd, ps, F, rfl, hD, hF, hk⟩
  refine ⟨bd, ps, F, _, rfl, hD, ⟨?_, rfl, ⟨?_, by simp [DiskM.fresh], by simp [DiskM.fresh], by simp [DiskM.fresh]⟩⟩, rfl, hF, hk⟩
  · simp [DiskM.fresh, freshR, Nat.min_eq_left h2]
  · intro R hR
    simp [DiskM.fresh, freshR] at hR
    subst hR
    exact ⟨by simp, by simp⟩
end Go.Proofs.YtepnbfpclhincaaDoor

namespace Go.Proofs.YtepnbfpclhincaaDoor
open Go.RowKit

/-- A stream that is at work on its disk. -/
structure Live (w : World) (bd : Nat) (ps F : List Nat) (D : DiskM) (p : Nat) (l : List (List UInt8)) (S : StM) (ts : List (List UInt8)) : Prop where
  disk : DiskAt w bd ps D F
  up : Up D l
  st : StAt w p bd S
  out : p ∉ F
  holds : Holds l S ts
theorem Live.keeps {w w' : World} {bd p : Nat} {ps F : List Nat} {D : DiskM} {l ts : List (List UInt8)} {S : StM} (h : Live w bd ps F D p l S ts) (k : Keeps [] w w') : Live w' bd ps F D p l S ts :=
  ⟨h.disk.keeps0 k, h.up, h.st.keeps k (by simp), h.out, h.holds⟩
theorem openFull_not {l : List (List UInt8)} (h : ¬ openFull l) : (framesL (openRecs l)).length ≤ (openS l).sz * 55 - 1 ∧ (openS l).gen ≠ 281474976710655 := by
  unfold openFull at h; exact ⟨by omega, by omega⟩
theorem openNew_le (l : List (List UInt8)) : openNew l ≤ (openS l).gen := by
  unfold openS
  cases parseH (l.getD 0 []) with
  | none => exact Nat.le_refl _
  | some y => obtain ⟨g, half⟩ := y; exact Nat.le_max_right _ _
theorem Holds.of_open {l : List (List UInt8)} (h64 : ∀ s ∈ l, s.length = 64) (hlo : 3 ≤ l.length) (hhi : l.length ≤ 4096) (hf : ¬ openFull l) :
    Holds ((over l (resBase (openS l)) (resCells (openS l) (openRecs l))).set 0 (resHead (openS l))) ((openS l).reset (openRecs l)) (openRecs l) := by
  have hc := openS_can l h64 hlo hhi
  obtain ⟨h1, h2⟩ := openFull_not hf
  exact Holds.of_reset hc (openS_sz l) h64 (openNew_le l) (by have := hc.gen2; omega) (openRecs_ok l).2 h1
/-- How an Open ends that no loss of power can befall, and that finds room. -/
def LivePost (bd : Nat) (ps F : List Nat) (l : List (List UInt8)) (w : World) (e : Ending) (w' : World) : Prop :=
  ∃ p v F' D' l', e = .returned (.tuple #[ptrV p, v, .int .i64 0]) ∧ Live w' bd ps F' D' p l' ((openS l).reset (openRecs l)) (openRecs l) ∧ D'.tleft = 0 ∧ l'.length = l.length ∧ Texts w' v (openRecs l) ∧ New w v ∧ (∀ k, k ∈ own v → k ≠ p ∧ k ∉ F') ∧ w.heap.size ≤ p ∧ Moves F w F' w'
theorem Open_live (w : World) (bd : Nat) (ps F : List Nat) (D : DiskM) (l : List (List UInt8)) (h : DiskAt w bd ps D F) (hU : Up D l) (h64 : ∀ s ∈ l, s.length = 64) (hlo : 3 ≤ l.length) (hhi : l.length ≤ 4096) (hf : ¬ openFull l) (ht : D.tleft = 0) :
    Calls Tryd.prog 8 #[ptrV bd, .int .i64 0] w (LivePost bd ps F l w) := by
  refine (Open_go w bd ps F D l h hU h64 hlo hhi).mono ?_
  rintro e w' (⟨hf', -⟩ | ⟨-, p, v, F', D', hD', hp, hpz, hm, ⟨rfl, hU', hst, hl, htx, hnw, hvn⟩ | ⟨-, hn, -⟩⟩)
  · exact absurd hf' hf
  · exact ⟨p, v, F', D', _, rfl, ⟨hD', hU', hst, hp, Holds.of_open h64 hlo hhi hf⟩, hl ht, by rw [List.length_set, over_length], htx, hnw, hvn, hpz, hm⟩
  · exact absurd ht hn
def AppLive (bd : Nat) (ps F : List Nat) (p : Nat) (l : List (List UInt8)) (S : StM) (ts : List (List UInt8)) (b : List UInt8) (w : World) (e : Ending) (w' : World) : Prop :=
  ∃ F' D' l', e = .returned (.int .i64 0) ∧ Live w' bd ps F' D' p l' (S.with (S.data ++ frameL b)) (ts ++ [b]) ∧ D'.tleft = 0 ∧ l'.length = l.length ∧ Moves (p :: F) w (p :: F') w'
theorem Append_live (w : World) (bd p : Nat) (ps F : List Nat) (D : DiskM) (l ts : List (List UInt8)) (S : StM) (s : ByteArray) (h : Live w bd ps F D p l S ts) (ht : D.tleft = 0) (hc : appCode S s.size = 0) :
    Calls Tryd.prog 11 #[ptrV p, .string s] w (AppLive bd ps F p l S ts s.data.toList w) := by
  refine (Append_go w p bd ps F D l S s h.disk h.up h.st h.out h.holds.okay hc).mono ?_
  rintro e w' ⟨F', D', hD', hp, hm, ⟨rfl, hU', hst, hl⟩ | ⟨-, hn, -⟩⟩
  · exact ⟨F', D', _, rfl, ⟨hD', hU', hst, hp, h.holds.append _ (by rw [toList_length]; exact hc)⟩, hl ht, over_length _ _ _, hm⟩
  · exact absurd ht hn
theorem Down.on {D : DiskM} {l : List (List UInt8)} (h : Down D l) : Up D.on l ∧ D.on.tleft = 0 :=
  ⟨⟨h.regs, rfl, ⟨h.ok.regs, by simp [DiskM.on], by simp [DiskM.on], by simp [DiskM.on]⟩⟩, rfl⟩
theorem crash_up {D : DiskM} {l : List (List UInt8)} (h : Up D l) (keep : List Nat) : Up (D.crash keep) l ∧ (D.crash keep).tleft = 0 := by
  unfold DiskM.crash
  rw [h.off]
  exact Down.on (Upq.lose h.regs keep)
end Go.Proofs.YtepnbfpclhincaaDoor

namespace Go.Proofs.YtepnbfpclhincaaDoor
open Go.RowKit

set_option maxRecDepth 100000 in
set_option maxHeartbeats 2000000 in
theorem wakes_true (w : World) : Calls Tryd.prog 10 #[] w fun e w' => e = .returned (.bool true) ∧ Keeps [] w w' := by
  go_enter Tryd.func10, Tryd.ntmps10
  go_wp2_with fail
  have hv : Sees (w.alloc (.cells #[.int .i64 5] 3)) (.slice (some ⟨w.heap.size, 0, none⟩) 1 1) [intV 5] :=
    ⟨_, _, rfl, Nat.le_refl _, by simp [maxLen], .inr ⟨_, 0, rfl, by simp, fun j u hj => by
      cases j with
      | zero => simp at hj; subst hj; exact World.cell?_alloc_at _ _ _ _ rfl
      | succ j => simp at hj⟩⟩
  refine (New1 _ 5 _ hv (by omega) (by omega)).mono ?_
  rintro e w1 ⟨bd, ps, F, D, rfl, hD, hU, ht, hF, hk⟩
  have hk1 : Keeps [] w w1 := ((Keeps.refl [] w).alloc _).trans hk
  have hfo := fresh_open 5 (by omega)
  have hnf : ¬ openFull (List.replicate 5 noneL) := by
    unfold openFull; rw [hfo.1, hfo.2]
    have : openH (List.replicate 5 noneL) = 2 := by rfl
    rw [this]; simp [framesL]
  have hO := Lib.hid (Open_live w1 bd ps F D _ hD hU (by simp [noneL]) (by simp) (by simp) hnf ht)
  have HK1 := Lib.hid hk1; have HF := Lib.hid hF
  have HFO := Lib.hid hfo
  clear hv hD hU ht hF hk hk1 hnf hfo
  unfold ptrV at hO ⊢
  go_wp2_with fail
  refine (hO.out).mono ?_
  rintro e w2 ⟨p, v, F2, D2, l2, rfl, hL, ht2, hl2, htx, hnw, hvn, hpz, hm⟩
  rw [HFO.out.1] at hL htx
  rw [HFO.out.2] at hL
  obtain ⟨av, cv, rfl⟩ := ownsRow_form htx
  have hca : appCode (StM.reset ⟨openH (List.replicate 5 noneL), 0, 1, [], false⟩ []) (ByteArray.mk #[97]).size = 0 := by rfl
  have hA := Lib.hid (Append_live w2 bd p ps F2 D2 l2 [] _ ⟨#[97]⟩ hL ht2 hca)
  have HP2 := Lib.hid (And.intro hpz hm)
  have HL2 := Lib.hid hl2
  clear hL htx hnw hvn hpz hm ht2 hl2 hca hO
  unfold ptrV at hA
  go_wp2_with fail
  unfold ptrV
  refine (hA.out).mono ?_
  rintro e w3 ⟨F3, D3, l3, rfl, hL3, ht3, hl3, hm3⟩
  have hC := Lib.hid (Capacity_any 5 w3)
  have hG := Lib.hid (Gen_any w3 p bd _ hL3.st)
  have HL3 := Lib.hid (And.intro hL3 ht3); have HM3 := Lib.hid (And.intro hl3 hm3)
  clear hL3 ht3 hl3 hm3 hA
  unfold ptrV at hG
  go_wp2_with fail
  refine (hC.out).mono ?_
  rintro e w4 ⟨rfl, rfl⟩
  go_wp2_with fail
  refine (hG.out).mono ?_
  rintro e w4 ⟨rfl, rfl⟩
  have hgen : ((StM.with (StM.reset ⟨openH (List.replicate 5 noneL), 0, 1, [], false⟩ []) ((StM.reset ⟨openH (List.replicate 5 noneL), 0, 1, [], false⟩ []).data ++ frameL (ByteArray.mk #[97]).data.toList)).gen : Int) = 1 := rfl
  rw [hgen]
  have hCr := Lib.hid (Crash_any w3 bd ps D3 F3 (.slice none 0 0) [] HL3.out.1.disk HL3.out.1.up.ok.regs ⟨_, _, rfl, by simp, by simp [maxLen], .inl rfl⟩ (by simp) (by simp [own, Value.ownBlock]))
  clear hgen hG hC
  unfold ptrV at hCr
  go_wp2_with fail
  refine (hCr.out).mono ?_
  rintro e w5 ⟨rfl, F5, hD5, hm5⟩
  obtain ⟨hL3, ht3⟩ := HL3.out
  have hop := hL3.holds.open
  obtain ⟨hU5, ht5⟩ := crash_up hL3.up []
  have hl3 : l3.length = 5 := by have := HM3.out.1; have := HL2.out; simp at this; omega
  have hnf : ¬ openFull l3 := by
    unfold openFull; rw [hop.1, hop.2]
    have : openH (List.replicate 5 noneL) = 2 := by rfl
    show ¬ (openH (List.replicate 5 noneL) * 55 - 1 < _ ∨ (1 : Nat) = _)
    rw [this]; simp [framesL, frameL_length]
  have hO := Lib.hid (Open_live w5 bd ps F5 _ l3 hD5 hU5 hL3.holds.l64 (by omega) (by omega) hnf ht5)
  have HOP := Lib.hid hop
  clear hL3 ht3 hop hU5 ht5 hl3 hnf hD5 hCr
  unfold ptrV at hO
  go_wp2_with fail
  refine (hO.out).mono ?_
  rintro e w6 ⟨p6, v6, F6, D6, l6, rfl, hL6, ht6, hl6, htx6, hnw6, hvn6, hpz6, hm6⟩
  rw [HOP.out.1] at htx6
  obtain ⟨g6, c6, rfl, -, -, -, hc6, -⟩ := ownsRow_at htx6 (by simp)
  have hx6 : w6.cell? ⟨g6, 0, none⟩ = some (.string ⟨#[97]⟩) := hc6 0 _ (by rfl)
  clear htx6 hnw6 hvn6 hL6 hc6
  unfold ptrV
  go_wp2_with fail
  go_ret
  refine ⟨rfl, ?_⟩
  have z1 := HK1.out.size
  have zF : ∀ x, x ∈ F → w.heap.size ≤ x := fun x hx => by have := HF.out x hx; simp at this; omega
  have k2 : Keeps [] w w2 := HK1.out.trans' HP2.out.2.1 (fun x hx hl => by have := zF x hx; omega)
  have zF2 : ∀ x, x ∈ F2 → w.heap.size ≤ x := fun x hx => (HP2.out.2.2 x hx).elim (zF x) (fun h => by omega)
  have zp : w.heap.size ≤ p := by have := HP2.out.1; omega
  have k3 : Keeps [] w w3 := k2.trans' HM3.out.2.1 (fun x hx hl => by
    rcases List.mem_cons.1 hx with rfl | hx
    · omega
    · have := zF2 x hx; omega)
  have zF3 : ∀ x, x ∈ F3 → w.heap.size ≤ x := fun x hx => (HM3.out.2.2 x (List.mem_cons_of_mem _ hx)).elim (fun h => by
    rcases List.mem_cons.1 h with rfl | h
    · omega
    · exact zF2 x h) (fun h => by have := k2.size; omega)
  have k5 : Keeps [] w w5 := k3.trans' hm5.1 (fun x hx hl => by have := zF3 x hx; omega)
  have zF5 : ∀ x, x ∈ F5 → w.heap.size ≤ x := fun x hx => (hm5.2 x hx).elim (zF3 x) (fun h => by have := k3.size; omega)
  exact k5.trans' hm6.1 (fun x hx hl => by have := zF5 x hx; omega)
end Go.Proofs.YtepnbfpclhincaaDoor

namespace Go.Proofs.YtepnbfpclhincaaDoor
open Go.RowKit

theorem Sees.alloc1 (w : World) (x : Value) (t : TypeId) (hx : x.oneCell' = true) : Sees (w.alloc (.cells #[x] t)) (.slice (some ⟨w.heap.size, 0, none⟩) 1 1) [x] :=
  ⟨_, _, rfl, Nat.le_refl _, by simp [maxLen], .inr ⟨_, 0, rfl, by simp, fun j u hj => by
    cases j with
    | zero => simp at hj; subst hj; exact World.cell?_alloc_at _ _ _ _ rfl
    | succ j => simp at hj⟩⟩

/-- How an Open of a region of noughts ends. -/
def FreshPost (bd : Nat) (ps F : List Nat) (n : Nat) (w : World) (e : Ending) (w' : World) : Prop :=
  ∃ p v F' D' l', e = .returned (.tuple #[ptrV p, v, .int .i64 0]) ∧ Live w' bd ps F' D' p l' ⟨halfOf n, 1, 0, [], false⟩ [] ∧ D'.tleft = 0 ∧ l'.length = n ∧ (∃ a c, v = .slice a 0 c) ∧ w.heap.size ≤ p ∧ Moves F w F' w'
theorem Open_fresh (w : World) (bd : Nat) (ps F : List Nat) (D : DiskM) (n : Nat) (h : DiskAt w bd ps D F) (hU : Up D (List.replicate n noneL)) (hlo : 3 ≤ n) (hhi : n ≤ 4096) (ht : D.tleft = 0) :
    Calls Tryd.prog 8 #[ptrV bd, .int .i64 0] w (FreshPost bd ps F n w) := by
  have hfo := fresh_open n hlo
  have hH : openH (List.replicate n noneL) = halfOf n := by unfold openH; rw [List.length_replicate]
  have hh : 1 ≤ halfOf n := by unfold halfOf; omega
  have hnf : ¬ openFull (List.replicate n noneL) := by
    unfold openFull; rw [hfo.1, hfo.2, hH]; simp [framesL]
  refine (Open_live w bd ps F D _ h hU (fun s hs => by rw [List.eq_of_mem_replicate hs]; rfl) (by simpa using hlo) (by simpa using hhi) hnf ht).mono ?_
  rintro e w' ⟨p, v, F', D', l', rfl, hL, ht', hl, htx, -, -, hp, hm⟩
  rw [hfo.1, hfo.2, hH] at hL
  rw [hfo.1] at htx
  obtain ⟨a, c, rfl⟩ := ownsRow_form htx
  refine ⟨p, _, F', D', l', rfl, ?_, ht', by simpa using hl, ⟨a, c, rfl⟩, hp, hm⟩
  simpa [StM.reset, framesL] using hL

theorem Append_live_no (w : World) (bd p : Nat) (ps F : List Nat) (D : DiskM) (l ts : List (List UInt8)) (S : StM) (s : ByteArray) (h : Live w bd ps F D p l S ts) (hz : s.size ≤ 1152921504606846976) (hc : appCode S s.size ≠ 0) :
    Calls Tryd.prog 11 #[ptrV p, .string s] w fun e w' => e = .returned (.int .i64 (appCode S s.size)) ∧ Keeps [] w w' :=
  Append_no w p bd S l s h.st h.holds.okay hz hc
theorem Left_live {w : World} {bd p : Nat} {ps F : List Nat} {D : DiskM} {l ts : List (List UInt8)} {S : StM} (h : Live w bd ps F D p l S ts) :
    Calls Tryd.prog 13 #[ptrV p] w fun e w' => e = .returned (.int .i64 (S.sz * 55 - 1 - S.data.length : Nat)) ∧ Keeps [] w w' :=
  Left_any w p bd S h.st h.holds.okay.sz1 (by have := h.holds.okay.sz2; omega) h.holds.okay.data
theorem Live.le {w : World} {bd p : Nat} {ps F : List Nat} {D : DiskM} {l ts : List (List UInt8)} {S : StM} (h : Live w bd ps F D p l S ts) : S.data.length ≤ S.sz * 55 - 1 := h.holds.okay.data
/-- Nothing but what is new is written. -/
theorem Keeps.moves {a b c : World} {F G : List Nat} (h : Keeps [] a b) (k : Moves F b G c) (hF : ∀ x ∈ F, a.heap.size ≤ x) : Keeps [] a c ∧ ∀ x ∈ G, a.heap.size ≤ x :=
  ⟨h.trans' k.1 (fun x hx hl => by have := hF x hx; omega), fun x hx => (k.2 x hx).elim (hF x) (fun hb => by have := h.size; omega)⟩
end Go.Proofs.YtepnbfpclhincaaDoor
