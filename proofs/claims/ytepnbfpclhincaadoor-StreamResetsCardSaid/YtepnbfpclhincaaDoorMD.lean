/-
  Part of the proofs of the laws of streams: the walks of the functions beneath them, and plain lists.
-/
import Derived.Test.YtepnbfpclhincaaDoorMC
set_option linter.unusedVariables false
set_option linter.unusedSimpArgs false
namespace Go.Proofs.YtepnbfpclhincaaDoor
open Go.RowKit

/-- How many sectors a half has. -/
def halfOf (n : Nat) : Nat := (max 1 (min n 4096) - 1) / 2

theorem size_any (n : Nat) (w : World) : Calls Tryd.prog 22 #[.int .i64 n] w fun e w' => e = .returned (.int .i64 (halfOf n)) ∧ w = w' := by
  have h : max (1 : Int) (min (n : Int) 4096) = ((max 1 (min n 4096) : Nat) : Int) := by omega
  obtain ⟨c, hc⟩ : ∃ c, c = max 1 (min n 4096) := ⟨_, rfl⟩
  rw [← hc] at h
  have hc1 : 1 ≤ c := by omega
  have hc2 : c ≤ 4096 := by omega
  have HC := Lib.hid hc; clear hc
  go_enter Tryd.func22, Tryd.ntmps22
  go_wp2
  go_ret
  refine ⟨ret_of (int_of ?_), rfl⟩
  unfold halfOf
  rw [← HC.out]
  omega

def magicL : List UInt8 := [80, 82, 69, 67, 73, 78, 67, 84]
/-- The sector that tells a generation and a half. -/
def headL (g h : Nat) : List UInt8 := magicL ++ Pl.putL 6 g ++ Pl.putL 1 h ++ List.replicate 49 0
theorem headL_length (g h : Nat) : (headL g h).length = 64 := by simp [headL, magicL]

theorem head_any (g h : Nat) (hg : g < 281474976710656) (hh : h ≤ 1) (w : World) : Calls Tryd.prog 42 #[.int .i64 g, .int .i64 h] w fun e w' => e = .returned (strV (headL g h)) ∧ Keeps [] w w' := by
  go_enter Tryd.func42, Tryd.ntmps42
  go_wp2_with fail
  refine (PutI 6 g (by omega) (by omega) _).mono ?_
  rintro e w1 ⟨rfl, hk1⟩
  go_wp2_with fail
  refine (PutI 1 h (by omega) (by omega) _).mono ?_
  rintro e w2 ⟨rfl, hk2⟩
  rw [show Int.toNat 1 = 1 from rfl]
  go_wp2_with fail
  have H := Lib.hid (Tryd.strings_Repeat ⟨#[0]⟩ 49 w2 (by decide) (by decide))
  refine (H.out).mono ?_
  rintro e w3 ⟨rfl, hb⟩
  have hr := repeatL_one 0 49
  rw [show (ByteArray.mk #[0]).data.toList = [0] from rfl, hr]
  clear hr
  have hrl : (List.replicate 49 (0 : UInt8)).length = 49 := by simp
  generalize hZ : List.replicate 49 (0 : UInt8) = Z at hrl
  have HZ := Lib.hid hZ; clear hZ
  go_wp2_with fail
  go_ret
  refine ⟨ret_of (str_of ?_), (hk1.trans hk2).trans (.of_below hb)⟩
  unfold headL
  rw [HZ.out]
  simp [magicL]

/-- The generation and the half of a head. -/
def parseH (l : List UInt8) : Option (Nat × Nat) :=
  let g := Pl.getL ((l.drop 8).take 6)
  let h := (l.getD 14 0).toNat
  if g = 0 then none else if 1 < h then none else if l = headL g h then some (g, h) else none

def ParseHPost (l : List UInt8) (w : World) (e : Ending) (w' : World) : Prop :=
  Keeps [] w w' ∧ match parseH l with
  | none => e = .returned (.tuple #[.int .i64 0, .int .i64 0, .bool false])
  | some (g, h) => e = .returned (.tuple #[.int .i64 g, .int .i64 h, .bool true])

theorem ParseHPost.no {l : List UInt8} {w w' : World} (h : parseH l = none) (hk : Keeps [] w w') : ParseHPost l w (.returned (.tuple #[.int .i64 0, .int .i64 0, .bool false])) w' := by
  refine ⟨hk, ?_⟩; rw [h]
theorem ParseHPost.yes {l : List UInt8} {w w' : World} {g k : Nat} (h : parseH l = some (g, k)) (hk : Keeps [] w w') : ParseHPost l w (.returned (.tuple #[.int .i64 g, .int .i64 k, .bool true])) w' := by
  refine ⟨hk, ?_⟩; rw [h]

theorem sub_one (s : ByteArray) (k : Nat) (h : k < s.size) : Pl.getL (sub s k 1) = (s.data.toList.getD k 0).toNat := by
  have := sub_snoc s k 0 (by omega)
  rw [show (0 : Nat) + 1 = 1 from rfl] at this
  rw [this, Pl.getL_snoc]
  simp only [sub, List.take_zero, Nat.add_zero]
  rw [List.getD_eq_getElem?_getD, List.getElem?_eq_getElem (by rw [toList_length]; exact h)]
  simp [Pl.getL]; rfl

set_option maxHeartbeats 400000 in
theorem parseH_any (s : ByteArray) (h64 : s.size = 64) (w : World) : Calls Tryd.prog 25 #[.string s] w (ParseHPost s.data.toList w) := by
  have hg := Pl.getL_lt (sub s 8 6)
  rw [sub_length s 8 6 (by omega)] at hg
  have hh := (s.data.toList.getD 14 0).toNat_lt
  have hP : Hid (parseH s.data.toList = if Pl.getL (sub s 8 6) = 0 then none else if 1 < (s.data.toList.getD 14 0).toNat then none else if s.data.toList = headL (Pl.getL (sub s 8 6)) (s.data.toList.getD 14 0).toNat then some (Pl.getL (sub s 8 6), (s.data.toList.getD 14 0).toNat) else none) := rfl
  have hO := sub_one s 14 (by omega)
  generalize (s.data.toList.getD 14 0).toNat = h at hh hP hO
  generalize hG : Pl.getL (sub s 8 6) = g at hg hP
  have hg' : g < 281474976710656 := hg
  have HG := Lib.hid hG; have HO := Lib.hid hO
  have h65 : 64 ≤ s.size := by omega
  have h66 : s.size ≤ 64 := by omega
  clear hG hO hg h64
  go_enter Tryd.func25, Tryd.ntmps25
  go_wp2_with fail
  refine (Get_ok s 8 6 (by omega) (by omega) (by omega) (by omega) _).mono ?_
  rintro e w1 ⟨rfl, rfl⟩
  rw [HG.out]
  go_wp2_with fail
  refine (Get_ok s 14 1 (by omega) (by omega) (by omega) (by omega) _).mono ?_
  rintro e w1 ⟨rfl, rfl⟩
  rw [HO.out]
  by_cases h0 : g = 0
  · have b0 : ((g : Int) == 0) = true := by simp [h0]
    have HP : Hid (parseH s.data.toList = none) := by show _ = _; rw [hP.out, if_pos h0]
    clear h0
    go_wp2_with fail
    go_ret3
    exact ParseHPost.no HP.out (Keeps.refl _ _)
  have b0 : ((g : Int) == 0) = false := beq_eq_false_iff_ne.2 (by omega)
  by_cases h1 : 1 < h
  · have b1 : decide (1 < (h : Int)) = true := decide_eq_true (by omega)
    have HP : Hid (parseH s.data.toList = none) := by show _ = _; rw [hP.out, if_neg h0, if_pos h1]
    go_wp2_with fail
    go_ret3
    exact ParseHPost.no HP.out (Keeps.refl _ _)
  have b1 : decide (1 < (h : Int)) = false := decide_eq_false (by omega)
  go_wp2_with fail
  refine (head_any g h hg' (by omega) _).mono ?_
  rintro e w2 ⟨rfl, hk2⟩
  unfold strV
  by_cases he : s.data.toList = headL g h
  · have HP : Hid (parseH s.data.toList = some (g, h)) := by show _ = _; rw [hP.out, if_neg h0, if_neg h1, if_pos he]
    have hes : s = ByteArray.mk (headL g h).toArray := by rw [← he]
    rw [← hes]
    have HE := Lib.hid he
    clear hes he hP
    go_wp2_with fail
    go_ret3
    exact ParseHPost.yes HP.out hk2
  · have HP : Hid (parseH s.data.toList = none) := by show _ = _; rw [hP.out, if_neg h0, if_neg h1, if_neg he]
    have hes : ¬ s = ByteArray.mk (headL g h).toArray := fun x => he (by rw [x])
    have HE := Lib.hid hes
    generalize ByteArray.mk (headL g h).toArray = q at hes
    have b2 : (s.toList == q.toList) = false := by
      rw [beq_eq_false_iff_ne]; intro x; rw [ByteArray.toList_eq, ByteArray.toList_eq] at x; exact hes (ByteArray.ext (Array.toList_inj.1 x))
    clear hes he hP
    go_wp2_with fail
    go_ret3
    exact ParseHPost.no HP.out hk2
end Go.Proofs.YtepnbfpclhincaaDoor

namespace Go.Proofs.YtepnbfpclhincaaDoor
open Go.RowKit

/-- All sectors of a region. -/
def RegM.all (R : RegM) : List (List UInt8) := (List.range R.lasts.length).map R.read

def ReadPost (R : RegM) (w : World) (e : Ending) (w' : World) : Prop :=
  ∃ v, e = .returned (.tuple #[v, .int .i64 0]) ∧ Texts w' v R.all ∧ New w v ∧ Keeps [] w w'

set_option maxHeartbeats 1000000 in
theorem read_any (w : World) (bd : Nat) (ps : List Nat) (D : DiskM) (F : List Nat) (n : Nat) (R : RegM) (h : DiskAt w bd ps D F) (hoff : D.off = false) (hR : D.regs[n]? = some R) (hq : R.queue.length ≤ 1099511627776) (hl : R.lasts.length ≤ 4096) :
    Calls Tryd.prog 24 #[ptrV bd, .int .i64 n] w (ReadPost R w) := by
  have hnl : n < ps.length := by have h' := h; obtain ⟨_, _, _, h'⟩ := h'; rw [← h'.len]; exact getElem?_lt hR
  have HD := Lib.hid h
  have HR := Lib.hid hR
  have HO := Lib.hid hoff
  have HSec := Lib.hid (Sectors_in w bd ps D F n R h hnl hR)
  have HRd : Hid (∀ w' k, DiskAt w' bd ps D F → k < R.lasts.length → Calls Tryd.prog 47 #[ptrV bd, .int .i64 n, .int .i64 k] w' fun e w'' => e = .returned (.tuple #[.string ⟨(R.read k).toArray⟩, .int .i64 0]) ∧ w' = w'') := fun w' k h' hk =>
    Read_ok w' bd ps D F n k R h' hoff hR hk hq
  clear h hR hoff hnl
  generalize hL : R.lasts.length = L at hl HSec HRd
  have HL := Lib.hid hL; clear hL
  unfold ptrV at HSec HRd ⊢
  go_enter Tryd.func24, Tryd.ntmps24
  go_wp2_with fail
  refine (HSec.out).mono ?_
  rintro e w1 ⟨rfl, rfl⟩
  go_wp2_with fail
  go_loopw [6, 13] (fun v i wr => ∃ k : Nat, k ≤ L ∧ i = .int .i64 k ∧ Texts wr v ((List.range k).map R.read) ∧ New w v ∧ Keeps [] w wr) (fun _ i _ => L - (intOf i).toNat)
  case atStart => exact ⟨0, by omega, rfl, World.ownsRow_nil _ _ _ _, New.nil _, Keeps.refl _ _⟩
  case round =>
    obtain ⟨k, hk, rfl, htx, hnew, hkp⟩ := hrel
    by_cases hlt : k < L
    · go_wp2_with fail
      refine (HRd.out wr k (HD.out.keeps0 hkp) hlt).mono ?_
      rintro e w1 ⟨rfl, rfl⟩
      generalize hx : R.read k = x
      have HX := Lib.hid hx; clear hx
      have hlen : ((List.range k).map R.read).length = k := by simp
      go_wp2_with (at_builtin; refine wpList_app1 (by rfl) (by rfl) Tryd.underlying23 infoStr rfl (by decide) (by rfl) htx (by rfl) (by rfl) ?c1 ?c2 ?c3 ?c4)
      case c1 => simp [Value.oneCell']
      case c2 => simp only [hlen]; unfold maxLen; omega
      case c3 => simp only [hlen]; omega
      case c4 =>
        intro v' w' ho hk' hf
        go_wp2_with fail
        go_roundw
        case rel =>
          refine ⟨k + 1, by omega, by go_num, ?_, ?_, ?_⟩
          · have e : strV x = Value.string ⟨x.toArray⟩ := rfl
            unfold Texts at *; rw [List.range_succ]; simpa [HX.out, e] using ho
          · intro x hx
            rcases hf x hx with h | h
            · exact hnew x h
            · have := hkp.size; omega
          · exact hkp.trans' hk' fun x hx hl => absurd (hnew x hx) (by omega)
        case measure => simp [intOf]; omega
    · have hk2 : k = L := by omega
      have HK := Lib.hid hk2; clear hk2
      go_wp2_with fail
      go_ret2
      exact ⟨_, rfl, by unfold RegM.all; rw [HL.out, ← HK.out]; exact htx, hnew, hkp⟩
end Go.Proofs.YtepnbfpclhincaaDoor

namespace Go.Proofs.YtepnbfpclhincaaDoor
open Go.RowKit

/-! What the sectors are behind writes: plain lists. -/
/-- The sectors, of which these are written, from a place on. -/
def over (l : List (List UInt8)) (base : Nat) : List (List UInt8) → List (List UInt8)
  | [] => l
  | c :: cs => over (l.set base c) (base + 1) cs
def qOf (base : Nat) : List (List UInt8) → List (Nat × List UInt8)
  | [] => []
  | c :: cs => (base, c) :: qOf (base + 1) cs
theorem over_length (cs : List (List UInt8)) : ∀ l base, (over l base cs).length = l.length := by
  induction cs with
  | nil => intro l base; rfl
  | cons c cs ih => intro l base; rw [over, ih]; simp
theorem qOf_length (cs : List (List UInt8)) : ∀ base, (qOf base cs).length = cs.length := by
  induction cs with
  | nil => intro base; rfl
  | cons c cs ih => intro base; simp [qOf, ih]
theorem qOf_snoc (cs : List (List UInt8)) (c : List UInt8) : ∀ base, qOf base (cs ++ [c]) = qOf base cs ++ [(base + cs.length, c)] := by
  induction cs with
  | nil => intro base; rfl
  | cons d cs ih => intro base; simp [qOf, ih]; omega
theorem last_over (cs : List (List UInt8)) : ∀ i l base, lastL allKept i (qOf base cs) l = over l base cs := by
  induction cs with
  | nil => intro i l base; rfl
  | cons c cs ih => intro i l base; rw [qOf, lastL, ih, over]; simp [allKept]
/-- Each sector is as it was, or is what was written to it. -/
def SecUpd (l l' : List (List UInt8)) (base : Nat) (cs : List (List UInt8)) : Prop :=
  l'.length = l.length ∧ ∀ s : Nat, l'[s]? = l[s]? ∨ ∃ i c, s = base + i ∧ cs[i]? = some c ∧ l'[s]? = some c
theorem SecUpd.refl (l : List (List UInt8)) (base : Nat) (cs : List (List UInt8)) : SecUpd l l base cs := ⟨rfl, fun _ => .inl rfl⟩
theorem last_upd (kp : Nat → Bool) (cs : List (List UInt8)) : ∀ i l base, SecUpd l (lastL kp i (qOf base cs) l) base cs := by
  induction cs with
  | nil => intro i l base; exact SecUpd.refl _ _ _
  | cons c cs ih =>
    intro i l base
    refine ⟨lastL_length _ _ _ _, fun s => ?_⟩
    rw [qOf, lastL]
    rcases (ih (i + 1) (if kp i then l.set base c else l) (base + 1)).2 s with h | ⟨j, d, e, hd, h⟩
    · rw [h]
      split
      · rw [List.getElem?_set]
        by_cases hs : base = s
        · subst hs
          by_cases hl : base < l.length
          · right; exact ⟨0, c, by omega, by simp, by simp [hl]⟩
          · left; simp [hl]
        · left; simp [hs]
      · exact .inl rfl
    · right; exact ⟨j + 1, d, by omega, by simpa using hd, h⟩
theorem SecUpd.take {l l' : List (List UInt8)} {base : Nat} {cs : List (List UInt8)} {k : Nat} (h : SecUpd l l' base (cs.take k)) : SecUpd l l' base cs :=
  ⟨h.1, fun s => (h.2 s).imp id fun ⟨i, c, e, hc, h⟩ => ⟨i, c, e, (by
    rw [List.getElem?_take] at hc
    by_cases hk : i < k
    · rwa [if_pos hk] at hc
    · rw [if_neg hk] at hc; cases hc), h⟩⟩

/-! A disk of one region. -/
structure Upq (D : DiskM) (l : List (List UInt8)) (q : List (Nat × List UInt8)) : Prop where
  regs : D.regs = [⟨l, q⟩]
  off : D.off = false
  ok : D.ok
abbrev Up (D : DiskM) (l : List (List UInt8)) : Prop := Upq D l []
structure Down (D : DiskM) (l : List (List UInt8)) : Prop where
  regs : D.regs = [⟨l, []⟩]
  off : D.off = true
  ok : D.ok
theorem Upq.reg {D : DiskM} {l : List (List UInt8)} {q : List (Nat × List UInt8)} (h : Upq D l q) : D.regs[0]? = some ⟨l, q⟩ := by rw [h.regs]; rfl
theorem Upq.lose {D : DiskM} {l : List (List UInt8)} {q : List (Nat × List UInt8)} (hr : D.regs = [⟨l, q⟩]) (keep : List Nat) : Down (D.lose keep) (lastL (kbit keep 0) 0 q l) := by
  refine ⟨?_, rfl, ⟨fun R hR => ?_, by simp [DiskM.lose], by simp [DiskM.lose], by simp [DiskM.lose]⟩⟩
  · simp [DiskM.lose, hr, RegM.last]
  · simp [DiskM.lose, hr, RegM.last] at hR
    subst hR; exact ⟨by simp, by simp⟩
theorem Upq.call {D : DiskM} {l : List (List UInt8)} {q : List (Nat × List UInt8)} (h : Upq D l q) :
    ((D.call 0).1 = false ∧ Upq (D.call 0).2 l q ∧ (D.tleft = 0 → (D.call 0).2.tleft = 0)) ∨ ((D.call 0).1 = true ∧ D.tleft ≠ 0 ∧ ∃ kp, Down (D.call 0).2 (lastL kp 0 q l)) := by
  unfold DiskM.call
  cases hh : D.hits 0 with
  | false => left; exact ⟨rfl, h, id⟩
  | true =>
    have h0 : D.tleft ≠ 0 := by unfold DiskM.hits at hh; simp at hh; exact hh.1
    have := h.ok.left0
    by_cases h1 : D.tleft = 1
    · right; rw [h1]; exact ⟨rfl, by omega, _, Upq.lose h.regs D.keep⟩
    · left
      rw [if_pos rfl, if_neg (by simpa using h1)]
      exact ⟨rfl, ⟨h.regs, h.off, ⟨h.ok.regs, by show (0:Int) ≤ D.tleft - 1; omega, by have := h.ok.left1; show D.tleft - 1 ≤ _; omega, h.ok.keep⟩⟩, fun e => absurd e h0⟩
theorem Upq.write {D : DiskM} {l : List (List UInt8)} {q : List (Nat × List UInt8)} (h : Upq D l q) {sec : Nat} (hs : sec < l.length) (hq : q.length < 1099511627776) (d : List UInt8) :
    ((D.write 0 ⟨l, q⟩ sec d).1 = false ∧ Upq (D.write 0 ⟨l, q⟩ sec d).2 l (q ++ [(sec, d)]) ∧ (D.tleft = 0 → (D.write 0 ⟨l, q⟩ sec d).2.tleft = 0)) ∨
    ((D.write 0 ⟨l, q⟩ sec d).1 = true ∧ D.tleft ≠ 0 ∧ ∃ kp, Down (D.write 0 ⟨l, q⟩ sec d).2 (lastL kp 0 (q ++ [(sec, d)]) l)) := by
  have := h.ok.push (n := 0) (sec := sec) h.reg hs hq d
  exact Upq.call (D := D.setReg 0 ((RegM.mk l q).push sec d)) (l := l) (q := q ++ [(sec, d)]) ⟨by simp [DiskM.setReg, h.regs, RegM.push], h.off, this⟩
theorem Upq.flush {D : DiskM} {l : List (List UInt8)} {q : List (Nat × List UInt8)} (h : Upq D l q) :
    ((D.flush 0 ⟨l, q⟩).1 = false ∧ Up (D.flush 0 ⟨l, q⟩).2 (lastL allKept 0 q l) ∧ (D.tleft = 0 → (D.flush 0 ⟨l, q⟩).2.tleft = 0)) ∨
    ((D.flush 0 ⟨l, q⟩).1 = true ∧ D.tleft ≠ 0 ∧ ∃ kp, Down (D.flush 0 ⟨l, q⟩).2 (lastL kp 0 q l)) := by
  have hok : RegM.ok ((RegM.mk l q).last allKept) := ⟨by simp [RegM.last], by simp [RegM.last]⟩
  unfold DiskM.flush
  cases hh : D.hits 0 with
  | false => left; exact ⟨rfl, ⟨by simp [DiskM.setReg, h.regs, RegM.last], h.off, h.ok.setReg 0 hok⟩, id⟩
  | true =>
    have h0 : D.tleft ≠ 0 := by unfold DiskM.hits at hh; simp at hh; exact hh.1
    have := h.ok.left0
    by_cases h1 : D.tleft = 1
    · right; rw [h1]; exact ⟨rfl, by omega, _, Upq.lose h.regs D.keep⟩
    · left
      rw [if_pos rfl, if_neg (by simpa using h1)]
      refine ⟨rfl, ⟨by simp [DiskM.setReg, h.regs, RegM.last], h.off, DiskM.ok.setReg (D := { D with tleft := D.tleft - 1 }) ⟨h.ok.regs, by show (0:Int) ≤ D.tleft - 1; omega, by have := h.ok.left1; show D.tleft - 1 ≤ _; omega, h.ok.keep⟩ 0 hok⟩, fun e => absurd e h0⟩

/-! A stream in memory. -/
structure StM where
  sz : Nat
  gen : Nat
  half : Nat
  data : List UInt8
  broken : Bool
def StM.broke (S : StM) : StM := { S with broken := true }
def StAt (w : World) (p bd : Nat) (S : StM) : Prop :=
  w.heap[p]? = some (.cells #[ptrV bd, .int .i64 0, .int .i64 S.sz, .int .i64 S.gen, .int .i64 S.half, .string ⟨S.data.toArray⟩, .bool S.broken] 53 (0, 0))
theorem StAt.keeps {F : List Nat} {w w' : World} {p bd : Nat} {S : StM} (h : StAt w p bd S) (hk : Keeps F w w') (hp : p ∉ F) : StAt w' p bd S := hk.heap h hp
theorem StAt.lt {w : World} {p bd : Nat} {S : StM} (h : StAt w p bd S) : p < w.heap.size := lt_of_heap h
theorem StAt.cells {w : World} {p bd : Nat} {S : StM} (h : StAt w p bd S) :
    w.cell? ⟨p, 0, none⟩ = some (ptrV bd) ∧ w.cell? ⟨p, 1, none⟩ = some (.int .i64 0) ∧ w.cell? ⟨p, 2, none⟩ = some (.int .i64 S.sz) ∧ w.cell? ⟨p, 3, none⟩ = some (.int .i64 S.gen) ∧ w.cell? ⟨p, 4, none⟩ = some (.int .i64 S.half) ∧ w.cell? ⟨p, 5, none⟩ = some (.string ⟨S.data.toArray⟩) ∧ w.cell? ⟨p, 6, none⟩ = some (.bool S.broken) := by
  refine ⟨?_, ?_, ?_, ?_, ?_, ?_, ?_⟩ <;> (rw [cell_blk h]; rfl)

theorem from_any (w : World) (p bd : Nat) (S : StM) (h : StAt w p bd S) (h1 : S.half ≤ 1) (h2 : S.sz ≤ 4096) :
    Calls Tryd.prog 26 #[ptrV p] w fun e w' => e = .returned (.int .i64 (1 + S.half * S.sz : Nat)) ∧ Keeps [] w w' := by
  obtain ⟨-, -, c2, -, c4, -, -⟩ := h.cells
  have hh : S.half = 0 ∨ S.half = 1 := by omega
  unfold ptrV
  rcases hh with hh | hh <;> rw [hh] at c4 ⊢ <;> clear hh
  · go_enter Tryd.func26, Tryd.ntmps26
    go_wp2_with fail
    go_region
    go_wp2_with fail
    go_ret
    refine ⟨?_, (Keeps.refl [] _).drew⟩
    first | rfl | (simp; done) | (go_num)
  · go_enter Tryd.func26, Tryd.ntmps26
    go_wp2_with fail
    go_region
    go_wp2_with fail
    go_ret
    refine ⟨?_, (Keeps.refl [] _).drew⟩
    first | rfl | (simp; done) | (go_num)
theorem may_nil (w : World) : Calls Tryd.prog 32 #[.pointer none] w fun e w' => e = .returned (.int .i64 1) ∧ w = w' := by
  go_enter Tryd.func32, Tryd.ntmps32
  go_wp2_with fail
  go_ret
  exact ⟨rfl, rfl⟩
theorem may_any (w : World) (p bd : Nat) (S : StM) (h : StAt w p bd S) :
    Calls Tryd.prog 32 #[ptrV p] w fun e w' => e = .returned (.int .i64 (if S.broken then 13 else 0)) ∧ w = w' := by
  obtain ⟨-, -, -, -, -, -, c6⟩ := h.cells
  unfold ptrV
  cases hb : S.broken <;> rw [hb] at c6 <;> (go_enter Tryd.func32, Tryd.ntmps32; go_wp2_with fail; go_ret; exact ⟨rfl, rfl⟩)
theorem capacity_any (w : World) (p bd : Nat) (S : StM) (h : StAt w p bd S) (h1 : 1 ≤ S.sz) (h2 : S.sz ≤ 4096) :
    Calls Tryd.prog 39 #[ptrV p] w fun e w' => e = .returned (.int .i64 (S.sz * 55 - 1 : Nat)) ∧ w = w' := by
  obtain ⟨-, -, c2, -, -, -, -⟩ := h.cells
  unfold ptrV
  go_enter Tryd.func39, Tryd.ntmps39
  go_wp2_with fail
  go_ret
  exact ⟨by go_num, rfl⟩
theorem Gen_nil (w : World) : Calls Tryd.prog 14 #[.pointer none] w fun e w' => e = .returned (.int .i64 0) ∧ w = w' := by
  go_enter Tryd.func14, Tryd.ntmps14
  go_wp2_with fail
  go_ret
  exact ⟨rfl, rfl⟩
theorem Gen_any (w : World) (p bd : Nat) (S : StM) (h : StAt w p bd S) :
    Calls Tryd.prog 14 #[ptrV p] w fun e w' => e = .returned (.int .i64 S.gen) ∧ w = w' := by
  obtain ⟨-, -, -, c3, -, -, -⟩ := h.cells
  unfold ptrV
  go_enter Tryd.func14, Tryd.ntmps14
  go_wp2_with fail
  go_ret
  exact ⟨rfl, rfl⟩
theorem Left_nil (w : World) : Calls Tryd.prog 13 #[.pointer none] w fun e w' => e = .returned (.int .i64 0) ∧ w = w' := by
  go_enter Tryd.func13, Tryd.ntmps13
  go_wp2_with fail
  go_ret
  exact ⟨rfl, rfl⟩
theorem Left_any (w : World) (p bd : Nat) (S : StM) (h : StAt w p bd S) (h1 : 1 ≤ S.sz) (h2 : S.sz ≤ 4096) (h3 : S.data.length ≤ S.sz * 55 - 1) :
    Calls Tryd.prog 13 #[ptrV p] w fun e w' => e = .returned (.int .i64 (S.sz * 55 - 1 - S.data.length : Nat)) ∧ Keeps [] w w' := by
  obtain ⟨-, -, -, -, -, c5, -⟩ := h.cells
  have HC : Hid (∀ w', Keeps [] w w' → Calls Tryd.prog 39 #[ptrV p] w' fun e w'' => e = .returned (.int .i64 (S.sz * 55 - 1 : Nat)) ∧ w' = w'') := fun w' k => capacity_any w' p bd S (h.keeps k (by simp)) h1 h2
  have hsz : (ByteArray.mk S.data.toArray).size = S.data.length := size_mk _
  generalize ByteArray.mk S.data.toArray = sd at c5 hsz
  rw [← hsz] at h3 ⊢
  clear hsz
  have HS : Hid (∀ w', Keeps [] w w' → w'.cell? ⟨p, 5, none⟩ = some (.string sd) ∧ Keeps [] w w') := fun w' k => ⟨k.cell c5 (by simp), k⟩
  have hC : S.sz * 55 - 1 ≤ 225279 := by omega
  generalize S.sz * 55 - 1 = C at HC hC h3 ⊢
  unfold ptrV at HC ⊢
  go_enter Tryd.func13, Tryd.ntmps13
  go_wp2_with fail
  go_region_held3 (fun w' => w'.cell? ⟨p, 5, none⟩ = some (.string sd) ∧ Keeps [] w w') ((first | assumption | exact HS.out _ ((Keeps.refl _ _).drew)))
    ((go_at_call 39; refine (HC.out _ (‹_ ∧ Keeps [] w _›).2).mono ?_; rintro e w' ⟨rfl, rfl⟩))
  go_wp2_with fail
  go_ret
  rename_i hq
  refine ⟨ret_of ?_, hq.2⟩
  have e : ((C - sd.size : Nat) : Int) = (C : Int) - (sd.size : Int) := by omega
  rw [e]; clear e
  have e : IntKind.i64.wrap ((C : Int) - (sd.size : Int)) = (C : Int) - (sd.size : Int) := by rw [IntKind.wrap_i64]; omega
  first | exact congrArg _ e | (simp only [e]; done) | (rw [e]; done)
theorem failed_any (w : World) (p bd : Nat) (S : StM) (h : StAt w p bd S) :
    Calls Tryd.prog 36 #[ptrV p, .int .i64 11] w fun e w' => e = .returned (.int .i64 11) ∧ StAt w' p bd S.broke ∧ Keeps [p] w w' := by
  obtain ⟨-, -, -, -, -, -, c6⟩ := h.cells
  have f6 : w.frozen? ⟨p, 6, none⟩ = false := free_blk h 6
  have hs : StAt (w.setCell ⟨p, 6, none⟩ (.bool true)) p bd S.broke := setCell_blk h 6 (.bool true)
  unfold ptrV
  go_enter Tryd.func36, Tryd.ntmps36
  cases hb : S.broken with
  | false =>
    rw [hb] at c6
    go_wp2_with fail
    go_ret
    exact ⟨rfl, hs, Keeps.one p 6 _⟩
  | true =>
    rw [hb] at c6
    go_wp2_with fail
    go_ret
    exact ⟨rfl, hs, Keeps.one p 6 _⟩
end Go.Proofs.YtepnbfpclhincaaDoor

namespace Go.Proofs.YtepnbfpclhincaaDoor
open Go.RowKit

/-- How 'lay', and what calls of a disk make of it, may end. -/
def LayPost (bd : Nat) (ps F : List Nat) (D : DiskM) (l : List (List UInt8)) (base : Nat) (cs : List (List UInt8)) (w : World) (e : Ending) (w' : World) : Prop :=
  ∃ F' D', DiskAt w' bd ps D' F' ∧ Moves F w F' w' ∧
    ((e = .returned (.int .i64 0) ∧ Up D' (over l base cs) ∧ (D.tleft = 0 → D'.tleft = 0)) ∨
     (e = .returned (.int .i64 11) ∧ D.tleft ≠ 0 ∧ ∃ l', Down D' l' ∧ SecUpd l l' base cs))

theorem Moves.not_mem {F G : List Nat} {a b : World} (h : Moves F a G b) {k : Nat} (hk : k ∉ F) (hl : k < a.heap.size) : k ∉ G := fun x => (h.2 k x).elim hk (fun y => by omega)
theorem Moves.of_drew {F G : List Nat} {a b : World} (h : Moves F a.drew G b) : Moves F a G b := ⟨h.1.of_drew, fun x hx => h.2 x hx⟩
theorem wrap_small (x : Int) (h0 : 0 ≤ x) (h1 : x ≤ 1000000000) : IntKind.i64.wrap x = x := by rw [IntKind.wrap_i64]; omega
theorem sec_wrap (m ix k : Nat) (hm : m ≤ 4096) (hi : ix ≤ 4096) (hk : k ≤ 4096) :
    IntKind.i64.wrap (IntKind.i64.wrap (IntKind.i64.wrap (1 + IntKind.i64.wrap (m : Int)) + (ix : Int)) + (k : Int)) = ((1 + m + ix + k : Nat) : Int) := by
  rw [wrap_small (m : Int) (by omega) (by omega), wrap_small (1 + (m : Int)) (by omega) (by omega), wrap_small (1 + (m : Int) + (ix : Int)) (by omega) (by omega), wrap_small _ (by omega) (by omega)]
  omega

set_option maxRecDepth 100000 in
set_option maxHeartbeats 1000000 in
theorem lay_any (w : World) (p bd : Nat) (ps : List Nat) (D : DiskM) (F : List Nat) (S : StM) (l : List (List UInt8)) (v : Value) (cs : List (List UInt8)) (half index : Nat)
    (h : DiskAt w bd ps D F) (hU : Up D l) (hs : StAt w p bd S) (hpF : p ∉ F) (hv : Texts w v cs) (hvF : ∀ k, k ∈ own v → k ∉ F) (hsz : S.sz ≤ 2047) (hhalf : half ≤ 1) (hin : 1 + half * S.sz + index + cs.length ≤ l.length) (hl : l.length ≤ 4096) (h64 : ∀ c ∈ cs, c.length = 64) :
    Calls Tryd.prog 35 #[ptrV p, .int .i64 half, .int .i64 index, v] w (LayPost bd ps F D l (1 + half * S.sz + index) cs w) := by
  obtain ⟨a, cap, rfl⟩ := ownsRow_form hv
  have hmul : ((half : Int) * (S.sz : Int)) = ((half * S.sz : Nat) : Int) := by push_cast; rfl
  have hcs : cs.length ≤ 4096 := by omega
  have hmle : half * S.sz ≤ 4096 := by omega
  have hix : index ≤ 4096 := by omega
  have HSt : Hid (∀ w' F', Moves F w F' w' → StAt w' p bd S) := fun w' F' m => hs.keeps m.1 hpF
  have HTx : Hid (∀ w' F', Moves F w F' w' → Texts w' (.slice a cs.length cap) cs) := fun w' F' m => ownsRow_keeps m.1 hv hvF
  have HM := Lib.hid hmul
  generalize half * S.sz = m at hmul hmle hin HM ⊢
  have HIn := Lib.hid hin
  have H64 := Lib.hid h64
  have hpw := hs.lt
  clear hin hvF h64
  unfold ptrV
  go_enter Tryd.func35, Tryd.ntmps35
  go_wp2_with fail
  go_loopw [14] (fun i wr => ∃ k : Nat, k ≤ cs.length ∧ i = .int .i64 k ∧ ∃ D' F', DiskAt wr bd ps D' F' ∧ Moves F w F' wr ∧ Upq D' l (qOf (1 + m + index) (cs.take k)) ∧ (D.tleft = 0 → D'.tleft = 0)) (fun i _ => cs.length - (intOf i).toNat)
  case atStart => exact ⟨0, by omega, rfl, D, F, h, Moves.refl _ _, hU, id⟩
  case round =>
    obtain ⟨k, hk, rfl, D', F', hD, hm, hUp, hlf⟩ := hrel
    by_cases hlt : k < cs.length
    · obtain ⟨g, cap', e, -, -, -, hcell, -⟩ := ownsRow_at (HTx.out _ _ hm) (by omega)
      simp only [Value.slice.injEq, true_and] at e
      obtain ⟨rfl, -⟩ := e
      have hck : wr.cell? ⟨g, k, none⟩ = some (strV cs[k]) := hcell k _ (by simp [List.getElem?_eq_getElem hlt])
      obtain ⟨s0, s1, s2, -⟩ := (HSt.out wr F' hm).cells
      have hx64 : cs[k].length = 64 := H64.out _ (List.getElem_mem hlt)
      have HS := Lib.hid (List.take_succ_eq_append_getElem hlt)
      generalize hx : cs[k] = x at hck hx64 HS
      have hql : (qOf (1 + m + index) (cs.take k)).length = k := by rw [qOf_length, List.length_take]; omega
      have hqs : qOf (1 + m + index) (cs.take (k + 1)) = qOf (1 + m + index) (cs.take k) ++ [(1 + m + index + k, x)] := by
        rw [HS.out, qOf_snoc, List.length_take, Nat.min_eq_left hk]
      have HW : Hid (∀ w' (y : Int), y = (1 + m + index + k : Nat) → Keeps [] wr w' → Calls Tryd.prog 41 #[.pointer (some ⟨bd, 0, none⟩), .int .i64 0, .int .i64 y, .string ⟨x.toArray⟩] w' (CallPost bd ps F' w' (D'.write 0 ⟨l, qOf (1 + m + index) (cs.take k)⟩ (1 + m + index + k) x))) := fun w' y hy hkw => by
        subst hy
        have := Write_ok w' bd ps D' F' 0 (1 + m + index + k) ⟨l, qOf (1 + m + index) (cs.take k)⟩ ⟨x.toArray⟩ (hD.keeps0 hkw) hUp.ok hUp.off hUp.reg (by have := HIn.out; show _ < l.length; omega) (by show (qOf _ _).length < _; rw [hql]; omega) (by rw [size_mk]; exact hx64)
        simpa [ptrV] using this
      have hR := hUp.write (sec := 1 + m + index + k) (by have := HIn.out; omega) (by rw [hql]; omega) x
      rw [← hqs] at hR
      generalize hwr : D'.write 0 ⟨l, qOf (1 + m + index) (cs.take k)⟩ (1 + m + index + k) x = r at HW hR
      have HH := Lib.hid (And.intro hm hlf)
      have hpF' : p ∉ F' := hm.not_mem hpF hpw
      have HSc : Hid (∀ w', Keeps F' wr w' → w'.cell? ⟨p, 0, none⟩ = some (.pointer (some ⟨bd, 0, none⟩)) ∧ w'.cell? ⟨p, 1, none⟩ = some (.int .i64 0) ∧ w'.cell? ⟨p, 2, none⟩ = some (.int .i64 S.sz)) := fun w' k => ⟨k.cell s0 hpF', k.cell s1 hpF', k.cell s2 hpF'⟩
      unfold strV at hck
      clear hpF' hpF hpw hcell hql hqs hx hwr hm hlf hD hUp hU hs hv h
      rcases hR with ⟨hr, hU1, hl1⟩ | ⟨hr, hn1, kp, hD1⟩
      · have HW1 : Hid (∀ w' (y : Int), y = (1 + m + index + k : Nat) → Keeps [] wr w' → Calls Tryd.prog 41 #[.pointer (some ⟨bd, 0, none⟩), .int .i64 0, .int .i64 y, .string ⟨x.toArray⟩] w' fun e w'' => e = .returned (.int .i64 0) ∧ ∃ F1, DiskAt w'' bd ps r.2 F1 ∧ Moves F' w' F1 w'') := fun w' y hy hkw =>
          (HW.out w' y hy hkw).mono fun e w'' h => ⟨by rw [h.1, hr]; rfl, h.2⟩
        have HU1 := Lib.hid (And.intro hU1 hl1)
        clear hr hU1 hl1 HW
        go_wp2_with fail
        go_region_held3 (fun w' => w'.cell? ⟨p, 0, none⟩ = some (.pointer (some ⟨bd, 0, none⟩)) ∧ w'.cell? ⟨p, 1, none⟩ = some (.int .i64 0) ∧ w'.cell? ⟨p, 2, none⟩ = some (.int .i64 S.sz)) ((first | assumption | exact HSc.out _ ((Keeps.refl _ _).drew) | exact HSc.out _ (Keeps.of_drew (‹Moves F' _ _ _›).1)))
          ((go_at_call 41; refine (HW1.out _ _ (sec_wrap m index k hmle hix (by omega)) ((Keeps.refl _ _).drew)).mono ?_; rintro e w1 ⟨rfl, F1, hD1, hm1⟩))
        clear hck
        go_wp2_with fail
        go_roundw
        case rel => exact ⟨k + 1, by omega, by go_num, r.2, F1, hD1, HH.out.1.trans (Moves.of_drew hm1), HU1.out.1, fun h => HU1.out.2 (HH.out.2 h)⟩
        case measure => simp [intOf]; omega
      · have HW1 : Hid (∀ w' (y : Int), y = (1 + m + index + k : Nat) → Keeps [] wr w' → Calls Tryd.prog 41 #[.pointer (some ⟨bd, 0, none⟩), .int .i64 0, .int .i64 y, .string ⟨x.toArray⟩] w' fun e w'' => e = .returned (.int .i64 11) ∧ ∃ F1, DiskAt w'' bd ps r.2 F1 ∧ Moves F' w' F1 w'') := fun w' y hy hkw =>
          (HW.out w' y hy hkw).mono fun e w'' h => ⟨by rw [h.1, hr]; rfl, h.2⟩
        have HU1 := Lib.hid (And.intro hn1 hD1)
        clear hr hn1 hD1 HW
        go_wp2_with fail
        go_region_held3 (fun w' => w'.cell? ⟨p, 0, none⟩ = some (.pointer (some ⟨bd, 0, none⟩)) ∧ w'.cell? ⟨p, 1, none⟩ = some (.int .i64 0) ∧ w'.cell? ⟨p, 2, none⟩ = some (.int .i64 S.sz)) ((first | assumption | exact HSc.out _ ((Keeps.refl _ _).drew) | exact HSc.out _ (Keeps.of_drew (‹Moves F' _ _ _›).1)))
          ((go_at_call 41; refine (HW1.out _ _ (sec_wrap m index k hmle hix (by omega)) ((Keeps.refl _ _).drew)).mono ?_; rintro e w1 ⟨rfl, F1, hD1, hm1⟩))
        clear hck
        go_wp2_with fail
        go_ret
        refine ⟨F1, r.2, hD1, HH.out.1.trans (Moves.of_drew hm1), .inr ⟨rfl, fun h => HU1.out.1 (HH.out.2 h), _, HU1.out.2, ?_⟩⟩
        exact (last_upd kp _ 0 l _).take
    · have hk2 : k = cs.length := by omega
      obtain ⟨s0, s1, s2, -⟩ := (HSt.out wr F' hm).cells
      have htk : cs.take k = cs := by rw [hk2, List.take_length]
      rw [htk] at hUp
      have hR := hUp.flush
      rw [last_over] at hR
      have hFl : Hid (∀ w', Keeps [] wr w' → Calls Tryd.prog 43 #[.pointer (some ⟨bd, 0, none⟩), .int .i64 0] w' (CallPost bd ps F' w' (D'.flush 0 ⟨l, qOf (1 + m + index) cs⟩))) := fun w' hkw => by
        have := Flush_ok w' bd ps D' F' 0 ⟨l, qOf (1 + m + index) cs⟩ (hD.keeps0 hkw) hUp.ok hUp.off hUp.reg
        simpa [ptrV] using this
      generalize hwr : D'.flush 0 ⟨l, qOf (1 + m + index) cs⟩ = r at hFl hR
      have HH := Lib.hid (And.intro hm hlf)
      have hpF' : p ∉ F' := hm.not_mem hpF hpw
      have HSc : Hid (∀ w', Keeps F' wr w' → w'.cell? ⟨p, 0, none⟩ = some (.pointer (some ⟨bd, 0, none⟩)) ∧ w'.cell? ⟨p, 1, none⟩ = some (.int .i64 0)) := fun w' k => ⟨k.cell s0 hpF', k.cell s1 hpF'⟩
      have HK := Lib.hid hk2
      clear hk2 htk hpF' hpF hpw hwr hm hlf hD hUp hU hs hv h
      rcases hR with ⟨hr, hU1, hl1⟩ | ⟨hr, hn1, kp, hD1⟩
      · have HW1 : Hid (∀ w', Keeps [] wr w' → Calls Tryd.prog 43 #[.pointer (some ⟨bd, 0, none⟩), .int .i64 0] w' fun e w'' => e = .returned (.int .i64 0) ∧ ∃ F1, DiskAt w'' bd ps r.2 F1 ∧ Moves F' w' F1 w'') := fun w' hkw =>
          (hFl.out w' hkw).mono fun e w'' h => ⟨by rw [h.1, hr]; rfl, h.2⟩
        have HU1 := Lib.hid (And.intro hU1 hl1)
        clear hr hU1 hl1 hFl
        go_wp2_with fail
        go_region_held3 (fun w' => w'.cell? ⟨p, 0, none⟩ = some (.pointer (some ⟨bd, 0, none⟩)) ∧ w'.cell? ⟨p, 1, none⟩ = some (.int .i64 0)) ((first | assumption | exact HSc.out _ ((Keeps.refl _ _).drew) | exact HSc.out _ (Keeps.of_drew (‹Moves F' _ _ _›).1)))
          ((go_at_call 43; refine (HW1.out _ ((Keeps.refl _ _).drew)).mono ?_; rintro e w1 ⟨rfl, F1, hD1, hm1⟩))
        go_wp2_with fail
        go_ret
        exact ⟨F1, r.2, hD1, HH.out.1.trans (Moves.of_drew hm1), .inl ⟨rfl, HU1.out.1, fun h => HU1.out.2 (HH.out.2 h)⟩⟩
      · have HW1 : Hid (∀ w', Keeps [] wr w' → Calls Tryd.prog 43 #[.pointer (some ⟨bd, 0, none⟩), .int .i64 0] w' fun e w'' => e = .returned (.int .i64 11) ∧ ∃ F1, DiskAt w'' bd ps r.2 F1 ∧ Moves F' w' F1 w'') := fun w' hkw =>
          (hFl.out w' hkw).mono fun e w'' h => ⟨by rw [h.1, hr]; rfl, h.2⟩
        have HU1 := Lib.hid (And.intro hn1 hD1)
        clear hr hn1 hD1 hFl
        go_wp2_with fail
        go_region_held3 (fun w' => w'.cell? ⟨p, 0, none⟩ = some (.pointer (some ⟨bd, 0, none⟩)) ∧ w'.cell? ⟨p, 1, none⟩ = some (.int .i64 0)) ((first | assumption | exact HSc.out _ ((Keeps.refl _ _).drew) | exact HSc.out _ (Keeps.of_drew (‹Moves F' _ _ _›).1)))
          ((go_at_call 43; refine (HW1.out _ ((Keeps.refl _ _).drew)).mono ?_; rintro e w1 ⟨rfl, F1, hD1, hm1⟩))
        go_wp2_with fail
        go_ret
        exact ⟨F1, r.2, hD1, HH.out.1.trans (Moves.of_drew hm1), .inr ⟨rfl, fun h => HU1.out.1 (HH.out.2 h), _, HU1.out.2, last_upd kp _ 0 l _⟩⟩
end Go.Proofs.YtepnbfpclhincaaDoor

namespace Go.Proofs.YtepnbfpclhincaaDoor
open Go.RowKit

theorem cellL_length (g i : Nat) (d : List UInt8) (h : d.length ≤ 55) : (cellL g i d).length = 64 := by simp [cellL]; omega
theorem splitL_length (g : Nat) : ∀ (n : Nat) (d : List UInt8) (i : Nat), d.length = n → (splitL g i d).length = n / 55 + 1 := by
  intro n
  induction n using Nat.strongRecOn with
  | _ n ih =>
    intro d i h
    by_cases hd : d.length < 55
    · rw [splitL_lt hd]; simp; omega
    · rw [splitL_ge hd, List.length_cons, ih (n - 55) (by omega) (d.drop 55) (i + 1) (by rw [List.length_drop]; omega)]; omega
theorem splitL_64 (g : Nat) : ∀ (n : Nat) (d : List UInt8) (i : Nat), d.length = n → ∀ c ∈ splitL g i d, c.length = 64 := by
  intro n
  induction n using Nat.strongRecOn with
  | _ n ih =>
    intro d i h c hc
    by_cases hd : d.length < 55
    · rw [splitL_lt hd] at hc; simp at hc; subst hc; exact cellL_length _ _ _ (by omega)
    · rw [splitL_ge hd] at hc
      rcases List.mem_cons.1 hc with rfl | hc
      · exact cellL_length _ _ _ (by rw [List.length_take]; omega)
      · exact ih (n - 55) (by omega) (d.drop 55) (i + 1) (by rw [List.length_drop]; omega) c hc
theorem half_le {half sz : Nat} (h : half ≤ 1) : half * sz ≤ sz := by
  have := Nat.mul_le_mul_right sz h; omega

/-- Of a stream that is whole. -/
structure StM.okay (S : StM) (l : List (List UInt8)) : Prop where
  sz1 : 1 ≤ S.sz
  sz2 : S.sz ≤ 2047
  half : S.half ≤ 1
  gen1 : 1 ≤ S.gen
  gen2 : S.gen ≤ 281474976710655
  data : S.data.length ≤ S.sz * 55 - 1
  broken : S.broken = false
  len : 1 + 2 * S.sz ≤ l.length
  len2 : l.length ≤ 4096

def appCode (S : StM) (n : Nat) : Int := if n = 0 then 2 else if 4096 < n then 5 else if S.sz * 55 - 1 - S.data.length < n + 6 then 12 else 0

theorem Append_nil (s : ByteArray) (w : World) : Calls Tryd.prog 11 #[.pointer none, .string s] w fun e w' => e = .returned (.int .i64 1) ∧ w = w' := by
  go_enter Tryd.func11, Tryd.ntmps11
  go_wp2_with fail
  refine (may_nil w).mono ?_
  rintro e w1 ⟨rfl, rfl⟩
  go_wp2_with fail
  go_ret
  exact ⟨rfl, rfl⟩

set_option maxHeartbeats 400000 in
theorem Append_no (w : World) (p bd : Nat) (S : StM) (l : List (List UInt8)) (s : ByteArray) (hs : StAt w p bd S) (ho : S.okay l) (hz : s.size ≤ 1152921504606846976) (hc : appCode S s.size ≠ 0) :
    Calls Tryd.prog 11 #[ptrV p, .string s] w fun e w' => e = .returned (.int .i64 (appCode S s.size)) ∧ Keeps [] w w' := by
  have hM := may_any w p bd S hs
  rw [ho.broken] at hM
  have HM : Hid (Calls Tryd.prog 32 #[ptrV p] w fun e w' => e = .returned (.int .i64 0) ∧ w = w') := hM
  clear hM
  unfold appCode at hc ⊢
  by_cases h0 : s.size = 0
  · rw [if_pos h0]
    have e : s = ⟨#[]⟩ := by
      apply ByteArray.ext; exact Array.eq_empty_of_size_eq_zero h0
    subst e
    clear h0 hc hz
    unfold ptrV at HM ⊢
    go_enter Tryd.func11, Tryd.ntmps11
    go_wp2_with fail
    refine (HM.out).mono ?_
    rintro e w1 ⟨rfl, rfl⟩
    go_wp2_with fail
    refine (FPut_empty w).mono ?_
    rintro e w1 ⟨rfl, rfl⟩
    go_wp2_with fail
    go_ret
    exact ⟨rfl, Keeps.refl _ _⟩
  · rw [if_neg h0] at hc ⊢
    by_cases h1 : 4096 < s.size
    · rw [if_pos h1]
      unfold ptrV at HM ⊢
      go_enter Tryd.func11, Tryd.ntmps11
      go_wp2_with fail
      refine (HM.out).mono ?_
      rintro e w1 ⟨rfl, rfl⟩
      go_wp2_with fail
      refine (FPut_long s h1 hz w).mono ?_
      rintro e w1 ⟨rfl, rfl⟩
      go_wp2_with fail
      go_ret
      exact ⟨rfl, Keeps.refl _ _⟩
    · rw [if_neg h1] at hc ⊢
      by_cases h2 : S.sz * 55 - 1 - S.data.length < s.size + 6
      · rw [if_pos h2]
        have hfl : (ByteArray.mk (frameL s.data.toList).toArray).size = s.size + 6 := by rw [size_mk, frameL_length, toList_length]
        have HP := Lib.hid (FPut_ok s (by omega) (by omega) w)
        have HL : Hid (∀ w', Keeps [] w w' → Calls Tryd.prog 13 #[ptrV p] w' fun e w'' => e = .returned (.int .i64 (S.sz * 55 - 1 - S.data.length : Nat)) ∧ Keeps [] w' w'') := fun w' k => Left_any w' p bd S (hs.keeps k (by simp)) ho.sz1 (by have := ho.sz2; omega) ho.data
        generalize ByteArray.mk (frameL s.data.toList).toArray = fd at HP hfl
        generalize S.sz * 55 - 1 - S.data.length = C at HL h2
        have b2 : decide ((C : Int) < fd.size) = true := decide_eq_true (by omega)
        have b3 : C < fd.size := by omega
        clear h2 hc h0 hfl
        unfold ptrV at HM HL ⊢
        go_enter Tryd.func11, Tryd.ntmps11
        go_wp2_with fail
        refine (HM.out).mono ?_
        rintro e w1 ⟨rfl, rfl⟩
        go_wp2_with fail
        refine (HP.out).mono ?_
        rintro e w1 ⟨rfl, hk1⟩
        go_wp2_with fail
        refine (HL.out _ hk1).mono ?_
        rintro e w2 ⟨rfl, hk2⟩
        go_wp2_with fail
        go_ret
        exact ⟨rfl, hk1.trans hk2⟩
      · exact absurd (if_neg h2) hc
end Go.Proofs.YtepnbfpclhincaaDoor

namespace Go.Proofs.YtepnbfpclhincaaDoor
open Go.RowKit

def StM.with (S : StM) (d : List UInt8) : StM := { S with data := d }
def appBase (S : StM) : Nat := 1 + S.half * S.sz + S.data.length / 55
def appCells (S : StM) (b : List UInt8) : List (List UInt8) := splitL S.gen (S.data.length / 55) ((S.data ++ frameL b).drop (S.data.length / 55 * 55))
def AppPost (p bd : Nat) (ps F : List Nat) (D : DiskM) (l : List (List UInt8)) (S : StM) (b : List UInt8) (w : World) (e : Ending) (w' : World) : Prop :=
  ∃ F' D', DiskAt w' bd ps D' F' ∧ p ∉ F' ∧ Moves (p :: F) w (p :: F') w' ∧
    ((e = .returned (.int .i64 0) ∧ Up D' (over l (appBase S) (appCells S b)) ∧ StAt w' p bd (S.with (S.data ++ frameL b)) ∧ (D.tleft = 0 → D'.tleft = 0)) ∨
     (e = .returned (.int .i64 11) ∧ D.tleft ≠ 0 ∧ ∃ l', Down D' l' ∧ SecUpd l l' (appBase S) (appCells S b)))

theorem Moves.cons {F G : List Nat} {a b : World} (p : Nat) (h : Moves F a G b) : Moves (p :: F) a (p :: G) b :=
  ⟨h.1.mono (fun x hx _ => List.mem_cons_of_mem _ hx), fun x hx => (List.mem_cons.1 hx).elim (fun e => .inl (by simp [e])) (fun y => (h.2 x y).imp (List.mem_cons_of_mem _) id)⟩
theorem Moves.own {F G : List Nat} {a b c : World} {p : Nat} (h : Moves (p :: F) a (p :: G) b) (k : Keeps [p] b c) : Moves (p :: F) a (p :: G) c :=
  h.trans ⟨k.mono (fun x hx _ => by simp at hx; simp [hx]), Fresh.refl _ _⟩

theorem tail_of {x : ByteArray} {l : List UInt8} (h : x = ⟨l.toArray⟩) (k n : Nat) (hn : x.size = n) (hk : k ≤ n) : (x.extract k n).data.toList = l.drop k := by
  have e : n = k + (n - k) := by omega
  rw [e, extract_sub, sub, h]
  have hl : l.length = n := by rw [← hn, h, size_mk]
  simp only []
  rw [List.take_of_length_le (by rw [List.length_drop]; simp [hl])]

set_option maxRecDepth 100000 in
set_option maxHeartbeats 1000000 in
theorem Append_go (w : World) (p bd : Nat) (ps F : List Nat) (D : DiskM) (l : List (List UInt8)) (S : StM) (s : ByteArray) (h : DiskAt w bd ps D F) (hU : Up D l) (hs : StAt w p bd S) (hpF : p ∉ F) (ho : S.okay l) (hc : appCode S s.size = 0) :
    Calls Tryd.prog 11 #[ptrV p, .string s] w (AppPost p bd ps F D l S s.data.toList w) := by
  have hM := may_any w p bd S hs
  rw [ho.broken] at hM
  have HM : Hid (Calls Tryd.prog 32 #[ptrV p] w fun e w' => e = .returned (.int .i64 0) ∧ w = w') := hM
  clear hM
  obtain ⟨h1, h2, h3⟩ : 1 ≤ s.size ∧ s.size ≤ 4096 ∧ s.size + 6 ≤ S.sz * 55 - 1 - S.data.length := by
    unfold appCode at hc
    by_cases h0 : s.size = 0
    · rw [if_pos h0] at hc; cases hc
    · rw [if_neg h0] at hc
      by_cases h1 : 4096 < s.size
      · rw [if_pos h1] at hc; cases hc
      · rw [if_neg h1] at hc
        by_cases h2 : S.sz * 55 - 1 - S.data.length < s.size + 6
        · rw [if_pos h2] at hc; cases hc
        · exact ⟨by omega, by omega, by omega⟩
  have hd := ho.data
  have hz1 := ho.sz1
  have hz2 := ho.sz2
  have hpw := hs.lt
  have hFl := h.lt
  -- the frame
  have hfl : (ByteArray.mk (frameL s.data.toList).toArray).size = s.size + 6 := by rw [size_mk, frameL_length, toList_length]
  have hsl : (ByteArray.mk S.data.toArray).size = S.data.length := size_mk _
  have HP := Lib.hid (FPut_ok s h1 h2 w)
  have HL : Hid (∀ w', Keeps [] w w' → Calls Tryd.prog 13 #[ptrV p] w' fun e w'' => e = .returned (.int .i64 (S.sz * 55 - 1 - S.data.length : Nat)) ∧ Keeps [] w' w'') := fun w' k => Left_any w' p bd S (hs.keeps k (by simp)) ho.sz1 (by omega) ho.data
  -- the data
  have hall : ByteArray.mk S.data.toArray ++ ByteArray.mk (frameL s.data.toList).toArray = ByteArray.mk (S.data ++ frameL s.data.toList).toArray := append_mk2 _ _
  have hdl : (S.data ++ frameL s.data.toList).length = S.data.length + (s.size + 6) := by rw [List.length_append, frameL_length, toList_length]
  obtain ⟨q, hq⟩ : ∃ q, q = S.data.length / 55 := ⟨_, rfl⟩
  have hqo : q * 55 ≤ S.data.length := by omega
  have hdr : ((S.data ++ frameL s.data.toList).drop (q * 55)).length = S.data.length + (s.size + 6) - q * 55 := by rw [List.length_drop, hdl]
  have hcl : (splitL S.gen q ((S.data ++ frameL s.data.toList).drop (q * 55))).length = (S.data.length + (s.size + 6) - q * 55) / 55 + 1 := splitL_length _ _ _ _ hdr
  have hc64 := splitL_64 S.gen _ _ q hdr
  have hbase := half_le (sz := S.sz) ho.half
  have hlen := ho.len
  have hcn : (S.data.length + (s.size + 6) - q * 55) / 55 + 1 + q ≤ S.sz := by omega
  have HSp : Hid (∀ w' (x : ByteArray), x.data.toList = (S.data ++ frameL s.data.toList).drop (q * 55) → Calls Tryd.prog 34 #[.int .i64 S.gen, .int .i64 q, .string x] w' (SplitPost S.gen q x.data.toList w')) := fun w' x hx => by
    have hxs : x.size = S.data.length + (s.size + 6) - q * 55 := by rw [← toList_length, hx, hdr]
    exact Split_ok S.gen q x ho.gen1 ho.gen2 (by omega) (by omega) w'
  have HLay : Hid (∀ w' v, DiskAt w' bd ps D F → StAt w' p bd S → Texts w' v (appCells S s.data.toList) → (∀ k, k ∈ own v → k ∉ F) → Calls Tryd.prog 35 #[ptrV p, .int .i64 S.half, .int .i64 q, v] w' (LayPost bd ps F D l (appBase S) (appCells S s.data.toList) w')) := fun w' v hd' hs' hv hn => by
    have he : appCells S s.data.toList = splitL S.gen q ((S.data ++ frameL s.data.toList).drop (q * 55)) := by unfold appCells; rw [hq]
    have hb : appBase S = 1 + S.half * S.sz + q := by unfold appBase; rw [hq]
    rw [hb]
    exact lay_any w' p bd ps D F S l v _ S.half q hd' hU hs' hpF hv hn ho.sz2 ho.half (by rw [he, hcl]; omega) ho.len2 (by rw [he]; exact hc64)
  have HCel : Hid (appCells S s.data.toList = splitL S.gen q ((S.data ++ frameL s.data.toList).drop (q * 55))) := by show _ = _; unfold appCells; rw [hq]
  have HSA : Hid (∀ w', Keeps [] w w' → StAt w' p bd S) := fun w' k => hs.keeps k (by simp)
  have HD := Lib.hid h
  have HFl := Lib.hid hFl
  have HpF := Lib.hid hpF
  generalize hsd : ByteArray.mk S.data.toArray = sd at hsl hall
  generalize hfd : ByteArray.mk (frameL s.data.toList).toArray = fd at hfl hall HP
  have HSA : Hid (∀ w', Keeps [] w w' → w'.cell? ⟨p, 3, none⟩ = some (.int .i64 S.gen) ∧ w'.cell? ⟨p, 4, none⟩ = some (.int .i64 S.half) ∧ w'.cell? ⟨p, 5, none⟩ = some (.string sd) ∧ StAt w' p bd S ∧ Keeps [] w w') := fun w' k => by
    have := HSA.out w' k
    obtain ⟨-, -, -, c3, c4, c5, -⟩ := this.cells
    exact ⟨c3, c4, by rw [← hsd]; exact c5, this, k⟩
  have hqi : ((sd.size : Int) / 55) = (q : Int) := by omega
  have hqw : IntKind.i64.wrap ((q : Int) * 55) = ((q * 55 : Nat) : Int) := by rw [wrap_small _ (by omega) (by omega)]; push_cast; rfl
  have hx1 : q * 55 ≤ sd.size + fd.size := by omega
  have hx2 : ¬ 9223372036854775807 < sd.size + fd.size := by omega
  have hx3 : (0 : Int) ≤ ((q * 55 : Nat) : Int) := by omega
  have hx4 : ((q * 55 : Nat) : Int) ≤ ((sd.size + fd.size : Nat) : Int) := by omega
  have hx5 : ((q * 55 : Nat) : Int) ≤ (sd.size : Int) + (fd.size : Int) := by omega
  have hx6 : (0 : Int) ≤ (q : Int) * 55 := by omega
  have hx7 : (q : Int) * 55 ≤ (sd.size : Int) + (fd.size : Int) := by omega
  have hx8 : ((q * 55 : Nat) : Int) = (q : Int) * 55 := by push_cast; rfl
  clear hx8
  have b7 : decide (((S.sz * 55 - 1 - S.data.length : Nat) : Int) < (fd.size : Int)) = false := decide_eq_false (by omega)
  have b8 : ¬ S.sz * 55 - 1 - S.data.length < fd.size := by omega
  generalize S.sz * 55 - 1 - S.data.length = C at HL b7 b8
  have HAll := Lib.hid hall
  clear hcl hc64 hbase hlen hcn hdr hdl hc hall hfl hsl h hFl hpF hs hU hq hd hz1 hz2 h3 ho hsd hfd h2 h1 hqo
  unfold ptrV at HM HL ⊢
  go_enter Tryd.func11, Tryd.ntmps11
  go_wp2_with fail
  refine (HM.out).mono ?_
  rintro e w1 ⟨rfl, rfl⟩
  go_wp2_with fail
  refine (HP.out).mono ?_
  rintro e w1 ⟨rfl, hk1⟩
  go_wp2_with fail
  refine (HL.out _ hk1).mono ?_
  rintro e w2 ⟨rfl, hk2⟩
  have HK2 := Lib.hid (hk1.trans hk2)
  obtain ⟨c3, c4, c5, -, -⟩ := HSA.out w2 HK2.out
  clear hk1 hk2
  go_wp2_with fail
  go_region_held3 (fun w' => w'.cell? ⟨p, 3, none⟩ = some (.int .i64 S.gen) ∧ Keeps [] w w') ((first | assumption | exact ⟨(HSA.out _ (HK2.out.drew)).1, HK2.out.drew⟩ | exact ⟨(HSA.out _ (Keeps.trans (‹_ ∧ Keeps [] w _›).2 (by assumption))).1, Keeps.trans (‹_ ∧ Keeps [] w _›).2 (by assumption)⟩))
    ((go_at_call 34; refine (HSp.out _ _ (tail_of HAll.out _ _ (by rw [ByteArray.size_append]) hx1)).mono ?_; rintro e w3 ⟨v, rfl, htx, hnew, hk3⟩))
  rename_i hheld
  have hk := hheld.2
  obtain ⟨av, nv, cv, ev⟩ : ∃ av nv cv, v = .slice av nv cv := by obtain ⟨a, c, e⟩ := ownsRow_form htx; exact ⟨_, _, _, e⟩
  subst ev
  have htx2 : Texts w3 (.slice av nv cv) (appCells S s.data.toList) := by
    rw [HCel.out]
    rw [tail_of HAll.out _ _ (by rw [ByteArray.size_append]) hx1] at htx
    exact htx
  have hnF : ∀ k, k ∈ own (.slice av nv cv) → k ∉ F := fun k hk' hkF => by
    have h1 := hnew k hk'
    have h2 := HFl.out k hkF
    have h3 := HK2.out.size
    have h4 : (World.drew w2).heap.size = w2.heap.size := rfl
    omega
  have HLy := Lib.hid (HLay.out w3 _ (HD.out.keeps0 hk) (HSA.out w3 hk).2.2.2.1 htx2 hnF)
  have c4' := (HSA.out w3 hk).2.1
  have HK := Lib.hid hk
  have HpF' := HpF.out
  clear hk hk3 hheld htx hnew htx2 hnF c3 c4 c5
  unfold ptrV at HLy
  go_wp2_with fail
  refine (HLy.out).mono ?_
  rintro e w4 ⟨F4, D4, hD4, hm4, ⟨rfl, hU4, hl4⟩ | ⟨rfl, hn4, l', hD', hsu⟩⟩
  · have hp4 : p ∉ F4 := hm4.not_mem HpF.out (by have := HK.out.size; omega)
    have hst4 : StAt w4 p bd S := (HSA.out w3 HK.out).2.2.2.1.keeps hm4.1 HpF.out
    have f5 : w4.frozen? ⟨p, 5, none⟩ = false := free_blk hst4 5
    have hst5 : StAt (w4.setCell ⟨p, 5, none⟩ (.string (sd ++ fd))) p bd (S.with (S.data ++ frameL s.data.toList)) := by
      rw [HAll.out]; exact setCell_blk hst4 5 _
    obtain ⟨-, -, -, -, -, d5, -⟩ := hst4.cells
    have hk5 : Keeps [p] w4 (w4.setCell ⟨p, 5, none⟩ (.string (sd ++ fd))) := Keeps.one p 5 _
    have hmv : Moves (p :: F) w (p :: F4) (w4.setCell ⟨p, 5, none⟩ (.string (sd ++ fd))) := ((Moves.after HK.out hm4 HFl.out).cons p).own hk5
    have HR : Hid (AppPost p bd ps F D l S s.data.toList w (.returned (.int .i64 0)) (w4.setCell ⟨p, 5, none⟩ (.string (sd ++ fd)))) :=
      ⟨F4, D4, hD4.keeps hk5 (fun k hk hk' => by simp at hk'; subst hk'; exact hp4 hk), hp4, hmv, .inl ⟨rfl, hU4, hst5, hl4⟩⟩
    clear hmv hk5 hst5 hst4 hU4 hl4 hD4 hm4 hp4
    go_wp2_with fail
    go_ret
    exact HR.out
  · have hp4 : p ∉ F4 := hm4.not_mem HpF.out (by have := HK.out.size; omega)
    have hst4 : StAt w4 p bd S := (HSA.out w3 HK.out).2.2.2.1.keeps hm4.1 HpF.out
    have HFd := Lib.hid (failed_any w4 p bd S hst4)
    have HR : Hid (∀ w', Keeps [p] w4 w' → AppPost p bd ps F D l S s.data.toList w (.returned (.int .i64 11)) w') := fun w' hk5 =>
      ⟨F4, D4, hD4.keeps hk5 (fun k hk hk' => by simp at hk'; subst hk'; exact hp4 hk), hp4, ((Moves.after HK.out hm4 HFl.out).cons p).own hk5, .inr ⟨rfl, hn4, l', hD', hsu⟩⟩
    clear hst4 hD4 hm4 hp4 hn4 hD' hsu
    unfold ptrV at HFd
    go_wp2_with fail
    refine (HFd.out).mono ?_
    rintro e w5 ⟨rfl, -, hk5⟩
    go_wp2_with fail
    go_ret
    exact HR.out _ hk5
end Go.Proofs.YtepnbfpclhincaaDoor

namespace Go.Proofs.YtepnbfpclhincaaDoor
open Go.RowKit

structure StM.can (S : StM) (l : List (List UInt8)) : Prop where
  sz1 : 1 ≤ S.sz
  sz2 : S.sz ≤ 2047
  half : S.half ≤ 1
  gen2 : S.gen ≤ 281474976710655
  broken : S.broken = false
  len : 1 + 2 * S.sz ≤ l.length
  len2 : l.length ≤ 4096
theorem StM.okay.can {S : StM} {l : List (List UInt8)} (h : S.okay l) : S.can l := ⟨h.sz1, h.sz2, h.half, h.gen2, h.broken, h.len, h.len2⟩

def framesL (ts : List (List UInt8)) : List UInt8 := ts.flatMap frameL
theorem framesL_snoc (ts : List (List UInt8)) (t : List UInt8) : framesL (ts ++ [t]) = framesL ts ++ frameL t := by simp [framesL]
theorem framesL_take (ts : List (List UInt8)) (k : Nat) : (framesL (ts.take k)).length ≤ (framesL ts).length := by
  have : framesL ts = framesL (ts.take k) ++ framesL (ts.drop k) := by
    unfold framesL; rw [← List.flatMap_append, List.take_append_drop]
  rw [this, List.length_append]; omega
def resBase (S : StM) : Nat := 1 + (1 - S.half) * S.sz
def resCells (S : StM) (ts : List (List UInt8)) : List (List UInt8) := splitL (S.gen + 1) 0 (framesL ts)
def resHead (S : StM) : List UInt8 := headL (S.gen + 1) (1 - S.half)
def StM.reset (S : StM) (ts : List (List UInt8)) : StM := { S with gen := S.gen + 1, half := 1 - S.half, data := framesL ts }
def ResPost (p bd : Nat) (ps F : List Nat) (D : DiskM) (l : List (List UInt8)) (S : StM) (ts : List (List UInt8)) (w : World) (e : Ending) (w' : World) : Prop :=
  ∃ F' D', DiskAt w' bd ps D' F' ∧ p ∉ F' ∧ Moves (p :: F) w (p :: F') w' ∧
    ((e = .returned (.int .i64 0) ∧ Up D' ((over l (resBase S) (resCells S ts)).set 0 (resHead S)) ∧ StAt w' p bd (S.reset ts) ∧ (D.tleft = 0 → D'.tleft = 0)) ∨
     (e = .returned (.int .i64 11) ∧ D.tleft ≠ 0 ∧ ∃ l1 l', Down D' l' ∧ SecUpd l l1 (resBase S) (resCells S ts) ∧ (l' = l1 ∨ (l1 = over l (resBase S) (resCells S ts) ∧ l' = l1.set 0 (resHead S)))))
theorem ResPost.fail {p bd : Nat} {ps F F' : List Nat} {D D' : DiskM} {l l1 l' : List (List UInt8)} {S : StM} {ts : List (List UInt8)} {w w4 w' : World} (hp : p ∉ F') (hd : DiskAt w4 bd ps D' F') (hm : Moves (p :: F) w (p :: F') w4) (hk : Keeps [p] w4 w') (hn : D.tleft ≠ 0) (hD : Down D' l') (hs : SecUpd l l1 (resBase S) (resCells S ts)) (hl : l' = l1 ∨ (l1 = over l (resBase S) (resCells S ts) ∧ l' = l1.set 0 (resHead S))) :
    ResPost p bd ps F D l S ts w (.returned (.int .i64 11)) w' :=
  ⟨F', D', hd.keeps hk (fun k hkF hk' => by simp at hk'; subst hk'; exact hp hkF), hp, hm.own hk, .inr ⟨rfl, hn, l1, l', hD, hs, hl⟩⟩
theorem last_one (kp : Nat → Bool) (x : List UInt8) (l : List (List UInt8)) : lastL kp 0 ([] ++ [(0, x)]) l = l ∨ lastL kp 0 ([] ++ [(0, x)]) l = l.set 0 x := by
  simp only [List.nil_append, lastL]; cases kp 0 <;> simp
theorem SecUpd.over (l : List (List UInt8)) (base : Nat) (cs : List (List UInt8)) : SecUpd l (over l base cs) base cs := by
  have := last_upd allKept cs 0 l base
  rwa [last_over] at this

set_option maxRecDepth 100000 in
theorem Reset_nil (v : Value) (w : World) : Calls Tryd.prog 12 #[.pointer none, v] w fun e w' => e = .returned (.int .i64 1) ∧ w = w' := by
  go_enter Tryd.func12, Tryd.ntmps12
  go_wp2_with fail
  refine (may_nil w).mono ?_
  rintro e w1 ⟨rfl, rfl⟩
  go_wp2_with fail
  go_ret
  exact ⟨rfl, rfl⟩

set_option maxRecDepth 100000 in
set_option maxHeartbeats 1000000 in
theorem Reset_full (w : World) (p bd : Nat) (l : List (List UInt8)) (S : StM) (v : Value) (ts : List (List UInt8)) (hs : StAt w p bd S) (ho : S.can l) (hv : Sees w v (ts.map strV)) (ht : ∀ t ∈ ts, 1 ≤ t.length ∧ t.length ≤ 4096) (hT : (framesL ts).length ≤ 16777216) (hc : S.sz * 55 - 1 < (framesL ts).length ∨ S.gen = 281474976710655) :
    Calls Tryd.prog 12 #[ptrV p, v] w fun e w' => e = .returned (.int .i64 12) ∧ Keeps [] w w' := by
  obtain ⟨a, cap, rfl, hc1, hc2, hcell⟩ := hv
  rw [List.length_map] at *
  have HC := Lib.hid hcell; clear hcell
  unfold maxLen at hc2
  have hM := may_any w p bd S hs
  rw [ho.broken] at hM
  have HM : Hid (Calls Tryd.prog 32 #[ptrV p] w fun e w' => e = .returned (.int .i64 0) ∧ w = w') := hM
  clear hM
  have hpw := hs.lt
  have HSA : Hid (∀ w', Keeps [] w w' → w'.cell? ⟨p, 3, none⟩ = some (.int .i64 S.gen) ∧ StAt w' p bd S) := fun w' k => by
    have := hs.keeps k (by simp)
    exact ⟨this.cells.2.2.2.1, this⟩
  have HCap : Hid (∀ w', Keeps [] w w' → Calls Tryd.prog 39 #[ptrV p] w' fun e w'' => e = .returned (.int .i64 (S.sz * 55 - 1 : Nat)) ∧ w' = w'') := fun w' k => capacity_any w' p bd S (hs.keeps k (by simp)) ho.sz1 (by have := ho.sz2; omega)
  have hg2 := ho.gen2
  generalize S.sz * 55 - 1 = C at HCap hc
  unfold ptrV at HM HCap ⊢
  clear hs
  go_enter Tryd.func12, Tryd.ntmps12
  go_wp2_with fail
  refine (HM.out).mono ?_
  rintro e w1 ⟨rfl, rfl⟩
  go_wp2_with fail
  refine wp_alloc1 ?_
  intro W hW hbox hWs
  have hB0 : IsB w.heap.size w.heap.size [] W := .inl ⟨Nat.le_refl _, .slice none 0 0, hbox, World.ownsRowF_nil _ _ _ _, by simp [Value.ownBlock]⟩
  clear hbox
  go_loopw [24] (fun i wr => ∃ k : Nat, k ≤ ts.length ∧ i = .int .i64 k ∧ IsB w.heap.size w.heap.size (framesL (ts.take k)) wr ∧ Below w.heap.size w wr) (fun i _ => ts.length - (intOf i).toNat)
  case atStart => exact ⟨0, by omega, rfl, hB0, hW.below⟩
  case round =>
    obtain ⟨k, hk, rfl, hB, hbl⟩ := hrel
    have hal := framesL_take ts k
    have hsz := hbl.size
    by_cases hlt : k < ts.length
    · have hlt' : k < (ts.map strV).length := by simpa using hlt
      obtain ⟨b, off, rfl, hb, hcell⟩ := HC.out.resolve_left (by intro h; rw [h] at hlt'; simp at hlt')
      have hck : wr.cell? ⟨b, off + k, none⟩ = some (strV ts[k]) := by
        rw [hbl.cell (by exact hb)]; exact hcell k _ (by simp [List.getElem?_eq_getElem hlt])
      have hxs := ht _ (List.getElem_mem hlt)
      have HS := Lib.hid (List.take_succ_eq_append_getElem hlt)
      generalize hx : ts[k] = x at hck hxs HS
      have HP := Lib.hid (FPut_ok ⟨x.toArray⟩ (by rw [size_mk]; omega) (by rw [size_mk]; omega) wr)
      have ex : (ByteArray.mk x.toArray).data.toList = x := by simp
      rw [ex] at HP
      have HA := Lib.hid hal
      clear hcell hx ex hal
      unfold strV at hck
      go_wp2_with fail
      refine (HP.out).mono ?_
      rintro e w1 ⟨rfl, hk1⟩
      have hB1 := IsB_keeps hB hk1
      have hbl1 := Below.keeps hbl hk1 hsz
      have hz := hbl1.size
      have HB1 := Lib.hid hB1; have HBL1 := Lib.hid hbl1
      have HWS := Lib.hid (WriteString_any w.heap.size w.heap.size (framesL (ts.take k)) ⟨(frameL x).toArray⟩ w1 hB1 (by rw [size_mk, frameL_length]; have := HA.out; omega) hz)
      clear hB hbl hB1 hbl1 hk1
      go_wp2_with fail
      refine (HWS.out).mono ?_
      rintro e w2 ⟨rfl, hB3, hbl2, -⟩
      go_wp2_with fail
      go_roundw
      case rel => exact ⟨k + 1, by omega, by go_num, by rw [HS.out, framesL_snoc]; exact hB3, HBL1.out.trans hbl2⟩
      case measure => simp [intOf]; omega
    · have hk2 : k = ts.length := by omega
      have htk : ts.take k = ts := by rw [hk2, List.take_length]
      rw [htk] at hB hal
      have hkk : Keeps [] w wr := .of_below hbl
      have c3 := (HSA.out wr hkk).1
      have HB := Lib.hid hB
      have HK := Lib.hid hkk
      have HLn := Lib.hid (BLen_any w.heap.size w.heap.size (framesL ts) wr hB)
      have HK2 := Lib.hid hk2
      generalize (framesL ts).length = N at HLn hc
      clear hk2 htk hB hkk hbl hal
      by_cases hcc : C < N
      · have b1 : decide ((C : Int) < N) = true := decide_eq_true (by omega)
        go_wp2_with fail
        refine (HLn.out).mono ?_
        rintro e w1 ⟨rfl, rfl⟩
        go_wp2_with fail
        refine (HCap.out wr HK.out).mono ?_
        rintro e w1 ⟨rfl, rfl⟩
        go_wp2_with fail
        go_ret
        exact ⟨rfl, HK.out⟩
      · have b1 : decide ((C : Int) < N) = false := decide_eq_false (by omega)
        have hg : S.gen = 281474976710655 := hc.resolve_left hcc
        rw [hg] at c3
        clear hg hg2 hc
        go_wp2_with fail
        refine (HLn.out).mono ?_
        rintro e w1 ⟨rfl, rfl⟩
        go_wp2_with fail
        refine (HCap.out wr HK.out).mono ?_
        rintro e w1 ⟨rfl, rfl⟩
        go_wp2_with fail
        go_ret
        exact ⟨rfl, HK.out⟩
end Go.Proofs.YtepnbfpclhincaaDoor

namespace Go.Proofs.YtepnbfpclhincaaDoor
open Go.RowKit

theorem BString_k (B b : Nat) (bs : List UInt8) (w : World) (h : IsB B b bs w) (hBw : B ≤ w.heap.size) :
    Calls Tryd.prog 40 #[.pointer (some ⟨b, 0, none⟩)] w fun e w' => e = .returned (.string ⟨bs.toArray⟩) ∧ IsB B b bs w' ∧ Below B w w' ∧ Lib.OthersKept 5 (some b) w w' :=
  Tryd.Builder_String_any_k B b bs w h hBw
theorem IsB_type {B b : Nat} {bs : List UInt8} {w : World} (h : IsB B b bs w) : ∃ c, w.heap[b]? = some (.cells c 82 (0, 0)) := by
  rcases h with ⟨_, v, hb, _⟩ | ⟨_, v, hb, _⟩ <;> exact ⟨_, hb⟩
theorem own_others {w w' : World} {b : Nat} {e : TypeId} {size : Nat} {v : Value} {n : Nat} {xs : List Value} (ho : Lib.OthersKept 5 (some b) w w') (hb : ∃ c, w.heap[b]? = some (.cells c 82 (0, 0))) (h : Own w e size v n xs) (he : e ≠ 5) (he2 : e ≠ 82) : Own w' e size v n xs := by
  refine ⟨h.1, ?_⟩
  rcases h.2 with hx | ⟨g, cap, cur, rfl, hb', hg, r⟩
  · exact .inl hx
  · refine .inr ⟨g, cap, cur, rfl, hb', ho g _ hg (fun x => ?_) (fun c fz x => ?_), r⟩
    · injection x with x; subst x
      obtain ⟨c, hc⟩ := hb
      have := hc.symm.trans hg
      injection this with this; injection this with _ e2 _; exact he2 e2.symm
    · injection x with _ e2 _; exact he e2
theorem cells_others {w w' : World} {b k : Nat} {cur : Array Value} {t : TypeId} (ho : Lib.OthersKept 5 (some b) w w') (hb : ∃ c, w.heap[b]? = some (.cells c 82 (0, 0))) (h : w.heap[k]? = some (.cells cur t (0, 0))) (he : t ≠ 5) (he2 : t ≠ 82) : w'.heap[k]? = some (.cells cur t (0, 0)) :=
  ho k _ h (fun x => by
    injection x with x; subst x
    obtain ⟨c, hc⟩ := hb
    have := hc.symm.trans h
    injection this with this; injection this with _ e2 _; exact he2 e2.symm) (fun c fz x => by injection x with _ e2 _; exact he e2)
theorem DiskAt.others {w w' : World} {bd b : Nat} {ps : List Nat} {D : DiskM} {F : List Nat} (h : DiskAt w bd ps D F) (ho : Lib.OthersKept 5 (some b) w w') (hb : ∃ c, w.heap[b]? = some (.cells c 82 (0, 0))) (hz : w.heap.size ≤ w'.heap.size) : DiskAt w' bd ps D F := by
  obtain ⟨rs, vk, f, h⟩ := h
  refine ⟨rs, vk, f, ⟨cells_others ho hb h.head (by decide) (by decide), own_others ho hb h.rsOwn (by decide) (by decide), own_others ho hb h.vkOwn (by decide) (by decide), h.len, ?_, h.apart, h.bdF, h.rsF, h.vkF, h.fF, fun k hk => Nat.lt_of_lt_of_le (h.lt k hk) hz⟩⟩
  intro i b' R h1 h2
  obtain ⟨vl, vq, g1, g2, g3, g4⟩ := (h.reg i b' R h1 h2).ex
  exact ⟨vl, vq, cells_others ho hb g1 (by decide) (by decide), own_others ho hb g2 (by decide) (by decide), own_others ho hb g3 (by decide) (by decide), g4⟩
end Go.Proofs.YtepnbfpclhincaaDoor

namespace Go.Proofs.YtepnbfpclhincaaDoor
open Go.RowKit

theorem Keeps.belowR {F : List Nat} {a b c : World} (h : Keeps F a b) (k : Below a.heap.size b c) : Keeps F a c :=
  ⟨by first | exact h.os.trans k.os | exact k.os.trans h.os, by first | exact h.tape.trans k.tape | exact k.tape.trans h.tape, by first | exact h.output.trans k.output | exact k.output.trans h.output, Nat.le_trans h.size k.size, fun i hi hn => by first | exact (k.block i hi).trans (h.block i hi hn) | exact (h.block i hi hn).trans (k.block i hi)⟩
theorem IsBA_keepsF {F : List Nat} {T e : TypeId} {B b : Nat} {p : Value} {bs : List Value} {w w' : World} (h : Lib.BuilderAtF T e B b p bs w) (k : Keeps F w w') (hF : ∀ x ∈ F, x < B) : Lib.BuilderAtF T e B b p bs w' := by
  obtain ⟨hB, v, hb, hown, hne⟩ := h
  refine ⟨hB, v, k.heap hb (fun x => by have := hF _ x; omega), ⟨hown.1, ?_⟩, hne⟩
  rcases hown.2 with hx | ⟨g, cap, cur, fz, rfl, hbg, hg, r⟩
  · exact .inl hx
  · exact .inr ⟨g, cap, cur, fz, rfl, hbg, k.heap hg (fun x => by have := hF _ x; omega), r⟩
theorem IsB_keepsF {F : List Nat} {B b : Nat} {bs : List UInt8} {w w' : World} (h : IsB B b bs w) (k : Keeps F w w') (hF : ∀ x ∈ F, x < B) : IsB B b bs w' :=
  h.imp (fun h => IsBA_keepsF h k hF) (fun h => IsBA_keepsF h k hF)

set_option maxRecDepth 100000 in
set_option maxHeartbeats 2000000 in
theorem Reset_go (w : World) (p bd : Nat) (ps F : List Nat) (D : DiskM) (l : List (List UInt8)) (S : StM) (v : Value) (ts : List (List UInt8)) (h : DiskAt w bd ps D F) (hU : Up D l) (hs : StAt w p bd S) (hpF : p ∉ F) (ho : S.can l) (hv : Sees w v (ts.map strV)) (ht : ∀ t ∈ ts, 1 ≤ t.length ∧ t.length ≤ 4096) (hT : (framesL ts).length ≤ 16777216) (hc : (framesL ts).length ≤ S.sz * 55 - 1) (hgen : S.gen < 281474976710655) :
    Calls Tryd.prog 12 #[ptrV p, v] w (ResPost p bd ps F D l S ts w) := by
  obtain ⟨a, cap, rfl, hc1, hc2, hcell⟩ := hv
  rw [List.length_map] at *
  have HC := Lib.hid hcell; clear hcell
  unfold maxLen at hc2
  have hM := may_any w p bd S hs
  rw [ho.broken] at hM
  have HM : Hid (Calls Tryd.prog 32 #[ptrV p] w fun e w' => e = .returned (.int .i64 0) ∧ w = w') := hM
  clear hM
  have hpw := hs.lt
  have HSA : Hid (∀ w', Keeps [] w w' → w'.cell? ⟨p, 3, none⟩ = some (.int .i64 S.gen) ∧ w'.cell? ⟨p, 4, none⟩ = some (.int .i64 S.half) ∧ StAt w' p bd S) := fun w' k => by
    have := hs.keeps k (by simp)
    exact ⟨this.cells.2.2.2.1, this.cells.2.2.2.2.1, this⟩
  have HCap : Hid (∀ w', Keeps [] w w' → Calls Tryd.prog 39 #[ptrV p] w' fun e w'' => e = .returned (.int .i64 (S.sz * 55 - 1 : Nat)) ∧ w' = w'') := fun w' k => capacity_any w' p bd S (hs.keeps k (by simp)) ho.sz1 (by have := ho.sz2; omega)
  have HD := Lib.hid h
  have HpF := Lib.hid hpF
  have HFl := Lib.hid h.lt
  have hbase := half_le (half := 1 - S.half) (sz := S.sz) (by omega)
  have hlen := ho.len
  have hz2 := ho.sz2
  have hcl : (resCells S ts).length = (framesL ts).length / 55 + 1 := splitL_length _ _ _ _ rfl
  have hT55 : (framesL ts).length / 55 + 1 ≤ S.sz := by have := ho.sz1; omega
  have hg2 : S.gen < 281474976710655 := hgen
  have hSp : ∀ w' (y : Int), y = (S.gen + 1 : Nat) → Calls Tryd.prog 34 #[.int .i64 y, .int .i64 0, .string ⟨(framesL ts).toArray⟩] w' (SplitPost (S.gen + 1) 0 (framesL ts) w') := fun w' y hy => by
    subst hy
    have := Split_ok (S.gen + 1) 0 ⟨(framesL ts).toArray⟩ (by omega) (by omega) (by rw [size_mk]; omega) (by omega) w'
    simpa using this
  have HSp := Lib.hid hSp
  have hH := ho.half
  have HHd : Hid (∀ w' (y : Int), y = (S.gen + 1 : Nat) → Calls Tryd.prog 42 #[.int .i64 y, .int .i64 (1 - S.half : Nat)] w' fun e w'' => e = .returned (.string ⟨(resHead S).toArray⟩) ∧ Keeps [] w' w'') := fun w' y hy => by
    subst hy; exact head_any (S.gen + 1) (1 - S.half) (by omega) (by omega) w'
  have HLay : Hid (∀ w' v, DiskAt w' bd ps D F → StAt w' p bd S → Texts w' v (resCells S ts) → (∀ k, k ∈ own v → k ∉ F) → Calls Tryd.prog 35 #[ptrV p, .int .i64 (1 - S.half : Nat), .int .i64 0, v] w' (LayPost bd ps F D l (resBase S) (resCells S ts) w')) := fun w' v hd' hs' hv hn =>
    lay_any w' p bd ps D F S l v _ (1 - S.half) 0 hd' hU hs' hpF hv hn ho.sz2 (by omega) (by rw [hcl]; omega) ho.len2 (splitL_64 _ _ _ _ rfl)
  have hl0 : 0 < l.length := by omega
  have hhw : IntKind.i64.wrap (1 - (S.half : Int)) = ((1 - S.half : Nat) : Int) := by rw [wrap_small _ (by omega) (by omega)]; omega
  have hgw : IntKind.i64.wrap ((S.gen : Int) + 1) = ((S.gen + 1 : Nat) : Int) := by rw [IntKind.wrap_i64]; omega
  have HRS : Hid (StM.reset S ts = { S with gen := S.gen + 1, half := 1 - S.half, data := framesL ts }) := rfl
  have hgl : ¬ 281474976710655 ≤ S.gen := by omega
  have b5 : decide (281474976710655 ≤ (S.gen : Int)) = false := decide_eq_false (by omega)
  have HCel : Hid (resCells S ts = splitL (S.gen + 1) 0 (framesL ts)) := rfl
  generalize hg' : S.gen + 1 = g' at HSp HHd hgw HRS HCel
  generalize hh' : 1 - S.half = h' at HHd HLay hhw HRS
  generalize S.sz * 55 - 1 = C at HCap hc
  unfold ptrV at HM HCap ⊢
  have HO := Lib.hid ho
  clear hs h hU hpF ho hSp hbase hlen hz2 hcl hT55 hg2 hH hg' hh'
  go_enter Tryd.func12, Tryd.ntmps12
  go_wp2_with fail
  refine (HM.out).mono ?_
  rintro e w1 ⟨rfl, rfl⟩
  go_wp2_with fail
  refine wp_alloc1 ?_
  intro W hW hbox hWs
  have hB0 : IsB w.heap.size w.heap.size [] W := .inl ⟨Nat.le_refl _, .slice none 0 0, hbox, World.ownsRowF_nil _ _ _ _, by simp [Value.ownBlock]⟩
  clear hbox
  go_loopw [24] (fun i wr => ∃ k : Nat, k ≤ ts.length ∧ i = .int .i64 k ∧ IsB w.heap.size w.heap.size (framesL (ts.take k)) wr ∧ Below w.heap.size w wr) (fun i _ => ts.length - (intOf i).toNat)
  case atStart => exact ⟨0, by omega, rfl, hB0, hW.below⟩
  case round =>
    obtain ⟨k, hk, rfl, hB, hbl⟩ := hrel
    have hal := framesL_take ts k
    have hsz := hbl.size
    by_cases hlt : k < ts.length
    · have hlt' : k < (ts.map strV).length := by simpa using hlt
      obtain ⟨b, off, rfl, hb, hcell⟩ := HC.out.resolve_left (by intro h; rw [h] at hlt'; simp at hlt')
      have hck : wr.cell? ⟨b, off + k, none⟩ = some (strV ts[k]) := by
        rw [hbl.cell (by exact hb)]; exact hcell k _ (by simp [List.getElem?_eq_getElem hlt])
      have hxs := ht _ (List.getElem_mem hlt)
      have HS := Lib.hid (List.take_succ_eq_append_getElem hlt)
      generalize hx : ts[k] = x at hck hxs HS
      have HP := Lib.hid (FPut_ok ⟨x.toArray⟩ (by rw [size_mk]; omega) (by rw [size_mk]; omega) wr)
      have ex : (ByteArray.mk x.toArray).data.toList = x := by simp
      rw [ex] at HP
      have HA := Lib.hid hal
      clear hcell hx ex hal
      unfold strV at hck
      go_wp2_with fail
      refine (HP.out).mono ?_
      rintro e w1 ⟨rfl, hk1⟩
      have hB1 := IsB_keeps hB hk1
      have hbl1 := Below.keeps hbl hk1 hsz
      have hz := hbl1.size
      have HB1 := Lib.hid hB1; have HBL1 := Lib.hid hbl1
      have HWS := Lib.hid (WriteString_any w.heap.size w.heap.size (framesL (ts.take k)) ⟨(frameL x).toArray⟩ w1 hB1 (by rw [size_mk, frameL_length]; have := HA.out; omega) hz)
      clear hB hbl hB1 hbl1 hk1
      go_wp2_with fail
      refine (HWS.out).mono ?_
      rintro e w2 ⟨rfl, hB3, hbl2, -⟩
      go_wp2_with fail
      go_roundw
      case rel => exact ⟨k + 1, by omega, by go_num, by rw [HS.out, framesL_snoc]; exact hB3, HBL1.out.trans hbl2⟩
      case measure => simp [intOf]; omega
    · have hk2 : k = ts.length := by omega
      have htk : ts.take k = ts := by rw [hk2, List.take_length]
      rw [htk] at hB hal
      have hkk : Keeps [] w wr := .of_below hbl
      obtain ⟨c3, c4, hst⟩ := HSA.out wr hkk
      have HB := Lib.hid hB
      have HK := Lib.hid hbl
      have HLn := Lib.hid (BLen_any w.heap.size w.heap.size (framesL ts) wr hB)
      have HCp := Lib.hid (HCap.out wr hkk)
      have HK2 := Lib.hid hk2
      generalize (framesL ts).length = N at HLn hc
      have b1 : decide ((C : Int) < N) = false := decide_eq_false (by omega)
      have b2 : ¬ C < N := by omega
      clear hk2 htk hB hkk hbl hal HC HM hst HCap
      go_wp2_with fail
      refine (HLn.out).mono ?_
      rintro e w1 ⟨rfl, rfl⟩
      go_wp2_with fail
      refine (HCp.out).mono ?_
      rintro e w1 ⟨rfl, rfl⟩
      clear HLn HCp hc
      go_wp2_with fail
      have HSg : Hid (∀ w', Below w.heap.size w w' → w'.cell? ⟨p, 3, none⟩ = some (.int .i64 S.gen)) := fun w' k => (HSA.out w' (.of_below k)).1
      go_region_held3 (fun w' => w'.cell? ⟨p, 3, none⟩ = some (.int .i64 S.gen) ∧ IsB w.heap.size w.heap.size (framesL ts) w' ∧ Below w.heap.size w w') ((first | assumption | exact ⟨HSg.out _ (Below.keeps HK.out ((Keeps.refl _ _).drew) HK.out.size), IsB_keeps HB.out ((Keeps.refl _ _).drew), Below.keeps HK.out ((Keeps.refl _ _).drew) HK.out.size⟩ | exact ⟨HSg.out _ ((‹_ ∧ _ ∧ Below w.heap.size w _›).2.2.trans (by assumption)), by assumption, (‹_ ∧ _ ∧ Below w.heap.size w _›).2.2.trans (by assumption)⟩ | exact ⟨HSg.out _ (Below.keeps (‹_ ∧ _ ∧ Below w.heap.size w _›).2.2 (by assumption) (‹_ ∧ _ ∧ Below w.heap.size w _›).2.2.size), IsB_keeps (‹_ ∧ _ ∧ Below w.heap.size w _›).2.1 (by assumption), Below.keeps (‹_ ∧ _ ∧ Below w.heap.size w _›).2.2 (by assumption) (‹_ ∧ _ ∧ Below w.heap.size w _›).2.2.size⟩))
        (first
          | (go_at_call 40; refine (BString_any w.heap.size w.heap.size (framesL ts) _ (‹_ ∧ IsB _ _ _ _ ∧ Below w.heap.size w _›).2.1 (‹_ ∧ _ ∧ Below w.heap.size w _›).2.2.size).mono ?_; rintro e w5 ⟨rfl, hB5, hbl5⟩)
          | (go_at_call 34; refine (HSp.out _ _ (by omega)).mono ?_; rintro e w6 ⟨v6, rfl, htx6, hnew6, hk6⟩))
      rename_i hheld
      obtain ⟨av, nv, cv, ev⟩ : ∃ av nv cv, v6 = .slice av nv cv := by obtain ⟨a, c, e⟩ := ownsRow_form htx6; exact ⟨_, _, _, e⟩
      subst ev
      have hbl6 := hheld.2.2
      have hnF : ∀ k, k ∈ own (.slice av nv cv) → k ∉ F := fun k hk' hkF => by
        have h1 := hnew6 k hk'
        have h2 := HFl.out k hkF
        have h3 := HK.out.size
        have h4 := hbl5.size
        have h5 : (World.drew wr).heap.size = wr.heap.size := rfl
        omega
      have HLy := Lib.hid (HLay.out w6 _ (HD.out.keeps0 (.of_below hbl6)) (HSA.out w6 (.of_below hbl6)).2.2 (by rw [HCel.out]; exact htx6) hnF)
      have HB6 := Lib.hid hheld.2.1
      have HK6 := Lib.hid hbl6
      clear hheld htx6 hnew6 hk6 hbl6 hnF hB5 hbl5 c3 c4 b1 b2 HB HK HLay
      unfold ptrV at HLy
      go_wp2_with fail
      refine (HLy.out).mono ?_
      rintro e w7 ⟨F7, D7, hD7, hm7, ⟨rfl, hU7, hl7⟩ | ⟨rfl, hn7, l', hD', hsu⟩⟩
      · have hp7 : p ∉ F7 := hm7.not_mem HpF.out (by have := HK6.out.size; omega)
        have hst7 : StAt w7 p bd S := ((HSA.out w6 (.of_below HK6.out)).2.2).keeps hm7.1 HpF.out
        have HMV : Hid (Moves F w F7 w7) := Moves.after (.of_below HK6.out) hm7 HFl.out
        have HB7 : Hid (IsB w.heap.size w.heap.size (framesL ts) w7) := IsB_keepsF HB6.out hm7.1 (fun x hx => HFl.out x hx)
        have hz7 : w.heap.size ≤ w7.heap.size := HMV.out.1.size
        obtain ⟨l4, hl4⟩ : ∃ l4, l4 = over l (resBase S) (resCells S ts) := ⟨_, rfl⟩
        rw [← hl4] at hU7
        have hl40 : 0 < l4.length := by rw [hl4, over_length]; exact hl0
        have hhl : (resHead S).length = 64 := headL_length _ _
        have HW : Hid (∀ w', Keeps [] w7 w' → Calls Tryd.prog 41 #[.pointer (some ⟨bd, 0, none⟩), .int .i64 0, .int .i64 0, .string ⟨(resHead S).toArray⟩] w' (CallPost bd ps F7 w' (D7.write 0 ⟨l4, []⟩ 0 (resHead S)))) := fun w' hkw => by
          have := Write_ok w' bd ps D7 F7 0 0 ⟨l4, []⟩ ⟨(resHead S).toArray⟩ (hD7.keeps0 hkw) hU7.ok hU7.off hU7.reg hl40 (by simp) (by rw [size_mk]; exact hhl)
          simpa [ptrV] using this
        have hR := hU7.write (sec := 0) hl40 (by simp) (resHead S)
        generalize hwr : D7.write 0 ⟨l4, []⟩ 0 (resHead S) = r at HW hR
        obtain ⟨s0, s1, -, s3, -, -, -⟩ := hst7.cells
        have HSc : Hid (∀ w', Keeps F7 w7 w' → w'.cell? ⟨p, 0, none⟩ = some (.pointer (some ⟨bd, 0, none⟩)) ∧ w'.cell? ⟨p, 1, none⟩ = some (.int .i64 0) ∧ w'.cell? ⟨p, 3, none⟩ = some (.int .i64 S.gen)) := fun w' k => ⟨k.cell s0 hp7, k.cell s1 hp7, k.cell s3 hp7⟩
        have HST := Lib.hid hst7
        have HL4 := Lib.hid hl4
        have HP7 := Lib.hid hp7
        have HLF := Lib.hid hl7
        have HM6 := Lib.hid hm7
        clear hp7 hst7 hm7 hhl hwr hU7 hD7 s0 s1 s3 hl4 hl40 hl7 HK6 HLy HSp
        rcases hR with ⟨hr, hU1, hl1⟩ | ⟨hr, hn1, kp, hD1⟩
        · have HW1 : Hid (∀ w', Keeps [] w7 w' → Calls Tryd.prog 41 #[.pointer (some ⟨bd, 0, none⟩), .int .i64 0, .int .i64 0, .string ⟨(resHead S).toArray⟩] w' fun e w'' => e = .returned (.int .i64 0) ∧ ∃ F1, DiskAt w'' bd ps r.2 F1 ∧ Moves F7 w' F1 w'') := fun w' hkw =>
            (HW.out w' hkw).mono fun e w'' h => ⟨by rw [h.1, hr]; rfl, h.2⟩
          have HU1 := Lib.hid (And.intro hU1 hl1)
          clear hr hU1 hl1 HW
          go_wp2_with fail
          go_region_held3 (fun w' => w'.cell? ⟨p, 0, none⟩ = some (.pointer (some ⟨bd, 0, none⟩)) ∧ w'.cell? ⟨p, 1, none⟩ = some (.int .i64 0) ∧ w'.cell? ⟨p, 3, none⟩ = some (.int .i64 S.gen)) ((first | assumption | exact HSc.out _ ((Keeps.refl _ _).drew) | exact HSc.out _ (Keeps.nil ((Keeps.of_drew (by assumption)))) | exact HSc.out _ (Keeps.trans (Keeps.nil ((Keeps.of_drew (by assumption)))) (‹Moves F7 _ _ _›).1)))
            (first
              | (go_at_call 42; refine (HHd.out _ _ (by omega)).mono ?_; rintro e w8 ⟨rfl, hk8⟩)
              | (go_at_call 41; refine (HW1.out _ (Keeps.of_drew (by assumption))).mono ?_; rintro e w9 ⟨rfl, F9, hD9, hm9⟩))
          have HMX : Hid (Moves F w F9 w9) := (HMV.out.quiet (Keeps.of_drew hk8)).trans hm9
          have HSTX : Hid (StAt w9 p bd S) := (HST.out.keeps ((Keeps.of_drew hk8).nil.trans hm9.1) HP7.out)
          have HMY : Hid (Moves F w6 F9 w9) := (HM6.out.quiet (Keeps.of_drew hk8)).trans hm9
          rename_i hheld
          obtain ⟨s0, s1, -⟩ := hheld
          have hp9 : p ∉ F9 := HMX.out.not_mem HpF.out hpw
          have hU9 := HU1.out.1
          have hFl9 : Hid (∀ w', Keeps [] w9 w' → Calls Tryd.prog 43 #[.pointer (some ⟨bd, 0, none⟩), .int .i64 0] w' (CallPost bd ps F9 w' (r.2.flush 0 ⟨l4, [] ++ [(0, resHead S)]⟩))) := fun w' hkw => by
            have := Flush_ok w' bd ps r.2 F9 0 ⟨l4, [] ++ [(0, resHead S)]⟩ (hD9.keeps0 hkw) hU9.ok hU9.off hU9.reg
            simpa [ptrV] using this
          have hR9 := hU9.flush
          generalize hwr : r.2.flush 0 ⟨l4, [] ++ [(0, resHead S)]⟩ = r9 at hFl9 hR9
          have HSc9 : Hid (∀ w', Keeps F9 w9 w' → w'.cell? ⟨p, 0, none⟩ = some (.pointer (some ⟨bd, 0, none⟩)) ∧ w'.cell? ⟨p, 1, none⟩ = some (.int .i64 0)) := fun w' k => ⟨k.cell s0 hp9, k.cell s1 hp9⟩
          have HLF9 : Hid (D.tleft = 0 → r.2.tleft = 0) := fun h => HU1.out.2 (HLF.out h)
          have HP9 := Lib.hid hp9
          clear hwr hU9 hD9 hm9 hk8 s0 s1 HSc HW1 HHd hp9 HU1
          rcases hR9 with ⟨hr, hU1, hl1⟩ | ⟨hr, hn1, kp, hD1⟩
          · have HW1 : Hid (∀ w', Keeps [] w9 w' → Calls Tryd.prog 43 #[.pointer (some ⟨bd, 0, none⟩), .int .i64 0] w' fun e w'' => e = .returned (.int .i64 0) ∧ ∃ F1, DiskAt w'' bd ps r9.2 F1 ∧ Moves F9 w' F1 w'') := fun w' hkw =>
              (hFl9.out w' hkw).mono fun e w'' h => ⟨by rw [h.1, hr]; rfl, h.2⟩
            have HU1 := Lib.hid (And.intro hU1 hl1)
            clear hr hU1 hl1 hFl9
            go_wp2_with fail
            go_region_held3 (fun w' => w'.cell? ⟨p, 0, none⟩ = some (.pointer (some ⟨bd, 0, none⟩)) ∧ w'.cell? ⟨p, 1, none⟩ = some (.int .i64 0)) ((first | assumption | exact HSc9.out _ ((Keeps.refl _ _).drew) | exact HSc9.out _ (Keeps.of_drew (‹Moves F9 _ _ _›).1)))
              ((go_at_call 43; refine (HW1.out _ ((Keeps.refl _ _).drew)).mono ?_; rintro e w10 ⟨rfl, F10, hD10, hm10⟩))
            rename_i hheld
            clear hheld
            have HMZ : Hid (Moves F w F10 w10) := HMX.out.trans (Moves.of_drew hm10)
            have hst10 : StAt w10 p bd S := HSTX.out.keeps (Moves.of_drew hm10).1 HP9.out
            have HB10 : Hid (IsB w.heap.size w.heap.size (framesL ts) w10) := IsB_keepsF HB6.out (HMY.out.trans (Moves.of_drew hm10)).1 (fun x hx => HFl.out x hx)
            have hz10 : w.heap.size ≤ w10.heap.size := HMZ.out.1.size
            have HST10 := Lib.hid hst10
            have hp10 : p ∉ F10 := HMZ.out.not_mem HpF.out hpw
            have HQ : Hid (∀ w', Below w.heap.size w10 w' → w'.cell? ⟨p, 3, none⟩ = some (.int .i64 S.gen) ∧ w'.frozen? ⟨p, 3, none⟩ = false ∧ (w'.setCell ⟨p, 3, none⟩ (.int .i64 (g' : Int))).cell? ⟨p, 4, none⟩ = some (.int .i64 S.half) ∧ (w'.setCell ⟨p, 3, none⟩ (.int .i64 (g' : Int))).frozen? ⟨p, 4, none⟩ = false ∧ ((w'.setCell ⟨p, 3, none⟩ (.int .i64 (g' : Int))).setCell ⟨p, 4, none⟩ (.int .i64 (h' : Int))).cell? ⟨p, 5, none⟩ = some (.string ⟨S.data.toArray⟩) ∧ ((w'.setCell ⟨p, 3, none⟩ (.int .i64 (g' : Int))).setCell ⟨p, 4, none⟩ (.int .i64 (h' : Int))).frozen? ⟨p, 5, none⟩ = false ∧ StAt w' p bd S) := fun w' k => by
              have e : w'.heap[p]? = w10.heap[p]? := k.block p hpw
              have hst : StAt w' p bd S := e.trans hst10
              have h1 := setCell_blk hst 3 (.int .i64 (g' : Int))
              have h2 := setCell_blk h1 4 (.int .i64 (h' : Int))
              exact ⟨hst.cells.2.2.2.1, free_blk hst 3, by rw [cell_blk h1]; rfl, free_blk h1 4, by rw [cell_blk h2]; rfl, free_blk h2 5, hst⟩
            obtain ⟨d3, g3, d4, g4, d5, g5, -⟩ := HQ.out w10 (Below.refl _ _)
            clear hm10 hst10 HSc9 HFl HMX HMY HM6 HB6 HB7 HW1
            go_wp2_with fail
            go_region_law (first | (go_simp; go_at_call 40; refine (BString_k w.heap.size w.heap.size (framesL ts) _ (IsB_keeps HB10.out (by repeat (first | exact Keeps.refl [] _ | refine Keeps.drew ?_))) (by first | exact hz10 | (simp; omega))).mono ?_; rintro e w11 ⟨rfl, -, hbl11, hok11⟩; obtain ⟨d3', g3', d4', g4', d5', g5', hst11⟩ := HQ.out w11 (by first | exact hbl11 | exact Below.trans (Below.keeps (Below.refl _ _) ((Keeps.refl [] _).drew) hz10) hbl11)))
            all_goals
              have hD11 : DiskAt w11 bd ps r9.2 F10 := by
                first
                | exact hD10.others hok11 (IsB_type HB10.out) hbl11.size
                | exact (hD10.keeps0 ((Keeps.refl _ _).drew)).others hok11 (IsB_type HB10.out) hbl11.size
              have hbl : Below w.heap.size w10 w11 := by first | exact hbl11 | exact Below.trans (Below.keeps (Below.refl _ _) ((Keeps.refl [] _).drew) hz10) hbl11
              have hm11 : Moves F w F10 w11 := ⟨HMZ.out.1.belowR hbl, HMZ.out.2⟩
              have hk1 : Keeps [p] w11 (w11.setCell ⟨p, 3, none⟩ (.int .i64 (g' : Int))) := Keeps.one p 3 _
              have hk2 := hk1.trans (Keeps.one (w := w11.setCell ⟨p, 3, none⟩ (.int .i64 (g' : Int))) p 4 (.int .i64 (h' : Int)))
              have hk3 := hk2.trans (Keeps.one (w := (w11.setCell ⟨p, 3, none⟩ (.int .i64 (g' : Int))).setCell ⟨p, 4, none⟩ (.int .i64 (h' : Int))) p 5 (.string ⟨(framesL ts).toArray⟩))
              have h3 := setCell_blk (setCell_blk (setCell_blk hst11 3 (.int .i64 (g' : Int))) 4 (.int .i64 (h' : Int))) 5 (.string ⟨(framesL ts).toArray⟩)
              have hst : StAt (((w11.setCell ⟨p, 3, none⟩ (.int .i64 (g' : Int))).setCell ⟨p, 4, none⟩ (.int .i64 (h' : Int))).setCell ⟨p, 5, none⟩ (.string ⟨(framesL ts).toArray⟩)) p bd (S.reset ts) := by
                rw [HRS.out]; exact h3
              have hU : Up r9.2 (l4.set 0 (resHead S)) := by
                have := HU1.out.1
                simpa [lastL, allKept] using this
              rw [HL4.out] at hU
              have HR : Hid (ResPost p bd ps F D l S ts w (.returned (.int .i64 0)) (((w11.setCell ⟨p, 3, none⟩ (.int .i64 (g' : Int))).setCell ⟨p, 4, none⟩ (.int .i64 (h' : Int))).setCell ⟨p, 5, none⟩ (.string ⟨(framesL ts).toArray⟩))) :=
                ⟨F10, r9.2, hD11.keeps hk3 (fun k hkF hk' => by simp at hk'; subst hk'; exact hp10 hkF), hp10, (hm11.cons p).own hk3, .inl ⟨rfl, hU, hst, fun h => HU1.out.2 (HLF9.out h)⟩⟩
              clear hU hst h3 hk3 hk2 hk1 hm11 hbl hD11 hok11 d3 g3 d4 g4 d5 g5 d3' g3' d4' g4' d5' g5' hst11 hbl11
              go_wp2_with fail
              go_ret
              exact HR.out
          · have HW1 : Hid (∀ w', Keeps [] w9 w' → Calls Tryd.prog 43 #[.pointer (some ⟨bd, 0, none⟩), .int .i64 0] w' fun e w'' => e = .returned (.int .i64 11) ∧ ∃ F1, DiskAt w'' bd ps r9.2 F1 ∧ Moves F9 w' F1 w'') := fun w' hkw =>
              (hFl9.out w' hkw).mono fun e w'' h => ⟨by rw [h.1, hr]; rfl, h.2⟩
            have HU1 := Lib.hid (And.intro hn1 hD1)
            clear hr hn1 hD1 hFl9
            go_wp2_with fail
            go_region_held3 (fun w' => w'.cell? ⟨p, 0, none⟩ = some (.pointer (some ⟨bd, 0, none⟩)) ∧ w'.cell? ⟨p, 1, none⟩ = some (.int .i64 0)) ((first | assumption | exact HSc9.out _ ((Keeps.refl _ _).drew) | exact HSc9.out _ (Keeps.of_drew (‹Moves F9 _ _ _›).1)))
              ((go_at_call 43; refine (HW1.out _ ((Keeps.refl _ _).drew)).mono ?_; rintro e w10 ⟨rfl, F10, hD10, hm10⟩))
            rename_i hheld
            clear hheld
            have HMX2 := HMX
            clear HMX
            have HMX : Hid (Moves F w F10 w10) := HMX2.out.trans (Moves.of_drew hm10)
            have HSTX2 := HSTX
            clear HSTX
            have HSTX : Hid (StAt w10 p bd S) := (HSTX2.out.keeps (Moves.of_drew hm10).1 HP9.out)
            have hpX : p ∉ F10 := HMX.out.not_mem HpF.out hpw
            have HFd := Lib.hid (failed_any w10 p bd S HSTX.out)
            have HR : Hid (∀ w', Keeps [p] w10 w' → ResPost p bd ps F D l S ts w (.returned (.int .i64 11)) w') := fun w' hk5 =>
              ResPost.fail hpX hD10 (HMX.out.cons p) hk5 (fun h => HU1.out.1 (HLF9.out h)) HU1.out.2 (SecUpd.over l (resBase S) (resCells S ts)) (by rw [← HL4.out]; exact (last_one kp (resHead S) l4).imp id (fun h => ⟨rfl, h⟩))
            clear hpX
            unfold ptrV at HFd
            go_wp2_with fail
            refine (HFd.out).mono ?_
            rintro e w20 ⟨rfl, -, hk20⟩
            go_wp2_with fail
            go_ret
            exact HR.out _ hk20
        · have HW1 : Hid (∀ w', Keeps [] w7 w' → Calls Tryd.prog 41 #[.pointer (some ⟨bd, 0, none⟩), .int .i64 0, .int .i64 0, .string ⟨(resHead S).toArray⟩] w' fun e w'' => e = .returned (.int .i64 11) ∧ ∃ F1, DiskAt w'' bd ps r.2 F1 ∧ Moves F7 w' F1 w'') := fun w' hkw =>
            (HW.out w' hkw).mono fun e w'' h => ⟨by rw [h.1, hr]; rfl, h.2⟩
          have HU1 := Lib.hid (And.intro hn1 hD1)
          clear hr hn1 hD1 HW
          go_wp2_with fail
          go_region_held3 (fun w' => w'.cell? ⟨p, 0, none⟩ = some (.pointer (some ⟨bd, 0, none⟩)) ∧ w'.cell? ⟨p, 1, none⟩ = some (.int .i64 0) ∧ w'.cell? ⟨p, 3, none⟩ = some (.int .i64 S.gen)) ((first | assumption | exact HSc.out _ ((Keeps.refl _ _).drew) | exact HSc.out _ (Keeps.nil ((Keeps.of_drew (by assumption)))) | exact HSc.out _ (Keeps.trans (Keeps.nil ((Keeps.of_drew (by assumption)))) (‹Moves F7 _ _ _›).1)))
            (first
              | (go_at_call 42; refine (HHd.out _ _ (by omega)).mono ?_; rintro e w8 ⟨rfl, hk8⟩)
              | (go_at_call 41; refine (HW1.out _ (Keeps.of_drew (by assumption))).mono ?_; rintro e w9 ⟨rfl, F9, hD9, hm9⟩))
          have HMX : Hid (Moves F w F9 w9) := (HMV.out.quiet (Keeps.of_drew hk8)).trans hm9
          have HSTX : Hid (StAt w9 p bd S) := (HST.out.keeps ((Keeps.of_drew hk8).nil.trans hm9.1) HP7.out)
          clear hm9
          rename_i hheld
          clear hheld
          have hpX : p ∉ F9 := HMX.out.not_mem HpF.out hpw
          have HFd := Lib.hid (failed_any w9 p bd S HSTX.out)
          have HR : Hid (∀ w', Keeps [p] w9 w' → ResPost p bd ps F D l S ts w (.returned (.int .i64 11)) w') := fun w' hk5 =>
            ResPost.fail hpX hD9 (HMX.out.cons p) hk5 (fun h => HU1.out.1 (HLF.out h)) HU1.out.2 (SecUpd.over l (resBase S) (resCells S ts)) (by rw [← HL4.out]; exact (last_one kp (resHead S) l4).imp id (fun h => ⟨rfl, h⟩))
          clear hpX
          unfold ptrV at HFd
          go_wp2_with fail
          refine (HFd.out).mono ?_
          rintro e w20 ⟨rfl, -, hk20⟩
          go_wp2_with fail
          go_ret
          exact HR.out _ hk20
      · have hp7 : p ∉ F7 := hm7.not_mem HpF.out (by have := HK6.out.size; omega)
        have hst7 : StAt w7 p bd S := ((HSA.out w6 (.of_below HK6.out)).2.2).keeps hm7.1 HpF.out
        have HFd := Lib.hid (failed_any w7 p bd S hst7)
        have hmv : Moves (p :: F) w (p :: F7) w7 := (Moves.after (.of_below HK6.out) hm7 HFl.out).cons p
        have HR : Hid (∀ w', Keeps [p] w7 w' → ResPost p bd ps F D l S ts w (.returned (.int .i64 11)) w') := fun w' hk5 =>
          ResPost.fail hp7 hD7 hmv hk5 hn7 hD' hsu (.inl rfl)
        clear hst7 hD7 hm7 hp7 hn7 hD' hsu hmv
        unfold ptrV at HFd
        go_wp2_with fail
        refine (HFd.out).mono ?_
        rintro e w8 ⟨rfl, -, hk8⟩
        go_wp2_with fail
        go_ret
        exact HR.out _ hk8
end Go.Proofs.YtepnbfpclhincaaDoor
