/-
  A record is refused for want of room just if its frame is longer than what is left: for every size and bodies.
  StreamRooms: a record is refused for want of room just if its frame is longer than what is left, and what is put lessens that by its frame: the law returns true for every size and every bodies; nothing that was there is changed. Conditions: the two listed library tables hold what the program lays in them (the card ties them).
-/
import Derived.Test.YtepnbfpclhincaaDoorME
import Derived.Test.YtepnbfpclhincaaDoorMF
set_option linter.unusedVariables false
set_option linter.unusedSimpArgs false
namespace Go.Proofs.YtepnbfpclhincaaDoor
open Go.RowKit

/-- At work in the law's loop. -/
def RoomRel (w : World) (bd : Nat) (ps : List Nat) (p : Nat) (wr : World) : Prop :=
  ∃ F D l S ts, Live wr bd ps F D p l S ts ∧ D.tleft = 0 ∧ (∀ x ∈ F, w.heap.size ≤ x) ∧ Keeps [] w wr
theorem RoomRel.quiet {w wr w' : World} {bd p : Nat} {ps : List Nat} (h : RoomRel w bd ps p wr) (k : Keeps [] wr w') : RoomRel w bd ps p w' := by
  obtain ⟨F, D, l, S, ts, hL, ht, hF, hk⟩ := h
  exact ⟨F, D, l, S, ts, hL.keeps k, ht, hF, hk.trans k⟩

set_option maxRecDepth 100000 in
set_option maxHeartbeats 4000000 in
theorem StreamRooms_true (n : Int) (hn : n ≤ 9223372036854775807) (v : Value) (bs : List (List UInt8)) (w : World) (hv : Sees w v (bs.map strV)) (hbz : ∀ b ∈ bs, b.length ≤ maxLen) :
    Calls Tryd.prog 4 #[.int .i64 n, v] w fun e w' => e = .returned (.bool true) ∧ Keeps [] w w' := by
  obtain ⟨av, cap, rfl, hc1, hc2, hcell⟩ := hv
  rw [List.length_map] at *
  have HC := Lib.hid hcell; clear hcell
  have HBZ := Lib.hid hbz; clear hbz
  unfold maxLen at hc2
  obtain ⟨m0, hm0⟩ : ∃ m : Nat, max (0 : Int) n = m := ⟨(max 0 n).toNat, by omega⟩
  have hm0b : m0 ≤ 9223372036854775807 := by omega
  obtain ⟨m, hm⟩ : ∃ m : Nat, m = 3 + m0 % 40 := ⟨_, rfl⟩
  have hm3 : 3 ≤ m := by omega
  have hm4 : m ≤ 42 := by omega
  have hq : 3 + (m0 : Int) % 40 = (m : Int) := by omega
  have hfs : ∀ w1 v1, Sees w1 v1 [intV m] → Calls Tryd.prog 9 #[v1] w1 fun e w' => ∃ bd ps F D, e = .returned (ptrV bd) ∧ DiskAt w' bd ps D F ∧ Up D (List.replicate m noneL) ∧ D.tleft = 0 ∧ (∀ x, x ∈ F → w1.heap.size ≤ x) ∧ Keeps [] w1 w' := fun w1 v1 h => New1 v1 m w1 h (by omega) (by omega)
  have HN := Lib.hid hfs
  have HMM := Lib.hid hm
  obtain ⟨nb, hnb⟩ : ∃ nb, nb = min bs.length 60 := ⟨_, rfl⟩
  have hmin : min (bs.length : Int) 60 = (nb : Int) := by omega
  have hnb1 : nb ≤ bs.length := by omega
  have hnb2 : nb ≤ cap := by omega
  have hnb3 : (nb : Int) ≤ cap := by omega
  have HBN : Hid (nb ≤ bs.length) := hnb1
  clear hfs hm hnb
  go_enter Tryd.func4, Tryd.ntmps4
  go_wp2_with fail
  refine (HN.out _ _ (Sees.alloc1 _ _ _ rfl)).mono ?_
  rintro e w1 ⟨bd, ps, F, D, rfl, hD, hU, ht, hF, hk⟩
  have hk1 : Keeps [] w w1 := ((Keeps.refl [] w).alloc _).trans hk
  have HO := Lib.hid (Open_fresh w1 bd ps F D m hD hU hm3 (by omega) ht)
  have HF : Hid (∀ x ∈ F, w.heap.size ≤ x) := fun x hx => by have := hF x hx; simp at this; omega
  have HK1 := Lib.hid hk1
  clear hD hU ht hF hk hk1 HN
  unfold ptrV at HO ⊢
  go_wp2_with fail
  refine (HO.out).mono ?_
  rintro e w2 ⟨p, v, F2, D2, l2, rfl, hL, ht2, hl2, ⟨av2, cv2, rfl⟩, hp, hm⟩
  have hx := HK1.out.moves hm HF.out
  have HX := Lib.hid hx
  have HP : Hid (w.heap.size ≤ p) := by have := HK1.out.size; show _ ≤ _; omega
  have HL := Lib.hid (And.intro hL (And.intro ht2 hl2))
  clear HO hm hx hp hL ht2 hl2 HK1 HF
  unfold ptrV
  go_wp2_with fail
  refine (wakes_true _).mono ?_
  rintro e w3 ⟨rfl, hk3⟩
  have HL3 : Hid (Live w3 bd ps F2 D2 p l2 ⟨halfOf m, 1, 0, [], false⟩ [] ∧ D2.tleft = 0 ∧ l2.length = m) := ⟨HL.out.1.keeps hk3, HL.out.2⟩
  have HK3 : Hid (Keeps [] w w3) := HX.out.1.trans hk3
  have HF2 := Lib.hid HX.out.2
  clear HL HX hk3
  have HLf := Lib.hid (Left_live HL3.out.1)
  have hcp := Capacity_any m
  obtain ⟨C, hC⟩ : ∃ C, C = halfOf m * 55 - 1 := ⟨_, rfl⟩
  simp only [List.length_nil, Nat.sub_zero, ← hC] at HLf
  simp only [← hC] at hcp
  have hC2 : C ≤ 3000 := by rw [hC]; unfold halfOf; omega
  have HCp := Lib.hid hcp
  have HC2 := Lib.hid hC
  clear hC hcp
  unfold ptrV at HLf
  go_wp2_with fail
  refine (HLf.out).mono ?_
  rintro e w4 ⟨rfl, hk4⟩
  have HK4 : Hid (Keeps [] w w4) := HK3.out.trans hk4
  have HL4 : Hid (Live w4 bd ps F2 D2 p l2 ⟨halfOf m, 1, 0, [], false⟩ [] ∧ D2.tleft = 0 ∧ l2.length = m) := ⟨HL3.out.1.keeps hk4, HL3.out.2⟩
  clear hk4 HL3 HK3 HLf
  go_wp2_with fail
  refine (HCp.out _).mono ?_
  rintro e w5 ⟨rfl, rfl⟩
  clear HCp
  go_wp2_with fail
  clear hmin
  go_loopw [43] (fun i wr => ∃ k : Nat, k ≤ nb ∧ i = .int .i64 k ∧ RoomRel w bd ps p wr) (fun i _ => nb - (intOf i).toNat)
  case atStart => exact ⟨0, by omega, rfl, _, _, _, _, _, HL4.out.1, HL4.out.2.1, HF2.out, HK4.out⟩
  case round =>
    obtain ⟨k, hk, rfl, hR⟩ := hrel
    have HR := Lib.hid hR
    clear hR HL4 HK4
    by_cases hlt : k < nb
    · have hlt' : k < bs.length := by omega
      obtain ⟨b, off, rfl, hb, hcell⟩ := HC.out.resolve_left (by intro h; have := congrArg List.length h; simp at this; rw [this] at hlt'; simp at hlt')
      have hck : wr.cell? ⟨b, off + k, none⟩ = some (strV bs[k]) := by
        obtain ⟨_, _, _, _, _, _, _, _, hkp⟩ := HR.out
        exact hkp.cell (hcell k _ (by simp [List.getElem?_eq_getElem hlt'])) (by simp)
      have hbz := HBZ.out _ (List.getElem_mem hlt')
      generalize bs[k] = x at hck hbz
      unfold strV at hck
      have hxz : (ByteArray.mk x.toArray).size ≤ maxLen := by rw [size_mk]; exact hbz
      generalize ByteArray.mk x.toArray = s at hck hxz
      unfold maxLen at hxz
      obtain ⟨c, hc⟩ : ∃ c, c = min s.size 600 := ⟨_, rfl⟩
      have hcm : min (s.size : Int) 600 = (c : Int) := by omega
      have hc1' : c ≤ s.size := by omega
      have hc2' : c ≤ 600 := by omega
      have hyz : (s.extract 0 c).size = c := by rw [ByteArray.size_extract]; omega
      have HY := Lib.hid hyz
      obtain ⟨F, D, l, S, ts, hL, ht, hF, hkp⟩ := HR.out
      have hle := hL.le
      have hs2 := hL.holds.okay.sz2
      have HLf := Lib.hid (Left_live hL)
      obtain ⟨L, hLe⟩ : ∃ L, L = S.sz * 55 - 1 - S.data.length := ⟨_, rfl⟩
      rw [← hLe] at HLf
      have hL2 : L ≤ 112585 := by omega
      have HLE := Lib.hid hLe
      have HLL := Lib.hid (And.intro hL (And.intro ht (And.intro hF hkp)))
      unfold ptrV at HLf
      clear hcell hb hc hbz hyz hL ht hF hkp hLe hle hs2 HR
      go_wp2_with fail
      refine (HLf.out).mono ?_
      rintro e w5 ⟨rfl, hk5⟩
      have HLL5 : Hid (Live w5 bd ps F D p l S ts ∧ D.tleft = 0 ∧ (∀ x ∈ F, w.heap.size ≤ x) ∧ Keeps [] w w5) := ⟨HLL.out.1.keeps hk5, HLL.out.2.1, HLL.out.2.2.1, HLL.out.2.2.2.trans hk5⟩
      clear hk5 HLL HLf
      generalize s.extract 0 c = y at HY
      have hyc : y.size ≤ 600 := by have := HY.out; omega
      clear hcm hc1' hc2' HY hck hxz
      by_cases h0 : y.size = 0
      · obtain rfl : y = ⟨#[]⟩ := by
          cases y with
          | mk d => congr 1; exact Array.eq_empty_of_size_eq_zero h0
        have hA := Append_live_no w5 bd p ps F D l ts S ⟨#[]⟩ HLL5.out.1 (by decide) (by unfold appCode; rw [if_pos h0]; decide)
        rw [show appCode S (ByteArray.mk #[]).size = 2 by unfold appCode; rw [if_pos h0]] at hA
        have HA := Lib.hid hA
        clear hA h0 hyc
        unfold ptrV at HA
        go_wp2_with fail
        refine (HA.out).mono ?_
        rintro e w6 ⟨rfl, hk6⟩
        have HLf := Lib.hid (Left_live (HLL5.out.1.keeps hk6))
        rw [← HLE.out] at HLf
        have HR6 : Hid (RoomRel w bd ps p w6) := ⟨F, D, l, S, ts, HLL5.out.1.keeps hk6, HLL5.out.2.1, HLL5.out.2.2.1, HLL5.out.2.2.2.trans hk6⟩
        clear hk6 HA HLL5
        unfold ptrV at HLf
        go_wp2_with fail
        refine (HLf.out).mono ?_
        rintro e w7 ⟨rfl, hk7⟩
        have HR7 := Lib.hid (HR6.out.quiet hk7)
        clear hk7 HR6 HLf
        go_wp2_with fail
        go_roundw
        case rel => exact ⟨k + 1, by omega, by go_num, HR7.out⟩
        case measure => simp [intOf]; omega
      · have hne := notEmpty y (by omega)
        have hne2 : (y.toList == (ByteArray.mk #[]).toList) = false := by
          rw [beq_eq_false_iff_ne, ByteArray.toList_eq, ByteArray.toList_eq]
          intro e
          apply h0
          have := congrArg List.length e
          simpa [toList_length] using this
        by_cases hf : y.size + 6 ≤ L
        · have hap : appCode S y.size = 0 := by
            have := HLE.out
            unfold appCode; rw [if_neg h0, if_neg (by omega), if_neg (by omega)]
          have HA := Lib.hid (Append_live w5 bd p ps F D l ts S y HLL5.out.1 HLL5.out.2.1 hap)
          have HX := Lib.hid (And.intro HLL5.out.2.2.1 HLL5.out.2.2.2)
          have b1 : decide ((L : Int) < (y.size : Int) + 6) = false := decide_eq_false (by omega)
          clear hap HLL5
          unfold ptrV at HA
          go_wp2_with fail
          refine (HA.out).mono ?_
          rintro e w6 ⟨F6, D6, l6, rfl, hL6, ht6, hl6, hm6⟩
          have HX6 := Lib.hid (HX.out.2.moves hm6 (fun x hx => (List.mem_cons.1 hx).elim (fun e => by rw [e]; exact HP.out) (HX.out.1 x)))
          have hLf := Left_live hL6
          have hsz : (StM.with S (S.data ++ frameL y.data.toList)).sz * 55 - 1 - (StM.with S (S.data ++ frameL y.data.toList)).data.length = L - (y.size + 6) := by
            show S.sz * 55 - 1 - (S.data ++ frameL y.data.toList).length = _
            rw [List.length_append, frameL_length, toList_length]
            have := HLE.out; omega
          rw [hsz] at hLf
          have hL' : ((L - (y.size + 6) : Nat) : Int) = (L : Int) - (y.size : Int) - 6 := by omega
          have hcl : Calls Tryd.prog 13 #[ptrV p] w6 fun e w' => e = .returned (.int .i64 ((L : Int) - (y.size : Int) - 6)) ∧ Keeps [] w6 w' := by rw [← hL']; exact hLf
          have HLf := Lib.hid hcl
          have HR6 : Hid (RoomRel w bd ps p w6) := ⟨F6, D6, l6, _, _, hL6, ht6, fun x hx => HX6.out.2 x (List.mem_cons_of_mem _ hx), HX6.out.1⟩
          clear hcl hL' hLf hsz hL6 ht6 hl6 hm6 HX HX6 HA
          unfold ptrV at HLf
          go_wp2_with fail
          refine (HLf.out).mono ?_
          rintro e w7 ⟨rfl, hk7⟩
          have HR7 := Lib.hid (HR6.out.quiet hk7)
          clear hk7 HR6 HLf
          go_wp2_with fail
          go_roundw
          case rel => exact ⟨k + 1, by omega, by go_num, HR7.out⟩
          case measure => simp [intOf]; omega
        · have hap : appCode S y.size = 12 := by
            have := HLE.out
            unfold appCode; rw [if_neg h0, if_neg (by omega), if_pos (by omega)]
          have hA := Append_live_no w5 bd p ps F D l ts S y HLL5.out.1 (by omega) (by rw [hap]; decide)
          rw [hap] at hA
          have HA := Lib.hid hA
          have b1 : decide ((L : Int) < (y.size : Int) + 6) = true := decide_eq_true (by omega)
          clear hap hA
          unfold ptrV at HA
          go_wp2_with fail
          refine (HA.out).mono ?_
          rintro e w6 ⟨rfl, hk6⟩
          have HLf := Lib.hid (Left_live (HLL5.out.1.keeps hk6))
          rw [← HLE.out] at HLf
          have HR6 : Hid (RoomRel w bd ps p w6) := ⟨F, D, l, S, ts, HLL5.out.1.keeps hk6, HLL5.out.2.1, HLL5.out.2.2.1, HLL5.out.2.2.2.trans hk6⟩
          clear hk6 HA HLL5
          unfold ptrV at HLf
          go_wp2_with fail
          refine (HLf.out).mono ?_
          rintro e w7 ⟨rfl, hk7⟩
          have HR7 := Lib.hid (HR6.out.quiet hk7)
          clear hk7 HR6 HLf
          go_wp2_with fail
          go_roundw
          case rel => exact ⟨k + 1, by omega, by go_num, HR7.out⟩
          case measure => simp [intOf]; omega
    · go_wp2_with fail
      go_ret
      obtain ⟨_, _, _, _, _, _, _, _, hkp⟩ := HR.out
      exact ⟨rfl, hkp⟩
end Go.Proofs.YtepnbfpclhincaaDoor

namespace Go.Proofs.YtepnbfpclhincaaDoor
open Go.ChangeShapes Go.WideShapes Go.RowKit

set_option maxRecDepth 100000 in
theorem streamRooms_walk : LawWalk 4 Tryd.f4 := by
  intro H enc W base args ds p hval hA hlt
  rw [Tryd.params4] at hA hval
  obtain ⟨v0, v1, d0, d1, p0, p1, rfl, rfl, rfl, h0, h1⟩ := trodAll_two hA
  obtain ⟨n, rfl, rfl, rfl, hn⟩ := open_int Tryd.underlying3 (hval 0 3 v0 rfl rfl) h0
  have hn2 : n ≤ 9223372036854775807 := by have := hn; simp [Lit.wf, IntKind.min, IntKind.max, IntKind.signed, IntKind.bits] at this; omega
  obtain ⟨bs, hb, hbz⟩ := sees_strings (hval 1 23 v1 rfl rfl) h1 (fun x hx => hlt x (by simp [hx]))
  exact (StreamRooms_true n hn2 v1 bs W hb hbz).mono fun e W' ⟨he, hk⟩ => ⟨he, hk.below⟩

set_option maxRecDepth 100000 in
theorem streamRooms_lifted (os : Os) (started : os.Started) (H : Type) (enc : TypeId × Value → H) :
    ReturnsInHanded {} Tryd.checked os 4 .any (fun w args => (Rows.streamRoomsSpec.pre enc Tryd.prog Tryd.f4 [] false w args ∧ laidMetH Tryd.prog Rows.streamRoomsRow.laid w) ∧ sizedMet enc Tryd.prog Tryd.f4 (OpenSpec.ofChange Rows.streamRoomsSpec) false w args)
      (Rows.streamRoomsSpec.post enc Tryd.prog Tryd.f4 false true false false) :=
  law_lifted (f := 4) (fn := Tryd.f4) Tryd.func4 (by kernel_rfl) (by kernel_rfl) (by kernel_rfl) (s := Rows.streamRoomsSpec) rfl (fun H ds hl => by
    have hl' : ds.length = 2 := hl
    match ds, hl' with
    | [d0, d1], _ => rfl)
    (laid := Rows.streamRoomsRow.laid) os started H enc
    (ChangeSpec.witness_shaped (enc := enc) (C := Tryd.checked) (os := os) (X := fun w _ => laidMetH Tryd.prog Rows.streamRoomsRow.laid w) false (World.laidAll Tryd.prog os Rows.streamRoomsRow.laid) #[.int .i64 0, .slice none 0 0] 8 (World.laidAll_os _ _ _)
      (World.shaped_of_ZipB (by kernel_rfl) (by kernel_rfl)) (by kernel_rfl) (by kernel_rfl) (by kernel_rfl)
      (by rw [MakeChecks.laidMetH_plain _ _ _ (by kernel_rfl)]; exact laidMet_laidAll _ (by kernel_rfl) (by kernel_rfl)))
    streamRooms_walk

theorem streamRooms_said : Rows.StreamRoomsSaid :=
  OpenClaim.holds_of_wide 4 Tryd.f4 rfl rfl rfl rfl rfl rfl rfl ⟨rfl, rfl, rfl, rfl, rfl⟩ rfl rfl rfl rfl rfl (by kernel_rfl) Tryd.func4 (by kernel_rfl)
    (of_decide_eq_true (by kernel_rfl)) (by unfold Func.isWrapper; first | (rw [if_pos (by decide +kernel)]; kernel_rfl) | (rw [if_neg (by decide +kernel)]; exact ⟨rfl, rfl⟩))
    (fun os started H enc _ => streamRooms_lifted os started H enc)

/-- The card. -/
theorem streamRooms_holds : Rows.StreamRoomsCardSaid :=
  Claim7.holds_tied_plain_at .later [] _ _ _ _ streamRooms_said (fun _ h => by cases h) (by kernel_rfl) (fun _ h => by cases h) streamRooms_row_tie rfl ⟨rfl, rfl⟩ (by kernel_rfl) rfl
    (fun f fn hf hfn => by
      obtain rfl : f = 4 := Option.some.inj ((show Tryd.prog.funcNamed "precinct/precinctlaw08.StreamRooms" = some 4 by kernel_rfl).symm.trans hf) |>.symm
      obtain rfl : fn = Tryd.f4 := (Option.some.inj (Tryd.func4.symm.trans hfn)).symm
      exact ⟨by kernel_rfl, fun j t ht => by
        rw [Tryd.params4] at ht
        have hm : t ∈ [3, 23] := by simpa using Array.mem_of_getElem? ht
        have hall : ([3, 23].all fun u => !Tryd.prog.wantsStandIn u) = true := by kernel_rfl
        exact (show Tryd.prog.wantsStandIn t = false by simpa using List.all_eq_true.1 hall t hm)⟩)
    (by kernel_rfl)
end Go.Proofs.YtepnbfpclhincaaDoor
