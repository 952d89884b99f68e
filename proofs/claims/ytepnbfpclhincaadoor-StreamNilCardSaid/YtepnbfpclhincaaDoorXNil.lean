/-
  Of a nil stream nothing can be done; so of one without a disk, or a region: for every region and body.
  StreamNil: of a nil stream nothing can be done, nor of one without a disk or a region: the law returns true for every region number and every body; nothing that was there is changed. Conditions: the two listed library tables hold what the program lays in them (the card ties them).
-/
import Derived.Test.YtepnbfpclhincaaDoorME
import Derived.Test.YtepnbfpclhincaaDoorMF
set_option linter.unusedVariables false
set_option linter.unusedSimpArgs false
namespace Go.Proofs.YtepnbfpclhincaaDoor
open Go.RowKit

/-- A disk of two regions that are too small. -/
theorem New22 (v : Value) (w : World) (hv : Sees w v [intV 2, intV 2]) :
    Calls Tryd.prog 9 #[v] w fun e w' => ∃ bd, e = .returned (ptrV bd) ∧ Keeps [] w w' ∧ ∀ n : Int, Calls Tryd.prog 8 #[ptrV bd, .int .i64 n] w' fun e w'' => e = .returned (.tuple #[.pointer none, .slice none 0 0, .int .i64 10]) ∧ w' = w'' := by
  refine (New_any v [2, 2] w hv (by simp) (by simp)).mono ?_
  rintro e w' ⟨bd, ps, F, rfl, hD, hF, hk⟩
  refine ⟨bd, rfl, hk, fun n => ?_⟩
  have hl : ps.length = 2 := by obtain ⟨_, _, _, h⟩ := hD; rw [← h.len]; rfl
  by_cases h : n < 0 ∨ (ps.length : Int) ≤ n
  · exact Open_small bd n 0 (by rfl) w' (Sectors_out w' bd ps _ F n hD h)
  · have hn : n = 0 ∨ n = 1 := by omega
    rcases hn with rfl | rfl
    · exact Open_small bd 0 2 (by rfl) w' (Sectors_in w' bd ps _ F 0 (freshR 2) hD (by omega) (by rfl))
    · exact Open_small bd 1 2 (by rfl) w' (Sectors_in w' bd ps _ F 1 (freshR 2) hD (by omega) (by rfl))

set_option maxRecDepth 100000 in
set_option maxHeartbeats 2000000 in
theorem StreamNil_true (n : Int) (s : ByteArray) (w : World) : Calls Tryd.prog 3 #[.int .i64 n, .string s] w fun e w' => e = .returned (.bool true) ∧ Keeps [] w w' := by
  go_enter Tryd.func3, Tryd.ntmps3
  go_wp2_with fail
  refine (Open_nil n _).mono ?_
  rintro e w1 ⟨rfl, rfl⟩
  go_wp2_with fail
  have hv : Sees (w.alloc (.cells #[.int .i64 2, .int .i64 2] 3)) (.slice (some ⟨w.heap.size, 0, none⟩) 2 2) [intV 2, intV 2] :=
    ⟨_, _, rfl, Nat.le_refl _, by simp [maxLen], .inr ⟨_, 0, rfl, by simp, fun j u hj => by
      rw [Nat.zero_add]
      exact (cell_blk (heap_alloc_new w (.cells #[.int .i64 2, .int .i64 2] 3)) j).trans ((List.getElem?_toArray (xs := [intV 2, intV 2]) (i := j)).trans hj)⟩⟩
  refine (New22 _ _ hv).mono ?_
  rintro e w1 ⟨bd, rfl, hk, hO⟩
  have HK := Lib.hid (((Keeps.refl [] w).alloc _).trans hk)
  have HO := Lib.hid (hO n)
  clear hv hk hO
  unfold ptrV at HO ⊢
  go_wp2_with fail
  refine (HO.out).mono ?_
  rintro e w2 ⟨rfl, rfl⟩
  go_wp2_with fail
  refine (wakes_true _).mono ?_
  rintro e w2 ⟨rfl, hk2⟩
  have HK2 := Lib.hid (HK.out.trans hk2)
  clear hk2
  go_wp2_with fail
  refine (Append_nil s _).mono ?_
  rintro e w3 ⟨rfl, rfl⟩
  go_wp2_with fail
  refine (Reset_nil _ _).mono ?_
  rintro e w3 ⟨rfl, rfl⟩
  go_wp2_with fail
  refine (Left_nil _).mono ?_
  rintro e w4 ⟨rfl, rfl⟩
  go_wp2_with fail
  refine (Gen_nil _).mono ?_
  rintro e w4 ⟨rfl, rfl⟩
  go_wp2_with fail
  go_ret
  exact ⟨rfl, HK2.out.trans ((Keeps.refl [] w2).alloc _)⟩
end Go.Proofs.YtepnbfpclhincaaDoor

namespace Go.Proofs.YtepnbfpclhincaaDoor
open Go.ChangeShapes Go.WideShapes Go.ChangeMaps Go.RowKit

set_option maxRecDepth 100000 in
theorem streamNil_walk : LawWalk 3 Tryd.f3 := by
  intro H enc W base args ds p hval hA hlt
  rw [Tryd.params3] at hA hval
  obtain ⟨v0, v1, d0, d1, p0, p1, rfl, rfl, rfl, h0, h1⟩ := trodAll_two hA
  obtain ⟨n, rfl, rfl, rfl, hn⟩ := open_int Tryd.underlying3 (hval 0 3 v0 rfl rfl) h0
  obtain ⟨s, rfl, rfl, rfl, hs⟩ := open_string Tryd.underlying9 (hval 1 9 v1 rfl rfl) h1
  exact (StreamNil_true n s W).mono fun e W' ⟨he, hk⟩ => ⟨he, hk.below⟩

set_option maxRecDepth 100000 in
theorem streamNil_lifted (os : Os) (started : os.Started) (H : Type) (enc : TypeId × Value → H) :
    ReturnsInHanded {} Tryd.checked os 3 .any (fun w args => (Rows.streamNilSpec.pre enc Tryd.prog Tryd.f3 [] false w args ∧ laidMetH Tryd.prog Rows.streamNilRow.laid w) ∧ sizedMet enc Tryd.prog Tryd.f3 (OpenSpec.ofChange Rows.streamNilSpec) false w args)
      (Rows.streamNilSpec.post enc Tryd.prog Tryd.f3 false true false false) :=
  law_lifted (f := 3) (fn := Tryd.f3) Tryd.func3 (by kernel_rfl) (by kernel_rfl) (by kernel_rfl) (s := Rows.streamNilSpec) rfl (fun H ds hl => by
    have hl' : ds.length = 2 := hl
    match ds, hl' with
    | [d0, d1], _ => rfl)
    (laid := Rows.streamNilRow.laid) os started H enc
    (ChangeSpec.witness_shaped (enc := enc) (C := Tryd.checked) (os := os) (X := fun w _ => laidMetH Tryd.prog Rows.streamNilRow.laid w) false (World.laidAll Tryd.prog os Rows.streamNilRow.laid) #[.int .i64 0, .string ⟨#[]⟩] 8 (World.laidAll_os _ _ _)
      (World.shaped_of_ZipB (by kernel_rfl) (by kernel_rfl)) (by kernel_rfl) (by kernel_rfl) (by kernel_rfl)
      (by rw [MakeChecks.laidMetH_plain _ _ _ (by kernel_rfl)]; exact laidMet_laidAll _ (by kernel_rfl) (by kernel_rfl)))
    streamNil_walk

theorem streamNil_said : Rows.StreamNilSaid :=
  OpenClaim.holds_of_wide 3 Tryd.f3 rfl rfl rfl rfl rfl rfl rfl ⟨rfl, rfl, rfl, rfl, rfl⟩ rfl rfl rfl rfl rfl (by kernel_rfl) Tryd.func3 (by kernel_rfl)
    (of_decide_eq_true (by kernel_rfl)) (by unfold Func.isWrapper; first | (rw [if_pos (by decide +kernel)]; kernel_rfl) | (rw [if_neg (by decide +kernel)]; exact ⟨rfl, rfl⟩))
    (fun os started H enc _ => streamNil_lifted os started H enc)

/-- The card. -/
theorem streamNil_holds : Rows.StreamNilCardSaid :=
  Claim7.holds_tied_plain_at .later [] _ _ _ _ streamNil_said (fun _ h => by cases h) (by kernel_rfl) (fun _ h => by cases h) streamNil_row_tie rfl ⟨rfl, rfl⟩ (by kernel_rfl) rfl
    (fun f fn hf hfn => by
      obtain rfl : f = 3 := Option.some.inj ((show Tryd.prog.funcNamed "precinct/precinctlaw08.StreamNil" = some 3 by kernel_rfl).symm.trans hf) |>.symm
      obtain rfl : fn = Tryd.f3 := (Option.some.inj (Tryd.func3.symm.trans hfn)).symm
      exact ⟨by kernel_rfl, fun j t ht => by
        rw [Tryd.params3] at ht
        have hm : t ∈ [3, 9] := by simpa using Array.mem_of_getElem? ht
        have hall : ([3, 9].all fun u => !Tryd.prog.wantsStandIn u) = true := by kernel_rfl
        exact (show Tryd.prog.wantsStandIn t = false by simpa using List.all_eq_true.1 hall t hm)⟩)
    (by kernel_rfl)
end Go.Proofs.YtepnbfpclhincaaDoor
