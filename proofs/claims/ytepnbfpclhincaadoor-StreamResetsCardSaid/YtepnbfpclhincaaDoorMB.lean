/-
  What a disk is, in memory and as plain data.
-/
import Derived.Test.YtepnbfpclhincaaDoorMA
import Derived.Test.YtepnbfpclhincaaDoorShelf
import Derived.Deep.RegionLaw
set_option linter.unusedVariables false
set_option linter.unusedSimpArgs false
namespace Go.Proofs.YtepnbfpclhincaaDoor
open Go.RowKit

/-- The cell that a sector's bytes are. -/
def parseL (l : List UInt8) : Option (Nat × Nat × List UInt8) :=
  if l.length ≠ 64 then none
  else
    let n := (l.getD 8 0).toNat
    if Pl.getL (l.take 6) = 0 then none
    else if 55 < n then none
    else if (l.drop (9 + n)).all (· = 0) = false then none
    else some (Pl.getL (l.take 6), Pl.getL ((l.drop 6).take 2), (l.drop 9).take n)

def ParsePost (l : List UInt8) (w : World) (e : Ending) (w' : World) : Prop :=
  Keeps [] w w' ∧ match parseL l with
  | none => e = .returned (.tuple #[.agg #[.int .i64 0, .int .i64 0, .string ⟨#[]⟩], .bool false])
  | some (g, i, d) => e = .returned (.tuple #[.agg #[.int .i64 g, .int .i64 i, .string ⟨d.toArray⟩], .bool true])

theorem ParsePost.no {l : List UInt8} {w w' : World} (h : parseL l = none) (hk : Keeps [] w w') : ParsePost l w (.returned (.tuple #[.agg #[.int .i64 0, .int .i64 0, .string ⟨#[]⟩], .bool false])) w' := by
  refine ⟨hk, ?_⟩; rw [h]

theorem dropWhile_nil {p : UInt8 → Bool} : ∀ (l : List UInt8), l.dropWhile p = [] ↔ l.all p = true
  | [] => by simp
  | a :: l => by
    by_cases h : p a = true
    · simp only [List.dropWhile_cons, h, if_true, List.all_cons, Bool.true_and]; exact dropWhile_nil l
    · simp [List.dropWhile_cons, h]
theorem trim_nil (l : List UInt8) : Lib.trimB l 0 = [] ↔ l.all (· == 0) = true := by
  unfold Lib.trimB Lib.trimLeftB Lib.trimRightB
  rw [dropWhile_nil]
  constructor
  · intro h
    rw [List.all_reverse] at h
    cases hd : l.reverse.dropWhile (· == 0) with
    | nil => have := (dropWhile_nil l.reverse).1 hd; rwa [List.all_reverse] at this
    | cons a r =>
      rw [hd] at h
      have ha : (a == 0) = true := by simp at h; simp [h.1]
      have := List.head?_dropWhile_not (· == (0 : UInt8)) l.reverse
      rw [hd] at this
      simp only [List.head?_cons] at this
      rw [ha] at this
      cases this
  · intro h
    have : l.reverse.dropWhile (· == 0) = [] := (dropWhile_nil _).2 (by rwa [List.all_reverse])
    rw [this]; rfl
theorem trim_empty (l : List UInt8) : (ByteArray.mk (Lib.trimB l 0).toArray).toList.isEmpty = l.all (· = 0) := by
  rw [ByteArray.toList_eq]
  have h := trim_nil l
  have e : l.all (· == 0) = l.all (· = 0) := by congr 1
  rw [e] at h
  rw [Bool.eq_iff_iff, ← h]
  simp

theorem parse_eq (s : ByteArray) (h64 : s.size = 64) (h8 : 8 < s.size) (G I : Nat) (hG : Pl.getL (sub s 0 6) = G) (hI : Pl.getL (sub s 6 2) = I) :
    parseL s.data.toList = if G = 0 then none else if 55 < s[8].toNat then none else if (s.data.toList.drop (9 + s[8].toNat)).all (· = 0) = false then none else some (G, I, sub s 9 s[8].toNat) := by
  unfold parseL
  rw [if_neg (by rw [toList_length]; simpa using h64)]
  have e8 : s.data.toList.getD 8 0 = s[8] := by
    rw [List.getD_eq_getElem?_getD, List.getElem?_eq_getElem (by rw [toList_length]; exact h8)]; rfl
  unfold sub at hG hI ⊢
  simp only [List.drop_zero] at hG
  simp only [e8, hG, hI]

set_option maxHeartbeats 400000 in
theorem Parse_any (s : ByteArray) (hs : s.size ≤ 1152921504606846976) (w : World) :
    Calls Tryd.prog 50 #[.string s] w (ParsePost s.data.toList w) := by
  by_cases h64 : s.size = 64
  · have hg := Pl.getL_lt (sub s 0 6)
    rw [sub_length s 0 6 (by omega)] at hg
    have hi := Pl.getL_lt (sub s 6 2)
    rw [sub_length s 6 2 (by omega)] at hi
    generalize hG : Pl.getL (sub s 0 6) = G at hg
    generalize hI : Pl.getL (sub s 6 2) = I at hi
    have h8 : 8 < s.size := by omega
    have HP := Lib.hid (parse_eq s h64 h8 G I hG hI)
    have HG := Lib.hid hG; clear hG
    have HI := Lib.hid hI; clear hI
    have hg' : G < 281474976710656 := hg
    have hi' : I < 65536 := hi
    clear hg hi
    have b64 : ((s.size : Int) != 64) = false := by simp [h64]
    have H64 := Lib.hid h64
    have h65 : 64 ≤ s.size := by omega
    have h66 : s.size ≤ 64 := by omega
    clear h64
    have hn : s[8].toNat < 256 := s[8].toNat_lt
    go_enter Tryd.func50, Tryd.ntmps50
    go_wp2_with fail
    refine (Get_ok s 0 6 (by omega) (by omega) (by omega) hs _).mono ?_
    rintro e w1 ⟨rfl, rfl⟩
    rw [HG.out]
    go_wp2_with fail
    refine (Get_ok s 6 2 (by omega) (by omega) (by omega) hs _).mono ?_
    rintro e w1 ⟨rfl, rfl⟩
    rw [HI.out]
    by_cases h0 : G = 0
    · have b0 : ((G : Int) == 0) = true := by simp [h0]
      go_wp2_with fail
      refine bodyPost_ret (v := .tuple #[.agg #[.int .i64 0, .int .i64 0, .string ⟨#[]⟩], .bool false]) (by simp [results, Tryd.results50, go_sem]) rfl ?_
      exact ParsePost.no (by rw [HP.out, if_pos h0]) ((Keeps.refl _ _).alloc _)
    · have b0 : ((G : Int) == 0) = false := beq_eq_false_iff_ne.2 (by omega)
      by_cases h1 : 55 < s[8].toNat
      · have b1 : decide (55 < (s[8].toNat : Int)) = true := decide_eq_true (by omega)
        go_wp2_with fail
        refine bodyPost_ret (v := .tuple #[.agg #[.int .i64 0, .int .i64 0, .string ⟨#[]⟩], .bool false]) (by simp [results, Tryd.results50, go_sem]) rfl ?_
        exact ParsePost.no (by rw [HP.out, if_neg h0, if_pos h1]) ((Keeps.refl _ _).alloc _)
      · have b1 : decide (55 < (s[8].toNat : Int)) = false := decide_eq_false (by omega)
        go_wp2_with fail
        refine (Tryd.strings_Trim_one _ 0 (by decide) _ (by rw [ByteArray.size_extract]; omega)).mono ?_
        have HT := Lib.hid (trim_empty (s.extract (9 + s[8].toNat) s.size).data.toList)
        generalize (ByteArray.mk (Lib.trimB (s.extract (9 + s[8].toNat) s.size).data.toList 0).toArray) = t at HT
        rintro e w1 ⟨rfl, rfl | rfl⟩
        all_goals
          cases hall : (s.data.toList.drop (9 + s[8].toNat)).all (· = 0) with
          | false =>
            have ht : t.toList.isEmpty = false := by rw [HT.out, Lib.extract_to_end, hall]
            have HA := Lib.hid hall
            clear hall
            go_wp2_with fail
            refine bodyPost_ret (v := .tuple #[.agg #[.int .i64 0, .int .i64 0, .string ⟨#[]⟩], .bool false]) (by simp [results, Tryd.results50, go_sem]) rfl ?_
            refine ParsePost.no (by rw [HP.out, if_neg h0, if_neg h1, if_pos HA.out]) ?_
            first | exact (Keeps.refl _ _).alloc _ | exact ((Keeps.refl _ _).alloc _).drew
          | true =>
            have ht : t.toList.isEmpty = true := by rw [HT.out, Lib.extract_to_end, hall]
            have HA := Lib.hid hall
            clear hall
            go_wp2_with fail
            refine bodyPost_ret (v := .tuple #[.agg #[.int .i64 G, .int .i64 I, .string (s.extract 9 (9 + s[8].toNat))], .bool true]) (by simp [results, Tryd.results50, go_sem]) rfl ?_
            rw [extract_sub s 9 s[8].toNat]
            refine ⟨?_, ?_⟩
            · first | exact (Keeps.refl _ _).alloc _ | exact ((Keeps.refl _ _).alloc _).drew
            · rw [HP.out, if_neg h0, if_neg h1, if_neg (by rw [HA.out]; simp)]
  · have hp : parseL s.data.toList = none := by unfold parseL; rw [if_pos (by rw [toList_length]; exact h64)]
    have HP := Lib.hid hp; clear hp
    have b : ((s.size : Int) != 64) = true := by rw [bne_iff_ne]; omega
    go_enter Tryd.func50, Tryd.ntmps50
    go_wp2
    refine bodyPost_ret (v := .tuple #[.agg #[.int .i64 0, .int .i64 0, .string ⟨#[]⟩], .bool false]) (by simp [results, Tryd.results50, go_sem]) rfl ?_
    exact ParsePost.no HP.out ((Keeps.refl _ _).alloc _)
end Go.Proofs.YtepnbfpclhincaaDoor

namespace Go.Proofs.YtepnbfpclhincaaDoor
open Go.RowKit

/-- The sectors of data, from an index on. -/
def splitL (g i : Nat) (d : List UInt8) : List (List UInt8) :=
  if _h : d.length < 55 then [cellL g i d] else cellL g i (d.take 55) :: splitL g (i + 1) (d.drop 55)
termination_by d.length
decreasing_by simp only [List.length_drop]; omega

theorem splitL_lt {g i : Nat} {d : List UInt8} (h : d.length < 55) : splitL g i d = [cellL g i d] := by rw [splitL, dif_pos h]
theorem splitL_ge {g i : Nat} {d : List UInt8} (h : ¬ d.length < 55) : splitL g i d = cellL g i (d.take 55) :: splitL g (i + 1) (d.drop 55) := by rw [splitL, dif_neg h]

/-- How far the loop is. -/
def SplitRel (g i : Nat) (d : List UInt8) (j : Nat) (t : List UInt8) (xs : List (List UInt8)) (b : Bool) : Prop :=
  (b = false → j + t.length / 55 ≤ 65535 ∧ xs ++ splitL g j t = splitL g i d) ∧ (b = true → xs = splitL g i d)
theorem SplitRel.last {g i j : Nat} {d t : List UInt8} {xs : List (List UInt8)} (h : xs = splitL g i d) : SplitRel g i d j t xs true := ⟨(fun h => nomatch h), (fun _ => h)⟩
theorem SplitRel.more {g i j : Nat} {d t : List UInt8} {xs : List (List UInt8)} (h : j + t.length / 55 ≤ 65535) (k : xs ++ splitL g j t = splitL g i d) : SplitRel g i d j t xs false := ⟨(fun _ => ⟨h, k⟩), (fun h => nomatch h)⟩
def strSize (v : Value) : Nat := match v with | .string s => s.size | _ => 0
def flagOf (v : Value) : Bool := match v with | .bool b => b | _ => false
def meas (d l : Value) : Nat := if flagOf l then 0 else strSize d + 1

def SplitPost (g i : Nat) (d : List UInt8) (w : World) (e : Ending) (w' : World) : Prop :=
  ∃ v, e = .returned (.tuple #[v, .int .i64 0]) ∧ Texts w' v (splitL g i d) ∧ New w v ∧ Keeps [] w w'

set_option maxHeartbeats 1000000 in
theorem Split_ok (g i : Nat) (s : ByteArray) (h1 : 1 ≤ g) (h2 : g ≤ 281474976710655) (hle : i + s.size / 55 ≤ 65535) (hi : i ≤ 65535) (w : World) :
    Calls Tryd.prog 34 #[.int .i64 g, .int .i64 i, .string s] w (SplitPost g i s.data.toList w) := by
  have hs : s.size ≤ 3604479 := by omega
  have b1 : decide (65535 - (i : Int) < (s.size : Int) / 55) = false := decide_eq_false (by omega)
  go_enter Tryd.func34, Tryd.ntmps34
  go_wp2_with (go_at_call 55; refine (good_yes _ _ (by omega) (by omega) (by omega) (by omega) _).mono ?_; rintro e w' ⟨rfl, rfl⟩)
  go_loopw [1, 2, 8, 9] (fun ix d v l wr => ∃ (j : Nat) (b : Bool) (t : ByteArray) (xs : List (List UInt8)), j ≤ 65536 ∧ ix = .int .i64 j ∧ d = .string t ∧ l = .bool b ∧ Texts wr v xs ∧ New w v ∧ Keeps [] w wr ∧ xs.length ≤ j ∧ SplitRel g i s.data.toList j t.data.toList xs b) (fun _ d _ l _ => meas d l)
  case atStart => exact ⟨i, false, s, [], by omega, rfl, rfl, rfl, World.ownsRow_nil _ _ _ _, New.nil _, Keeps.refl _ _, by simp, ⟨fun _ => ⟨by rw [toList_length]; exact hle, rfl⟩, (fun h => nomatch h)⟩⟩
  case round =>
    obtain ⟨j, b, t, xs, hj, rfl, rfl, rfl, htx, hnew, hk, hxl, hrel⟩ := hrel
    cases b with
    | true =>
      have hx := Lib.hid (hrel.2 rfl)
      clear hrel
      go_wp2_with fail
      go_ret2
      exact ⟨_, rfl, by rw [← hx.out]; exact htx, hnew, hk⟩
    | false =>
      obtain ⟨hle2, hx⟩ := hrel.1 rfl
      rw [toList_length] at hle2
      have HX := Lib.hid hx
      clear hrel hx
      by_cases h55 : t.size < 55
      · have hmin : min (55 : Int) t.size = t.size := by omega
        have b55 : decide ((t.size : Int) < 55) = true := decide_eq_true (by omega)
        have hcut : t.extract 0 t.size = t := by rw [ByteArray.extract_zero_size]
        have HS := Lib.hid (splitL_lt (g := g) (i := j) (d := t.data.toList) (by rw [toList_length]; exact h55))
        go_wp2_with fail
        refine (Make_ok g j t h1 h2 (by omega) (by omega) _).mono ?_
        rintro e w1 ⟨rfl, hk1⟩
        have htx1 : Texts w1 u8 xs := ownsRow_keeps hk1 htx (by simp)
        generalize hC : cellL g j t.data.toList = C
        have HC := Lib.hid hC; clear hC
        go_wp2_with fail
        go_region_law (first | (refine step_app1 rfl (by rfl) Tryd.underlying23 infoStr rfl (by decide) (by rfl) (ownsRow_keeps ((Keeps.refl [] _).drew) htx1 (by simp)) (by rfl) (by rfl) ?_ ?_ ?_ ?_; (simp [Value.oneCell']); (unfold maxLen; omega); (omega); intro v' w2 ho hk2 hf))
        clear hmin b55 hcut
        go_wp2_with fail
        go_roundw
        case rel =>
          refine ⟨j + 1, true, _, xs ++ [C], by omega, by go_num, rfl, rfl, ?_, ?_, ?_, by simp; omega, SplitRel.last ?_⟩
          · have := ho; unfold Texts strV at *; simpa using this
          · intro x hx
            rcases hf x hx with h | h
            · exact hnew x h
            · have h1 := hk.size; have h2 := hk1.size; have h3 : w1.drew.heap.size = w1.heap.size := rfl; omega
          · exact (hk.trans hk1).trans' hk2.of_drew fun x hx hl => absurd (hnew x hx) (by omega)
          · rw [← HC.out, ← HX.out, HS.out]
        case measure => simp [meas, flagOf, strSize]
      · have hmin : min (55 : Int) t.size = 55 := by omega
        have hlt55 : (55 : Int) ≤ t.size := by omega
        have HS := Lib.hid (splitL_ge (g := g) (i := j) (d := t.data.toList) (by rw [toList_length]; exact h55))
        go_wp2_with fail
        have hc55 : (t.extract 0 55).data.toList = t.data.toList.take 55 := by rw [Lib.extract_data]; rfl
        refine (Make_ok g j (t.extract 0 55) h1 h2 (by omega) (by rw [ByteArray.size_extract]; omega) _).mono ?_
        rintro e w1 ⟨rfl, hk1⟩
        rw [hc55]
        have htx1 : Texts w1 u8 xs := ownsRow_keeps hk1 htx (by simp)
        generalize hC : cellL g j (t.data.toList.take 55) = C
        have HC := Lib.hid hC; clear hC hc55
        go_wp2_with fail
        go_region_law (first | (refine step_app1 rfl (by rfl) Tryd.underlying23 infoStr rfl (by decide) (by rfl) (ownsRow_keeps ((Keeps.refl [] _).drew) htx1 (by simp)) (by rfl) (by rfl) ?_ ?_ ?_ ?_; (simp [Value.oneCell']); (unfold maxLen; omega); (omega); intro v' w2 ho hk2 hf))
        clear hmin
        go_wp2_with fail
        go_roundw
        case rel =>
          refine ⟨j + 1, false, _, xs ++ [C], by omega, by go_num, rfl, rfl, ?_, ?_, ?_, by simp; omega, SplitRel.more ?_ ?_⟩
          · have := ho; unfold Texts strV at *; simpa using this
          · intro x hx
            rcases hf x hx with h | h
            · exact hnew x h
            · have h1 := hk.size; have h2 := hk1.size; have h3 : w1.drew.heap.size = w1.heap.size := rfl; omega
          · exact (hk.trans hk1).trans' hk2.of_drew fun x hx hl => absurd (hnew x hx) (by omega)
          · rw [Lib.extract_to_end, List.length_drop, toList_length]; omega
          · rw [Lib.extract_to_end, ← HX.out, HS.out, ← HC.out]; simp
        case measure => simp [meas, flagOf, strSize]; omega
end Go.Proofs.YtepnbfpclhincaaDoor

namespace Go.Proofs.YtepnbfpclhincaaDoor
open Go.RowKit

/-- A slice whose elements (each one cell) are these. -/
def Sees (w : World) (v : Value) (xs : List Value) : Prop :=
  ∃ a cap, v = .slice a xs.length cap ∧ xs.length ≤ cap ∧ cap ≤ maxLen ∧ (xs = [] ∨ ∃ b off, a = some ⟨b, off, none⟩ ∧ b < w.heap.size ∧ ∀ j u, xs[j]? = some u → w.cell? ⟨b, off + j, none⟩ = some u)

theorem Sees.keeps {F : List Nat} {w w' : World} {v : Value} {xs : List Value} (h : Sees w v xs) (hk : Keeps F w w') (hn : ∀ k, k ∈ own v → k ∉ F) : Sees w' v xs := by
  obtain ⟨a, cap, rfl, h1, h2, h3⟩ := h
  refine ⟨a, cap, rfl, h1, h2, ?_⟩
  rcases h3 with h3 | ⟨b, off, rfl, hb, hc⟩
  · exact .inl h3
  · exact .inr ⟨b, off, rfl, Nat.lt_of_lt_of_le hb hk.size, fun j u hj => hk.cell (hc j u hj) (hn b (by simp [own, Value.ownBlock]))⟩

theorem Sees.of_own {w : World} {e : TypeId} {v : Value} {xs : List Value} (h : Own w e 1 v xs.length xs) : Sees w v xs := by
  rcases h.2 with ⟨rfl, h0⟩ | ⟨g, cap, cur, rfl, _, hg, h1, h2, h3, h4⟩
  · exact ⟨_, _, by rw [h0], by omega, by simp [maxLen], .inl (List.eq_nil_of_length_eq_zero h0)⟩
  · refine ⟨_, _, rfl, h1, h2, .inr ⟨g, 0, rfl, lt_of_heap hg, fun j u hj => ?_⟩⟩
    rw [Nat.zero_add, cell_of_row w g j cur e (0, 0) hg]
    rw [← h4, List.getElem?_take] at hj
    split at hj
    · simpa using hj
    · cases hj

/-- The greatest generation of sectors. -/
def newestL (l : List (List UInt8)) : Nat := l.foldl (fun g s => match parseL s with | some (h, _, _) => max g h | none => g) 0

theorem newestL_snoc (l : List (List UInt8)) (s : List UInt8) : newestL (l ++ [s]) = match parseL s with | some (h, _, _) => max (newestL l) h | none => newestL l := by
  simp [newestL, List.foldl_append]

theorem parseL_gen {l : List UInt8} {g i : Nat} {d : List UInt8} (h : parseL l = some (g, i, d)) : 1 ≤ g ∧ g < 281474976710656 ∧ i < 65536 ∧ d.length ≤ 55 ∧ l.length = 64 := by
  unfold parseL at h
  split at h
  · cases h
  · rename_i h64
    simp only at h
    split at h
    · cases h
    · split at h
      · cases h
      · split at h
        · cases h
        · rename_i hg hn hz
          injection h with h
          simp only [Prod.mk.injEq] at h
          obtain ⟨rfl, rfl, rfl⟩ := h
          have e : l.length = 64 := by omega
          have a := Pl.getL_lt (l.take 6)
          have b := Pl.getL_lt ((l.drop 6).take 2)
          rw [List.length_take, e] at a
          rw [List.length_take, List.length_drop, e] at b
          exact ⟨by omega, a, b, by rw [List.length_take]; omega, e⟩

theorem newestL_lt (l : List (List UInt8)) : newestL l < 281474976710656 := by
  rcases List.eq_nil_or_concat l with rfl | ⟨l', s, rfl⟩
  · decide
  · rw [List.concat_eq_append, newestL_snoc]
    have ih := newestL_lt l'
    split
    · rename_i h
      have := parseL_gen h
      exact Nat.max_lt.2 ⟨ih, this.2.1⟩
    · exact ih
termination_by l.length
decreasing_by simp [*]

set_option maxHeartbeats 400000 in
theorem Newest_any (v : Value) (l : List (List UInt8)) (w : World) (hv : Sees w v (l.map strV)) (hl : l.length ≤ 65536) (hs : ∀ s ∈ l, s.length ≤ 64) :
    Calls Tryd.prog 29 #[v] w fun e w' => e = .returned (.int .i64 (newestL l)) ∧ Keeps [] w w' := by
  obtain ⟨a, cap, rfl, hc1, hc2, hcell⟩ := hv
  rw [List.length_map] at *
  have HC := Lib.hid hcell; clear hcell
  unfold maxLen at hc2
  go_enter Tryd.func29, Tryd.ntmps29
  go_wp2
  go_loopw [3, 10] (fun n i wr => ∃ k : Nat, k ≤ l.length ∧ i = .int .i64 k ∧ n = .int .i64 (newestL (l.take k)) ∧ Keeps [] w wr) (fun _ i _ => l.length - (intOf i).toNat)
  case atStart => exact ⟨0, by omega, rfl, by simp [newestL], Keeps.refl _ _⟩
  case round =>
    obtain ⟨k, hk, rfl, rfl, hkp⟩ := hrel
    by_cases hlt : k < l.length
    · have hlt' : k < (l.map strV).length := by simpa using hlt
      obtain ⟨b, off, rfl, hb, hcell⟩ := HC.out.resolve_left (by intro h; rw [h] at hlt'; simp at hlt')
      have hck : wr.cell? ⟨b, off + k, none⟩ = some (strV l[k]) := hkp.cell (hcell k _ (by simp [List.getElem?_eq_getElem hlt])) (by simp)
      have hsz : l[k].length ≤ 64 := hs _ (List.getElem_mem hlt)
      have HS := Lib.hid (List.take_succ_eq_append_getElem hlt)
      have hgl := newestL_lt (l.take k)
      generalize hx : l[k] = x at hck hsz HS
      clear hcell
      unfold strV at hck
      go_wp2_with fail
      refine (Parse_any ⟨x.toArray⟩ (by rw [size_mk]; omega) _).mono ?_
      rintro e w1 ⟨hk1, hp⟩
      have ex : (ByteArray.mk x.toArray).data.toList = x := by simp
      rw [ex] at hp
      clear ex
      cases hr : parseL x with
      | none =>
        rw [hr] at hp
        subst hp
        have HN := Lib.hid hr; clear hr hx
        go_wp2_with fail
        go_roundw
        case rel => exact ⟨k + 1, by omega, by go_num, by rw [HS.out, newestL_snoc, HN.out], (hkp.trans hk1).alloc _⟩
        case measure => simp [intOf]; omega
      | some r =>
        obtain ⟨g, i, d⟩ := r
        have hgg := parseL_gen hr
        rw [hr] at hp
        subst hp
        have HN := Lib.hid hr; clear hr hx
        obtain ⟨hg1, hg2, hg3, -, -⟩ := hgg
        go_wp2_with fail
        go_roundw
        case rel => exact ⟨k + 1, by omega, by go_num, by rw [HS.out, newestL_snoc, HN.out]; go_num, (hkp.trans hk1).alloc _⟩
        case measure => simp [intOf]; omega
    · obtain rfl : k = l.length := by omega
      go_wp2_with fail
      go_ret
      exact ⟨ret_of (by simp), hkp⟩
end Go.Proofs.YtepnbfpclhincaaDoor

namespace Go.Proofs.YtepnbfpclhincaaDoor
open Go.RowKit

theorem sizeBuilder : (Tryd.prog.info? 82).map (·.size) = some 2 := by kernel_rfl
theorem liesBuilder : liesAt Tryd.prog Tryd.prog.depth 82 (2 / Tryd.prog.cellsOf 82) 0 82 1 = true := by kernel_rfl

abbrev IsB (B b : Nat) (bs : List UInt8) (w : World) : Prop := Lib.IsBuilderF 82 5 B b (Lib.byteCells bs) w

set_option maxRecDepth 100000 in
set_option maxHeartbeats 400000 in
theorem copyCheck_fresh (b : Nat) (w : World) (h0 : w.cell? ⟨b, 0, none⟩ = some (.pointer none)) (hs : w.shape? b = some (82, 2)) (hf : w.frozen? ⟨b, 0, none⟩ = false) :
    Calls Tryd.prog 57 #[.pointer (some ⟨b, 0, none⟩)] w fun e w' => e = .returned (.tuple #[]) ∧ w' = w.setCell ⟨b, 0, none⟩ (.pointer (some ⟨b, 0, none⟩)) := by
  obtain ⟨j, hj, hjs⟩ := Option.map_eq_some_iff.1 sizeBuilder
  go_enter Tryd.func57, Tryd.ntmps57
  go_wp2
  rw [Lib.run_to_unsafe w ⟨b, 0, none⟩ Tryd.underlying79 Tryd.underlying126 hj (by rw [hjs]; decide) hs (Nat.zero_lt_succ 1)]
  simp only [Result.andThen]
  rw [Oper.upon_value]
  go_wp2
  rw [run_callFunc_extern Tryd.func68 (by kernel_rfl) (by kernel_rfl) (by kernel_rfl) (e := Extern.AbiNoEscape.same) (by kernel_rfl)]
  rw [Lib.run_noEscape]
  simp only [Result.andThen]
  rw [Oper.upon_value]
  go_wp2
  rw [Lib.run_from_unsafe w ⟨b, 0, none⟩ Tryd.underlying126 Tryd.underlying79 hj hs liesBuilder]
  simp only [Result.andThen]
  rw [Oper.upon_value]
  go_wp2
  go_end0
  exact ⟨rfl, rfl⟩
set_option maxRecDepth 100000 in
theorem copyCheck_used (b : Nat) (w : World) (h0 : w.cell? ⟨b, 0, none⟩ = some (.pointer (some ⟨b, 0, none⟩))) :
    Calls Tryd.prog 57 #[.pointer (some ⟨b, 0, none⟩)] w fun e w' => e = .returned (.tuple #[]) ∧ w' = w := by
  obtain ⟨j, hj, hjs⟩ := Option.map_eq_some_iff.1 sizeBuilder
  go_enter Tryd.func57, Tryd.ntmps57
  go_wp2
  rw [Lib.run_neq_ptr_same w _ Tryd.underlying79 hj]
  go_wp2
  go_end0
  exact ⟨rfl, rfl⟩

theorem copyCheck_any (B b : Nat) (bs : List Value) (w : World) (h : Lib.IsBuilderF 82 5 B b bs w) :
    Calls Tryd.prog 57 #[.pointer (some ⟨b, 0, none⟩)] w fun e w' => e = .returned (.tuple #[]) ∧ Lib.BuilderAtF 82 5 B b (.pointer (some ⟨b, 0, none⟩)) bs w' ∧ Below B w w' ∧ Lib.OthersKept 5 (some b) w w' := by
  rcases h with h | h
  · refine (copyCheck_fresh b w h.cell0 h.shape h.frozen0).mono ?_
    rintro e w' ⟨rfl, rfl⟩
    exact ⟨rfl, h.used _, (Below.refl B w).setCell (p := ⟨b, 0, none⟩) h.1 _, (Lib.OthersKept.refl _ _ w).setCell ⟨b, 0, none⟩ rfl _⟩
  · refine (copyCheck_used b w h.cell0).mono ?_
    rintro e w' ⟨rfl, rfl⟩
    exact ⟨rfl, h, Below.refl B _, Lib.OthersKept.refl _ _ _⟩

set_option maxHeartbeats 400000 in
theorem WriteString_any (B b : Nat) (bs : List UInt8) (s : ByteArray) (w : World) (h : IsB B b bs w) (hlen : bs.length + s.size ≤ 140737488355328) (hBw : B ≤ w.heap.size) :
    Calls Tryd.prog 37 #[.pointer (some ⟨b, 0, none⟩), .string s] w fun e w' => e = .returned (.tuple #[.int .i64 s.size, .nilIface]) ∧ IsB B b (bs ++ s.data.toList) w' ∧ Below B w w' ∧ Lib.OthersKept 5 (some b) w w' := by
  obtain ⟨i0, hi, hz0, hz1, hz2⟩ := info_parts infoU8
  have hbl : (Lib.byteCells bs).length = bs.length := Lib.byteCells_length bs
  have HBL := Lib.hid hbl; clear hbl
  go_enter Tryd.func37, Tryd.ntmps37
  go_wp2_with (go_at_call 57; refine (copyCheck_any B b _ _ h).mono ?_)
  rintro e w1 ⟨rfl, h1, hb1, hk1⟩
  obtain ⟨hB, v, hbk, hown, hne⟩ := h1
  have c0 : w1.cell? ⟨b, 0, none⟩ = some (.pointer (some ⟨b, 0, none⟩)) := by rw [Lib.cell_of_heap hbk]; rfl
  have c1 : w1.cell? ⟨b, 1, none⟩ = some v := by rw [Lib.cell_of_heap hbk]; rfl
  go_wp2_with (at_builtin; refine Lib.wpList_append_own_stringF _ rfl _ _ 80 9 rfl B 5 i0 Tryd.underlying80 Tryd.underlying9 hi hz0 hz1 hz2 _ _ _ rfl hown s rfl ?c3 ?c4 ?c5 ?_)
  case c3 => have := HBL.out; unfold maxLen; omega
  case c4 => have := HBL.out; omega
  case c5 => have := hb1.size; omega
  intro v' w2 hown' hgrow _
  have hlt : b < w1.heap.size := lt_of_heap hbk
  have hb2 : w2.heap[b]? = some (.cells #[.pointer (some ⟨b, 0, none⟩), v] 82 (0, 0)) := by
    rw [hgrow.block b hlt (fun e => hne e.symm)]
    exact hbk
  have d0 : w2.cell? ⟨b, 0, none⟩ = some (.pointer (some ⟨b, 0, none⟩)) := by rw [Lib.cell_of_heap hb2]; rfl
  have d1 : w2.cell? ⟨b, 1, none⟩ = some v := by rw [Lib.cell_of_heap hb2]; rfl
  have f1 : w2.frozen? ⟨b, 1, none⟩ = false := Lib.frozen_of_heap hb2 1
  obtain ⟨ao, n', cap, rfl⟩ : ∃ ao n' cap, v' = .slice ao n' cap := by
    rcases hown'.2 with ⟨hv, _⟩ | ⟨g, cap, cur, fz, hv, _⟩
    · exact ⟨_, _, _, hv⟩
    · exact ⟨_, _, _, hv⟩
  go_wp2
  go_ret2
  refine ⟨rfl, .inr ?_, ?_, (hk1.grown hgrow (Lib.ownsRowF_kind hown)).setCell ⟨b, 1, none⟩ rfl _⟩
  · have e : Lib.byteCells (bs ++ s.data.toList) = Lib.byteCells bs ++ Lib.strCells s := by simp [Lib.byteCells, Lib.strCells]
    rw [e]
    exact Lib.BuilderAtF.put (T := 82) (e := 5) hB hb2 (bs' := Lib.byteCells bs ++ Lib.strCells s) (by simpa [Lib.strCells_length] using hown') (by decide)
  · exact (hb1.grown hgrow (by have := hb1.size; omega) (fun k hk => (hown.lt k hk).1)).setCell (p := ⟨b, 1, none⟩) hB _

/-- 'var b strings.Builder', just laid. -/
theorem IsB_new (w : World) : IsB w.heap.size w.heap.size [] (w.alloc (.cells #[.pointer none, .slice none 0 0] 82)) :=
  .inl ⟨Nat.le_refl _, .slice none 0 0, heap_alloc_new _ _, World.ownsRowF_nil _ _ _ _, by simp [Value.ownBlock]⟩

theorem BLen_any (B b : Nat) (bs : List UInt8) (w : World) (h : IsB B b bs w) :
    Calls Tryd.prog 38 #[.pointer (some ⟨b, 0, none⟩)] w fun e w' => e = .returned (.int .i64 bs.length) ∧ w = w' :=
  (Tryd.Builder_Len_f B b _ w h).mono fun e w' ⟨h1, h2⟩ => ⟨by rw [h1, Lib.byteCells_length], h2.symm⟩
theorem BString_any (B b : Nat) (bs : List UInt8) (w : World) (h : IsB B b bs w) (hBw : B ≤ w.heap.size) :
    Calls Tryd.prog 40 #[.pointer (some ⟨b, 0, none⟩)] w fun e w' => e = .returned (.string ⟨bs.toArray⟩) ∧ IsB B b bs w' ∧ Below B w w' :=
  Tryd.Builder_String_any_f B b bs w h hBw
end Go.Proofs.YtepnbfpclhincaaDoor

namespace Go.Proofs.YtepnbfpclhincaaDoor
open Go.RowKit

theorem IsBA_keeps {T e : TypeId} {B b : Nat} {p : Value} {bs : List Value} {w w' : World} (h : Lib.BuilderAtF T e B b p bs w) (k : Keeps [] w w') : Lib.BuilderAtF T e B b p bs w' := by
  obtain ⟨hB, v, hb, hown, hne⟩ := h
  refine ⟨hB, v, k.heap hb (by simp), ⟨hown.1, ?_⟩, hne⟩
  rcases hown.2 with hx | ⟨g, cap, cur, fz, rfl, hbg, hg, r⟩
  · exact .inl hx
  · exact .inr ⟨g, cap, cur, fz, rfl, hbg, k.heap hg (by simp), r⟩
theorem IsB_keeps {B b : Nat} {bs : List UInt8} {w w' : World} (h : IsB B b bs w) (k : Keeps [] w w') : IsB B b bs w' :=
  h.imp (fun h => IsBA_keeps h k) (fun h => IsBA_keeps h k)
theorem IsB_lt {B b : Nat} {bs : List UInt8} {w : World} (h : IsB B b bs w) : b < w.heap.size := by
  rcases h with ⟨_, v, hb, _⟩ | ⟨_, v, hb, _⟩ <;> exact lt_of_heap hb
theorem Below.keeps {B : Nat} {w0 w w' : World} (h : Below B w0 w) (k : Keeps [] w w') (hB : B ≤ w.heap.size) : Below B w0 w' :=
  h.trans ⟨k.os, k.tape, k.output, k.size, fun i hi => k.block i (by omega) (by simp)⟩

/-- The data that sectors hold together, of one generation, from an index on. -/
def joinL (g : Nat) : Nat → List (List UInt8) → List UInt8
  | _, [] => []
  | k, s :: r => match parseL s with
    | some (g', i, d) => if g' = g ∧ i = k then (if d.length < 55 then d else d ++ joinL g (k + 1) r) else []
    | none => []

set_option maxRecDepth 100000 in
set_option maxHeartbeats 1000000 in
theorem Join_any (v : Value) (l : List (List UInt8)) (g : Nat) (w : World) (hv : Sees w v (l.map strV)) (hl : l.length ≤ 65535) (hs : ∀ s ∈ l, s.length ≤ 64) :
    Calls Tryd.prog 28 #[v, .int .i64 g] w fun e w' => e = .returned (.string ⟨(joinL g 0 l).toArray⟩) ∧ Keeps [] w w' := by
  obtain ⟨a, cap, rfl, hc1, hc2, hcell⟩ := hv
  rw [List.length_map] at *
  have HC := Lib.hid hcell; clear hcell
  unfold maxLen at hc2
  go_enter Tryd.func28, Tryd.ntmps28
  go_wp2
  refine wp_alloc1 ?_
  intro W hW hbox hWs
  have hB0 : IsB w.heap.size w.heap.size [] W := .inl ⟨Nat.le_refl _, .slice none 0 0, hbox, World.ownsRowF_nil _ _ _ _, by simp [Value.ownBlock]⟩
  clear hbox
  go_loopw [12] (fun i wr => ∃ k : Nat, k ≤ l.length ∧ i = .int .i64 k ∧ ∃ acc : List UInt8, acc.length = 55 * k ∧ IsB w.heap.size w.heap.size acc wr ∧ Below w.heap.size w wr ∧ acc ++ joinL g k (l.drop k) = joinL g 0 l) (fun i _ => l.length - (intOf i).toNat)
  case atStart => exact ⟨0, by omega, rfl, [], rfl, hB0, hW.below, by simp⟩
  case round =>
    obtain ⟨k, hk, rfl, acc, hal, hB, hbl, hj⟩ := hrel
    have HJ := Lib.hid hj; clear hj
    have HAL := Lib.hid hal; clear hal
    have hal2 : acc.length ≤ 3604425 := by have := HAL.out; omega
    have hsz := hbl.size
    by_cases hlt : k < l.length
    · have hlt' : k < (l.map strV).length := by simpa using hlt
      obtain ⟨b, off, rfl, hb, hcell⟩ := HC.out.resolve_left (by intro h; rw [h] at hlt'; simp at hlt')
      have hck : wr.cell? ⟨b, off + k, none⟩ = some (strV l[k]) := by
        rw [hbl.cell (by exact hb)]; exact hcell k _ (by simp [List.getElem?_eq_getElem hlt])
      have hxs : l[k].length ≤ 64 := hs _ (List.getElem_mem hlt)
      have HS := Lib.hid (List.drop_eq_getElem_cons hlt)
      generalize hx : l[k] = x at hck hxs HS
      clear hcell hx
      unfold strV at hck
      go_wp2_with fail
      refine (Parse_any ⟨x.toArray⟩ (by rw [size_mk]; omega) _).mono ?_
      rintro e w1 ⟨hk1, hp⟩
      have ex : (ByteArray.mk x.toArray).data.toList = x := by simp
      rw [ex] at hp
      clear ex
      have hB1 := IsB_keeps hB hk1
      have hbl1 := Below.keeps hbl hk1 hsz
      cases hr : parseL x with
      | none =>
        rw [hr] at hp
        subst hp
        have HN := Lib.hid hr; clear hr
        have HE : Hid (acc = joinL g 0 l) := by rw [← HJ.out, HS.out]; unfold joinL; rw [HN.out]; simp [Hid]
        go_wp2_with fail
        refine (BString_any w.heap.size w.heap.size acc _ (IsB_keeps hB1 ((Keeps.refl _ _).alloc _)) (by have := hbl1.size; simp; omega)).mono ?_
        rintro e w2 ⟨rfl, -, hbl2⟩
        go_wp2_with fail
        go_ret
        refine ⟨ret_of ?_, .of_below ((Below.keeps hbl1 ((Keeps.refl _ _).alloc _) hbl1.size).trans hbl2)⟩
        rw [← HE.out]; rfl
      | some r =>
        obtain ⟨g', i, d⟩ := r
        have hgg := parseL_gen hr
        rw [hr] at hp
        subst hp
        have HN := Lib.hid hr; clear hr
        obtain ⟨hg1, hg2, hg3, hdl, -⟩ := hgg
        by_cases hgi : g' = g ∧ i = k
        · obtain ⟨rfl, rfl⟩ := hgi
          have hz := hbl1.size
          have hB2 : IsB w.heap.size w.heap.size acc (w1.alloc (.cells #[.int .i64 g', .int .i64 i, .string ⟨d.toArray⟩] 99)) := IsB_keeps hB1 ((Keeps.refl _ _).alloc _)
          have hbx := heap_alloc_new w1 (.cells #[.int .i64 g', .int .i64 i, .string ⟨d.toArray⟩] 99)
          go_wp2_with fail
          refine (WriteString_any w.heap.size w.heap.size acc ⟨d.toArray⟩ _ hB2 (by rw [size_mk]; omega) (by simp; omega)).mono ?_
          rintro e w2 ⟨rfl, hB3, hbl2, hok⟩
          have hbx2 := hok _ _ hbx (by intro h; injection h with h; have := IsB_lt hB1; omega) (by intro c fz h; injection h with h1 h2; cases h2)
          have cx : w2.cell? ⟨w1.heap.size, 2, none⟩ = some (.string ⟨d.toArray⟩) := by rw [cell_blk hbx2]; rfl
          have hbl3 : Below w.heap.size w w2 := (Below.keeps hbl1 ((Keeps.refl _ _).alloc _) hz).trans hbl2
          have ed : (ByteArray.mk d.toArray).data.toList = d := by simp
          rw [ed] at hB3
          have hz3 := hbl3.size
          have esz := size_mk d
          clear hbx hbx2 hB2 ed
          by_cases h55 : d.length < 55
          · have HE : Hid (acc ++ d = joinL g' 0 l) := by rw [← HJ.out, HS.out]; unfold joinL; rw [HN.out]; simp only [and_self, if_true, h55, Hid]
            have b55 : decide ((d.length : Int) < 55) = true := decide_eq_true (by omega)
            go_wp2_with fail
            refine (BString_any w.heap.size w.heap.size (acc ++ d) _ hB3 (by omega)).mono ?_
            rintro e w3 ⟨rfl, -, hbl4⟩
            go_wp2_with fail
            go_ret
            refine ⟨ret_of ?_, .of_below (hbl3.trans hbl4)⟩
            rw [← HE.out]; rfl
          · have b55 : decide ((d.length : Int) < 55) = false := decide_eq_false (by omega)
            go_wp2_with fail
            go_roundw
            case rel =>
              refine ⟨i + 1, by omega, by go_num, acc ++ d, ?_, hB3, hbl3, ?_⟩
              · have := HAL.out; simp; omega
              · rw [← HJ.out, HS.out]; conv => rhs; unfold joinL
                rw [HN.out]; simp only [and_self, if_true, h55, if_false, List.append_assoc]
            case measure => simp [intOf]; omega
        · have HE : Hid (acc = joinL g 0 l) := by rw [← HJ.out, HS.out]; unfold joinL; rw [HN.out]; simp only [hgi, if_false]; simp [Hid]
          by_cases hgg : g' = g
          · have hii : ¬ i = k := fun h => hgi ⟨hgg, h⟩
            subst hgg
            have bi : ((i : Int) != k) = true := by rw [bne_iff_ne]; omega
            go_wp2_with fail
            refine (BString_any w.heap.size w.heap.size acc _ (IsB_keeps hB1 ((Keeps.refl _ _).alloc _)) (by have := hbl1.size; simp; omega)).mono ?_
            rintro e w2 ⟨rfl, -, hbl2⟩
            go_wp2_with fail
            go_ret
            refine ⟨ret_of ?_, .of_below ((Below.keeps hbl1 ((Keeps.refl _ _).alloc _) hbl1.size).trans hbl2)⟩
            rw [← HE.out]; rfl
          · have bg : ((g' : Int) != g) = true := by rw [bne_iff_ne]; omega
            go_wp2_with fail
            refine (BString_any w.heap.size w.heap.size acc _ (IsB_keeps hB1 ((Keeps.refl _ _).alloc _)) (by have := hbl1.size; simp; omega)).mono ?_
            rintro e w2 ⟨rfl, -, hbl2⟩
            go_wp2_with fail
            go_ret
            refine ⟨ret_of ?_, .of_below ((Below.keeps hbl1 ((Keeps.refl _ _).alloc _) hbl1.size).trans hbl2)⟩
            rw [← HE.out]; rfl
    · obtain rfl : k = l.length := by omega
      have HE : Hid (acc = joinL g 0 l) := by rw [← HJ.out]; simp [joinL, Hid]
      go_wp2_with fail
      refine (BString_any w.heap.size w.heap.size acc _ hB (by omega)).mono ?_
      rintro e w2 ⟨rfl, -, hbl2⟩
      go_wp2_with fail
      go_ret
      refine ⟨ret_of ?_, .of_below (hbl.trans hbl2)⟩
      rw [← HE.out]; rfl
end Go.Proofs.YtepnbfpclhincaaDoor

namespace Go.Proofs.YtepnbfpclhincaaDoor
open Go.RowKit

/-- A region: its sectors, and the writes that are not flushed. -/
structure RegM where
  lasts : List (List UInt8)
  queue : List (Nat × List UInt8)

/-- A disk. -/
structure DiskM where
  regs : List RegM
  off : Bool
  treg : Int
  tleft : Int
  keep : List Nat

def DiskM.setReg (D : DiskM) (i : Nat) (R : RegM) : DiskM := { D with regs := D.regs.set i R }

def qV (q : List (Nat × List UInt8)) : List Value := q.flatMap fun x => [.int .i64 x.1, strV x.2]
theorem qV_length (q : List (Nat × List UInt8)) : (qV q).length = q.length * 2 := by
  induction q with
  | nil => rfl
  | cons x q ih => simp only [qV, List.flatMap_cons, List.length_append, List.length_cons, List.length_nil] at *; omega
theorem qV_snoc (q : List (Nat × List UInt8)) (x : Nat × List UInt8) : qV (q ++ [x]) = qV q ++ [.int .i64 x.1, strV x.2] := by simp [qV]
theorem qV_get (q : List (Nat × List UInt8)) : ∀ (j : Nat) (x : Nat × List UInt8), q[j]? = some x → (qV q)[j * 2]? = some (.int .i64 x.1) ∧ (qV q)[j * 2 + 1]? = some (strV x.2) := by
  induction q with
  | nil => intro j x h; simp at h
  | cons y q ih =>
    intro j x h
    cases j with
    | zero => simp at h; subst h; simp [qV]
    | succ j =>
      simp at h
      have := ih j x h
      have e : (j + 1) * 2 = j * 2 + 2 := by omega
      rw [e]
      simpa [qV] using this
def ptrV (p : Nat) : Value := .pointer (some ⟨p, 0, none⟩)
def u64V (n : Nat) : Value := .int .u64 n

/-- A region lies at block b, in the blocks F. -/
structure RegAt (w : World) (b : Nat) (R : RegM) (F : List Nat) : Prop where
  ex : ∃ vl vq, w.heap[b]? = some (.cells #[vl, vq] 72 (0, 0)) ∧ Own w 9 1 vl R.lasts.length (R.lasts.map strV) ∧ Own w 115 2 vq R.queue.length (qV R.queue) ∧ F = b :: (own vl ++ own vq)

theorem own_type {w : World} {e : TypeId} {size : Nat} {v : Value} {n : Nat} {xs : List Value} (h : Own w e size v n xs) {k : Nat} (hk : k ∈ own v) : ∃ cur, w.heap[k]? = some (.cells cur e (0, 0)) := by
  rcases h.2 with ⟨rfl, _⟩ | ⟨g, cap, cur, rfl, _, hg, _⟩
  · cases hk
  · simp [own, Value.ownBlock] at hk; subst hk; exact ⟨cur, hg⟩

theorem RegAt.lt {w : World} {b : Nat} {R : RegM} {F : List Nat} (h : RegAt w b R F) : ∀ k, k ∈ F → k < w.heap.size := by
  obtain ⟨vl, vq, hb, hl, hq, rfl⟩ := h.ex
  intro k hk
  rcases List.mem_cons.1 hk with rfl | hk
  · exact lt_of_heap hb
  · rcases List.mem_append.1 hk with hk | hk
    · exact ownsRow_lt hl k hk
    · exact ownsRow_lt hq k hk
theorem RegAt.keeps {w w' : World} {b : Nat} {R : RegM} {F G : List Nat} (h : RegAt w b R F) (hk : Keeps G w w') (hd : ∀ k, k ∈ F → k ∉ G) : RegAt w' b R F := by
  obtain ⟨vl, vq, hb, hl, hq, rfl⟩ := h.ex
  exact ⟨vl, vq, hk.heap hb (hd _ (by simp)), ownsRow_keeps hk hl (fun k hk => hd _ (by simp [hk])), ownsRow_keeps hk hq (fun k hk => hd _ (by simp [hk])), rfl⟩

/-- A disk lies at block bd; its regions at ps; in the blocks F. -/
structure DiskIn (w : World) (bd : Nat) (ps : List Nat) (D : DiskM) (F : List Nat) (rs vk : Value) (f : Nat → List Nat) : Prop where
  head : w.heap[bd]? = some (.cells #[rs, .bool D.off, .int .i64 D.treg, .int .i64 D.tleft, vk] 66 (0, 0))
  rsOwn : Own w 67 1 rs ps.length (ps.map ptrV)
  vkOwn : Own w 43 1 vk D.keep.length (D.keep.map u64V)
  len : D.regs.length = ps.length
  reg : ∀ i b R, ps[i]? = some b → D.regs[i]? = some R → RegAt w b R (f i)
  apart : ∀ i j, i < ps.length → j < ps.length → i ≠ j → ∀ k, k ∈ f i → k ∉ f j
  bdF : bd ∈ F
  rsF : ∀ k, k ∈ own rs → k ∈ F
  vkF : ∀ k, k ∈ own vk → k ∈ F
  fF : ∀ i, i < ps.length → ∀ k, k ∈ f i → k ∈ F
  lt : ∀ k, k ∈ F → k < w.heap.size

def DiskAt (w : World) (bd : Nat) (ps : List Nat) (D : DiskM) (F : List Nat) : Prop := ∃ rs vk f, DiskIn w bd ps D F rs vk f

section
variable {w w' : World} {bd : Nat} {ps : List Nat} {D : DiskM} {F : List Nat} {rs vk : Value} {f : Nat → List Nat}

theorem RegAt.type {b : Nat} {R : RegM} {G : List Nat} (h : RegAt w b R G) {k : Nat} (hk : k ∈ G) : ∃ cur t, w.heap[k]? = some (.cells cur t (0, 0)) ∧ (t = 72 ∨ t = 9 ∨ t = 115) := by
  obtain ⟨vl, vq, hb, hl, hq, rfl⟩ := h.ex
  rcases List.mem_cons.1 hk with rfl | hk
  · exact ⟨_, _, hb, .inl rfl⟩
  · rcases List.mem_append.1 hk with hk | hk
    · obtain ⟨c, h⟩ := own_type hl hk; exact ⟨_, _, h, .inr (.inl rfl)⟩
    · obtain ⟨c, h⟩ := own_type hq hk; exact ⟨_, _, h, .inr (.inr rfl)⟩

theorem DiskIn.regOf (h : DiskIn w bd ps D F rs vk f) {i : Nat} (hi : i < ps.length) : ∃ b R, ps[i]? = some b ∧ D.regs[i]? = some R ∧ RegAt w b R (f i) := by
  have hi' : i < D.regs.length := by rw [h.len]; exact hi
  exact ⟨_, _, List.getElem?_eq_getElem hi, List.getElem?_eq_getElem hi', h.reg i _ _ (List.getElem?_eq_getElem hi) (List.getElem?_eq_getElem hi')⟩

theorem DiskIn.bd_not (h : DiskIn w bd ps D F rs vk f) {i : Nat} (hi : i < ps.length) : bd ∉ f i := fun hk => by
  obtain ⟨b, R, _, _, hr⟩ := h.regOf hi
  obtain ⟨c, t, hc, ht⟩ := hr.type hk
  have := h.head.symm.trans hc
  injection this with this; injection this with _ e _
  rcases ht with ht | ht | ht <;> (rw [ht] at e; cases e)
theorem DiskIn.rs_not (h : DiskIn w bd ps D F rs vk f) {i : Nat} (hi : i < ps.length) {k : Nat} (hk : k ∈ own rs) : k ∉ f i := fun hk' => by
  obtain ⟨b, R, _, _, hr⟩ := h.regOf hi
  obtain ⟨c, t, hc, ht⟩ := hr.type hk'
  obtain ⟨c', hc'⟩ := own_type h.rsOwn hk
  have := hc'.symm.trans hc
  injection this with this; injection this with _ e _
  rcases ht with ht | ht | ht <;> (rw [ht] at e; cases e)
theorem DiskIn.vk_not (h : DiskIn w bd ps D F rs vk f) {i : Nat} (hi : i < ps.length) {k : Nat} (hk : k ∈ own vk) : k ∉ f i := fun hk' => by
  obtain ⟨b, R, _, _, hr⟩ := h.regOf hi
  obtain ⟨c, t, hc, ht⟩ := hr.type hk'
  obtain ⟨c', hc'⟩ := own_type h.vkOwn hk
  have := hc'.symm.trans hc
  injection this with this; injection this with _ e _
  rcases ht with ht | ht | ht <;> (rw [ht] at e; cases e)
theorem DiskIn.rs_bd (h : DiskIn w bd ps D F rs vk f) {k : Nat} (hk : k ∈ own rs) : k ≠ bd := fun e => by
  obtain ⟨c', hc'⟩ := own_type h.rsOwn hk
  rw [e] at hc'
  have := hc'.symm.trans h.head
  injection this with this; injection this with _ e _
  cases e
theorem DiskIn.vk_bd (h : DiskIn w bd ps D F rs vk f) {k : Nat} (hk : k ∈ own vk) : k ≠ bd := fun e => by
  obtain ⟨c', hc'⟩ := own_type h.vkOwn hk
  rw [e] at hc'
  have := hc'.symm.trans h.head
  injection this with this; injection this with _ e _
  cases e

/-- Nothing of the disk is touched. -/
theorem DiskIn.keeps {G : List Nat} (h : DiskIn w bd ps D F rs vk f) (hk : Keeps G w w') (hd : ∀ k, k ∈ F → k ∉ G) : DiskIn w' bd ps D F rs vk f :=
  ⟨hk.heap h.head (hd _ h.bdF), ownsRow_keeps hk h.rsOwn (fun k x => hd k (h.rsF k x)), ownsRow_keeps hk h.vkOwn (fun k x => hd k (h.vkF k x)), h.len,
   fun i b R hb hR => (h.reg i b R hb hR).keeps hk (fun k x => hd k (h.fF i (getElem?_lt hb) k x)), h.apart, h.bdF, h.rsF, h.vkF, h.fF, fun k x => Nat.lt_of_lt_of_le (h.lt k x) hk.size⟩
theorem DiskAt.keeps {G : List Nat} (h : DiskAt w bd ps D F) (hk : Keeps G w w') (hd : ∀ k, k ∈ F → k ∉ G) : DiskAt w' bd ps D F :=
  let ⟨rs, vk, f, h⟩ := h; ⟨rs, vk, f, h.keeps hk hd⟩
theorem DiskAt.keeps0 (h : DiskAt w bd ps D F) (hk : Keeps [] w w') : DiskAt w' bd ps D F := h.keeps hk (by simp)
theorem DiskAt.lt (h : DiskAt w bd ps D F) : ∀ k, k ∈ F → k < w.heap.size := let ⟨_, _, _, h⟩ := h; h.lt

/-- One region has turned. -/
theorem DiskIn.upd (h : DiskIn w bd ps D F rs vk f) {i b : Nat} (hi : ps[i]? = some b) {R' : RegM} {G : List Nat} (hk : Keeps (f i) w w') (hR : RegAt w' b R' G) (hf : Fresh w (f i) G) :
    DiskIn w' bd ps (D.setReg i R') (F ++ G) rs vk (fun j => if j = i then G else f j) := by
  have hil := getElem?_lt hi
  refine ⟨hk.heap h.head (h.bd_not hil), ownsRow_keeps hk h.rsOwn (fun k x => h.rs_not hil x), ownsRow_keeps hk h.vkOwn (fun k x => h.vk_not hil x), by simp [DiskM.setReg, h.len], ?_, ?_, ?_, ?_, ?_, ?_, ?_⟩
  · intro j b' R hb' hR'
    by_cases e : j = i
    · subst e
      rw [hi] at hb'; injection hb' with hb'; subst hb'
      have hlt : j < D.regs.length := by rw [h.len]; exact hil
      simp only [DiskM.setReg, List.getElem?_set, if_true, hlt] at hR'
      injection hR' with hR'; subst hR'
      simp only [if_true]; exact hR
    · simp only [if_neg e]
      simp only [DiskM.setReg] at hR'
      rw [List.getElem?_set_ne (Ne.symm e)] at hR'
      exact (h.reg j b' R hb' hR').keeps hk (h.apart j i (getElem?_lt hb') hil e)
  · intro j l hj hl hjl k hkj hkl
    by_cases e : j = i
    · subst e
      rw [if_pos rfl] at hkj
      rw [if_neg (Ne.symm hjl)] at hkl
      rcases hf k hkj with x | x
      · exact h.apart j l hj hl hjl k x hkl
      · have := h.lt k (h.fF l hl k hkl); omega
    · rw [if_neg e] at hkj
      by_cases e2 : l = i
      · subst e2
        rw [if_pos rfl] at hkl
        rcases hf k hkl with x | x
        · exact h.apart j l hj hl hjl k hkj x
        · have := h.lt k (h.fF j hj k hkj); omega
      · rw [if_neg e2] at hkl
        exact h.apart j l hj hl hjl k hkj hkl
  · simp [h.bdF]
  · intro k x; simp [h.rsF k x]
  · intro k x; simp [h.vkF k x]
  · intro j hj k x
    by_cases e : j = i
    · rw [if_pos e] at x; simp [x]
    · rw [if_neg e] at x; simp [h.fF j hj k x]
  · intro k x
    rcases List.mem_append.1 x with x | x
    · exact Nat.lt_of_lt_of_le (h.lt k x) hk.size
    · exact hR.lt k x

/-- The head has turned; what it keeps of a loss may be another row. -/
theorem DiskIn.hd (h : DiskIn w bd ps D F rs vk f) {off : Bool} {treg tleft : Int} {vk' : Value} {keep : List Nat} (hk : Keeps [bd] w w')
    (hh : w'.heap[bd]? = some (.cells #[rs, .bool off, .int .i64 treg, .int .i64 tleft, vk'] 66 (0, 0)))
    (hv : Own w' 43 1 vk' keep.length (keep.map u64V)) (_hf : ∀ k, k ∈ own vk' → k ∈ own vk ∨ w.heap.size ≤ k) :
    DiskIn w' bd ps { D with off := off, treg := treg, tleft := tleft, keep := keep } (F ++ own vk') rs vk' f :=
  ⟨hh, ownsRow_keeps hk h.rsOwn (fun k x => by simpa using h.rs_bd x), hv, h.len, fun i b R hb hR => (h.reg i b R hb hR).keeps hk (fun k x => by simp; intro e; subst e; exact h.bd_not (getElem?_lt hb) x), h.apart,
   by simp [h.bdF], fun k x => by simp [h.rsF k x], fun k x => by simp [x], fun i hi k x => by simp [h.fF i hi k x], fun k x => by
    rcases List.mem_append.1 x with x | x
    · exact Nat.lt_of_lt_of_le (h.lt k x) hk.size
    · exact ownsRow_lt hv k x⟩
end

end Go.Proofs.YtepnbfpclhincaaDoor

namespace Go.Proofs.YtepnbfpclhincaaDoor
open Go.RowKit

section
variable {w w' : World} {bd : Nat} {ps : List Nat} {D : DiskM} {F : List Nat} {rs vk : Value} {f : Nat → List Nat}

theorem DiskIn.cell (h : DiskIn w bd ps D F rs vk f) : w.cell? ⟨bd, 0, none⟩ = some rs ∧ w.cell? ⟨bd, 1, none⟩ = some (.bool D.off) ∧ w.cell? ⟨bd, 2, none⟩ = some (.int .i64 D.treg) ∧ w.cell? ⟨bd, 3, none⟩ = some (.int .i64 D.tleft) ∧ w.cell? ⟨bd, 4, none⟩ = some vk := by
  refine ⟨?_, ?_, ?_, ?_, ?_⟩ <;> rw [cell_blk h.head] <;> rfl
theorem DiskIn.free (h : DiskIn w bd ps D F rs vk f) (j : Nat) : w.frozen? ⟨bd, j, none⟩ = false := free_blk h.head j
theorem DiskIn.rsAt (h : DiskIn w bd ps D F rs vk f) {n b : Nat} (hn : ps[n]? = some b) : ∃ g cap, rs = .slice (some ⟨g, 0, none⟩) ps.length cap ∧ w.cell? ⟨g, n, none⟩ = some (.pointer (some ⟨b, 0, none⟩)) ∧ ps.length ≤ maxLen := by
  obtain ⟨g, cap, h1, h2, h3, h4, h5, h6⟩ := ownsRow_at h.rsOwn (by have := getElem?_lt hn; omega)
  exact ⟨g, cap, h1, h5 n _ (by simp [hn, ptrV]), by omega⟩
theorem DiskIn.rsForm (h : DiskIn w bd ps D F rs vk f) : ∃ a cap, rs = .slice a ps.length cap := ownsRow_form h.rsOwn
end

set_option maxHeartbeats 400000 in
theorem at_in (w : World) (bd : Nat) (ps : List Nat) (D : DiskM) (F : List Nat) (n b : Nat) (h : DiskAt w bd ps D F) (hn : ps[n]? = some b) :
    Calls Tryd.prog 44 #[ptrV bd, .int .i64 n] w fun e w' => e = .returned (ptrV b) ∧ w = w' := by
  obtain ⟨rs, vk, f, h⟩ := h
  obtain ⟨g, cap, rfl, hc, hm⟩ := h.rsAt hn
  obtain ⟨h0, -, -, -, -⟩ := h.cell
  have hlt := getElem?_lt hn
  clear hn h
  unfold maxLen at hm
  unfold ptrV
  go_enter Tryd.func44, Tryd.ntmps44
  go_wp2
  go_ret
  exact ⟨rfl, rfl⟩

set_option maxHeartbeats 400000 in
theorem at_out (w : World) (bd : Nat) (ps : List Nat) (D : DiskM) (F : List Nat) (n : Int) (h : DiskAt w bd ps D F) (hn : n < 0 ∨ (ps.length : Int) ≤ n) :
    Calls Tryd.prog 44 #[ptrV bd, .int .i64 n] w fun e w' => e = .returned (.pointer none) ∧ w = w' := by
  obtain ⟨rs, vk, f, h⟩ := h
  obtain ⟨a, cap, rfl⟩ := h.rsForm
  obtain ⟨h0, -, -, -, -⟩ := h.cell
  clear h
  unfold ptrV
  by_cases hneg : n < 0
  · have b : decide (n < 0) = true := decide_eq_true hneg
    go_enter Tryd.func44, Tryd.ntmps44
    go_wp2
    go_ret
    exact ⟨rfl, rfl⟩
  · have b : decide (n < 0) = false := decide_eq_false hneg
    have hle : (ps.length : Int) ≤ n := by omega
    have b2 : decide ((ps.length : Int) ≤ n) = true := decide_eq_true hle
    go_enter Tryd.func44, Tryd.ntmps44
    go_wp2
    go_ret
    exact ⟨rfl, rfl⟩

theorem RegAt.cell {w : World} {b : Nat} {R : RegM} {G : List Nat} (h : RegAt w b R G) : ∃ al cl aq cq, w.cell? ⟨b, 0, none⟩ = some (.slice al R.lasts.length cl) ∧ w.cell? ⟨b, 1, none⟩ = some (.slice aq R.queue.length cq) ∧
    (∀ (j : Nat) t, R.lasts[j]? = some t → ∃ g, al = some ⟨g, 0, none⟩ ∧ w.cell? ⟨g, j, none⟩ = some (strV t) ∧ R.lasts.length ≤ maxLen ∧ R.lasts.length ≤ cl) ∧
    (∀ (j : Nat) x, R.queue[j]? = some x → ∃ g, aq = some ⟨g, 0, none⟩ ∧ w.cell? ⟨g, j * 2, none⟩ = some (.int .i64 x.1) ∧ w.cell? ⟨g, j * 2 + 1, none⟩ = some (strV x.2) ∧ R.queue.length ≤ maxLen ∧ R.queue.length ≤ cq) := by
  obtain ⟨vl, vq, hb, hl, hq, rfl⟩ := h.ex
  obtain ⟨al, cl, rfl⟩ := ownsRow_form hl
  obtain ⟨aq, cq, rfl⟩ := ownsRow_form hq
  refine ⟨al, cl, aq, cq, by rw [cell_blk hb]; rfl, by rw [cell_blk hb]; rfl, ?_, ?_⟩
  · intro j t hj
    obtain ⟨g, cap, h1, h2, h3, h4, h5, h6⟩ := ownsRow_at hl (by have := getElem?_lt hj; omega)
    injection h1 with h1 _ h1c
    exact ⟨g, h1, h5 j _ (by simp [hj]), by omega, by omega⟩
  · intro j x hj
    obtain ⟨g, cap, h1, h2, h3, h4, h5, h6⟩ := ownsRow_at hq (by have := getElem?_lt hj; omega)
    injection h1 with h1 _ h1c
    exact ⟨g, h1, h5 _ _ (qV_get _ j x hj).1, h5 _ _ (qV_get _ j x hj).2, by omega, by omega⟩

set_option maxHeartbeats 400000 in
theorem Sectors_in (w : World) (bd : Nat) (ps : List Nat) (D : DiskM) (F : List Nat) (n : Nat) (R : RegM) (h : DiskAt w bd ps D F) (hn : n < ps.length) (hR : D.regs[n]? = some R) :
    Calls Tryd.prog 23 #[ptrV bd, .int .i64 n] w fun e w' => e = .returned (.int .i64 R.lasts.length) ∧ w = w' := by
  have hat := at_in w bd ps D F n _ h (List.getElem?_eq_getElem hn)
  obtain ⟨rs, vk, f, h⟩ := h
  obtain ⟨al, cl, aq, cq, hc0, -, -, -⟩ := (h.reg n _ R (List.getElem?_eq_getElem hn) hR).cell
  generalize ps[n] = b at hat hc0
  have HA := Lib.hid hat
  clear hat h hR
  unfold ptrV at HA ⊢
  go_enter Tryd.func23, Tryd.ntmps23
  go_wp2_with (go_at_call 44; refine (HA.out).mono ?_; rintro e w' ⟨rfl, rfl⟩)
  go_ret
  exact ⟨rfl, rfl⟩
theorem Sectors_out (w : World) (bd : Nat) (ps : List Nat) (D : DiskM) (F : List Nat) (n : Int) (h : DiskAt w bd ps D F) (hn : n < 0 ∨ (ps.length : Int) ≤ n) :
    Calls Tryd.prog 23 #[ptrV bd, .int .i64 n] w fun e w' => e = .returned (.int .i64 0) ∧ w = w' := by
  have HA := Lib.hid (at_out w bd ps D F n h hn)
  clear h hn
  unfold ptrV at HA ⊢
  go_enter Tryd.func23, Tryd.ntmps23
  go_wp2_with (go_at_call 44; refine (HA.out).mono ?_; rintro e w' ⟨rfl, rfl⟩)
  go_ret
  exact ⟨rfl, rfl⟩
theorem Sectors_nil (w : World) (n : Int) :
    Calls Tryd.prog 23 #[.pointer none, .int .i64 n] w fun e w' => e = .returned (.int .i64 0) ∧ w = w' := by
  go_enter Tryd.func23, Tryd.ntmps23
  go_wp2
  go_ret
  exact ⟨rfl, rfl⟩
theorem Off_any (w : World) (bd : Nat) (ps : List Nat) (D : DiskM) (F : List Nat) (h : DiskAt w bd ps D F) :
    Calls Tryd.prog 21 #[ptrV bd] w fun e w' => e = .returned (.bool D.off) ∧ w = w' := by
  obtain ⟨rs, vk, f, h⟩ := h
  obtain ⟨-, h1, -, -, -⟩ := h.cell
  clear h
  unfold ptrV
  go_enter Tryd.func21, Tryd.ntmps21
  go_wp2
  go_ret
  exact ⟨rfl, rfl⟩

set_option maxHeartbeats 400000 in
theorem find_ok (w : World) (bd : Nat) (ps : List Nat) (D : DiskM) (F : List Nat) (n b sec : Nat) (R : RegM) (h : DiskAt w bd ps D F) (hoff : D.off = false) (hn : ps[n]? = some b) (hR : D.regs[n]? = some R) (hs : sec < R.lasts.length) :
    Calls Tryd.prog 58 #[ptrV bd, .int .i64 n, .int .i64 sec] w fun e w' => e = .returned (.tuple #[ptrV b, .int .i64 0]) ∧ w = w' := by
  have HA := Lib.hid (at_in w bd ps D F n b h hn)
  obtain ⟨rs, vk, f, h⟩ := h
  obtain ⟨-, h1, -, -, -⟩ := h.cell
  obtain ⟨al, cl, aq, cq, hc0, -, -, -⟩ := (h.reg n _ R hn hR).cell
  rw [hoff] at h1
  have b1 : decide ((sec : Int) < 0) = false := decide_eq_false (by omega)
  have b2 : decide ((R.lasts.length : Int) ≤ sec) = false := decide_eq_false (by omega)
  clear h hR hn hoff
  unfold ptrV at HA ⊢
  go_enter Tryd.func58, Tryd.ntmps58
  go_wp2_with (go_at_call 44; refine (HA.out).mono ?_; rintro e w' ⟨rfl, rfl⟩)
  all_goals (go_ret2; exact ⟨rfl, rfl⟩)
theorem find_off (w : World) (bd : Nat) (ps : List Nat) (D : DiskM) (F : List Nat) (n sec : Int) (h : DiskAt w bd ps D F) (hoff : D.off = true) :
    Calls Tryd.prog 58 #[ptrV bd, .int .i64 n, .int .i64 sec] w fun e w' => e = .returned (.tuple #[.pointer none, .int .i64 11]) ∧ w = w' := by
  have HA : Hid (∃ p, Calls Tryd.prog 44 #[ptrV bd, .int .i64 n] w fun e w' => e = .returned (.pointer p) ∧ w = w') := by
    by_cases hn : n < 0 ∨ (ps.length : Int) ≤ n
    · exact ⟨none, at_out w bd ps D F n h hn⟩
    · obtain ⟨m, rfl⟩ := Int.eq_ofNat_of_zero_le (show 0 ≤ n by omega)
      exact ⟨_, at_in w bd ps D F m _ h (List.getElem?_eq_getElem (by omega))⟩
  obtain ⟨p, hat⟩ := HA.out
  have HB := Lib.hid hat
  obtain ⟨rs, vk, f, h⟩ := h
  obtain ⟨-, h1, -, -, -⟩ := h.cell
  rw [hoff] at h1
  clear h hoff HA hat
  unfold ptrV at HB ⊢
  go_enter Tryd.func58, Tryd.ntmps58
  go_wp2_with (go_at_call 44; refine (HB.out).mono ?_; rintro e w' ⟨rfl, rfl⟩)
  go_ret2
  exact ⟨rfl, rfl⟩
theorem find_noreg (w : World) (bd : Nat) (ps : List Nat) (D : DiskM) (F : List Nat) (n sec : Int) (h : DiskAt w bd ps D F) (hoff : D.off = false) (hn : n < 0 ∨ (ps.length : Int) ≤ n) :
    Calls Tryd.prog 58 #[ptrV bd, .int .i64 n, .int .i64 sec] w fun e w' => e = .returned (.tuple #[.pointer none, .int .i64 10]) ∧ w = w' := by
  have HB := Lib.hid (at_out w bd ps D F n h hn)
  obtain ⟨rs, vk, f, h⟩ := h
  obtain ⟨-, h1, -, -, -⟩ := h.cell
  rw [hoff] at h1
  clear h hoff hn
  unfold ptrV at HB ⊢
  go_enter Tryd.func58, Tryd.ntmps58
  go_wp2_with (go_at_call 44; refine (HB.out).mono ?_; rintro e w' ⟨rfl, rfl⟩)
  go_ret2
  exact ⟨rfl, rfl⟩
end Go.Proofs.YtepnbfpclhincaaDoor

namespace Go.Proofs.YtepnbfpclhincaaDoor
open Go.RowKit

/-- What a sector reads as behind writes. -/
def readQ (q : List (Nat × List UInt8)) (s : Nat) (d : List UInt8) : List UInt8 := q.foldl (fun a x => if x.1 = s then x.2 else a) d
theorem readQ_snoc (q : List (Nat × List UInt8)) (x : Nat × List UInt8) (s : Nat) (d : List UInt8) : readQ (q ++ [x]) s d = if x.1 = s then x.2 else readQ q s d := by simp [readQ, List.foldl_append]
def RegM.read (R : RegM) (s : Nat) : List UInt8 := readQ R.queue s (R.lasts.getD s [])

set_option maxHeartbeats 1000000 in
theorem Read_ok (w : World) (bd : Nat) (ps : List Nat) (D : DiskM) (F : List Nat) (n sec : Nat) (R : RegM) (h : DiskAt w bd ps D F) (hoff : D.off = false) (hR : D.regs[n]? = some R) (hs : sec < R.lasts.length) (hq : R.queue.length ≤ 1099511627776) :
    Calls Tryd.prog 47 #[ptrV bd, .int .i64 n, .int .i64 sec] w fun e w' => e = .returned (.tuple #[strV (R.read sec), .int .i64 0]) ∧ w = w' := by
  have hnl : n < ps.length := by have h' := h; obtain ⟨_, _, _, h'⟩ := h'; rw [← h'.len]; exact getElem?_lt hR
  have HA := Lib.hid (find_ok w bd ps D F n _ sec R h hoff (List.getElem?_eq_getElem hnl) hR hs)
  obtain ⟨rs, vk, f, h⟩ := h
  obtain ⟨al, cl, aq, cq, hc0, hc1, hl, hqs⟩ := (h.reg n _ R (List.getElem?_eq_getElem hnl) hR).cell
  obtain ⟨gl, rfl, hlc, hlm, hlm2⟩ := hl sec _ (List.getElem?_eq_getElem hs)
  generalize ps[n] = b at HA hc0 hc1
  have HQ := Lib.hid hqs
  have HR : Hid (∀ r, readQ R.queue sec R.lasts[sec] = r → R.read sec = r) := fun r hr => by
    unfold RegM.read; rw [List.getD_eq_getElem?_getD, List.getElem?_eq_getElem hs]; exact hr
  generalize R.lasts[sec] = d at hlc HR
  generalize R.read sec = res at HR
  generalize R.lasts.length = nl at hs hc0 hlm hlm2
  generalize R.queue = q at hc1 HQ HR hq
  clear h hoff hR hl hqs hnl
  unfold ptrV at HA
  unfold strV at hlc
  unfold ptrV strV
  unfold maxLen at hlm
  go_enter Tryd.func47, Tryd.ntmps47
  go_wp2_with (go_at_call 58; refine (HA.out).mono ?_; rintro e w' ⟨rfl, rfl⟩)
  go_loop [10] (fun i => ∃ k : Int, -1 ≤ k ∧ k < q.length ∧ i = .int .i64 k ∧ readQ (q.take (k + 1).toNat) sec d = readQ q sec d) (fun i => (intOf i + 1).toNat)
  case atStart => exact ⟨_, by omega, by omega, rfl, by rw [show ((q.length : Int) - 1 + 1).toNat = q.length by omega, List.take_of_length_le (Nat.le_refl _)]⟩
  case round =>
    obtain ⟨k, hk1, hk2, rfl, hk3⟩ := hrel
    have HK := Lib.hid hk3; clear hk3
    by_cases h0 : 0 ≤ k
    · obtain ⟨m, rfl⟩ := Int.eq_ofNat_of_zero_le h0
      have hm : m < q.length := by omega
      obtain ⟨g, rfl, hq1, hq2, -, hq3⟩ := HQ.out m _ (List.getElem?_eq_getElem hm)
      have HS := Lib.hid (List.take_succ_eq_append_getElem hm)
      generalize hx : q[m] = x at hq1 hq2 HS
      obtain ⟨xs, xd⟩ := x
      clear hx
      unfold strV at hq2
      by_cases he : xs = sec
      · have be : ((xs : Int) == sec) = true := beq_iff_eq.2 (by omega)
        subst he
        go_wp2
        go_ret2
        refine ⟨ret2_of (congrArg (fun l : List UInt8 => Value.string ⟨l.toArray⟩) ?_) rfl, rfl⟩
        refine (HR.out _ ?_).symm
        have := HK.out
        rw [show ((m : Int) + 1).toNat = m + 1 by omega, HS.out, readQ_snoc, if_pos rfl] at this
        exact this.symm
      · have be : ((xs : Int) == sec) = false := beq_eq_false_iff_ne.2 (by omega)
        go_wp2
        refine ⟨⟨(m : Int) - 1, by omega, by omega, rfl, ?_⟩, ?_⟩
        · rw [show ((m : Int) - 1 + 1).toNat = m by omega, ← HK.out, show ((m : Int) + 1).toNat = m + 1 by omega, HS.out, readQ_snoc, if_neg he]
        · simp [intOf]
    · go_wp2
      go_ret2
      refine ⟨ret2_of (congrArg (fun l : List UInt8 => Value.string ⟨l.toArray⟩) ?_) rfl, rfl⟩
      refine (HR.out _ ?_).symm
      rw [← HK.out, show (k + 1).toNat = 0 by omega]; rfl
end Go.Proofs.YtepnbfpclhincaaDoor

namespace Go.Proofs.YtepnbfpclhincaaDoor
open Go.RowKit

theorem DiskIn.hd' {w w' : World} {bd : Nat} {ps : List Nat} {D : DiskM} {F : List Nat} {rs vk : Value} {f : Nat → List Nat} (h : DiskIn w bd ps D F rs vk f) {off : Bool} {treg tleft : Int} (hk : Keeps [bd] w w')
    (hh : w'.heap[bd]? = some (.cells #[rs, .bool off, .int .i64 treg, .int .i64 tleft, vk] 66 (0, 0))) :
    DiskAt w' bd ps { D with off := off, treg := treg, tleft := tleft } F :=
  ⟨rs, vk, f, hh, ownsRow_keeps hk h.rsOwn (fun k x => by simpa using h.rs_bd x), ownsRow_keeps hk h.vkOwn (fun k x => by simpa using h.vk_bd x), h.len, fun i b R hb hR => (h.reg i b R hb hR).keeps hk (fun k x => by simp; intro e; subst e; exact h.bd_not (getElem?_lt hb) x), h.apart,
   h.bdF, h.rsF, h.vkF, h.fF, fun k x => Nat.lt_of_lt_of_le (h.lt k x) hk.size⟩

theorem Keeps.one {w : World} (b j : Nat) (u : Value) : Keeps [b] w (w.setCell ⟨b, j, none⟩ u) := (Keeps.refl _ _).setCell _ _ (.inl (by simp))

theorem fails_no (w : World) (bd : Nat) (ps : List Nat) (D : DiskM) (F : List Nat) (n : Int) (h : DiskAt w bd ps D F) (hno : D.tleft = 0 ∨ D.treg ≠ n) :
    Calls Tryd.prog 59 #[ptrV bd, .int .i64 n] w fun e w' => e = .returned (.bool false) ∧ w = w' := by
  obtain ⟨rs, vk, f, h⟩ := h
  obtain ⟨-, -, h2, h3, -⟩ := h.cell
  clear h
  generalize D.treg = tr at h2 hno
  generalize D.tleft = tl at h3 hno
  unfold ptrV
  by_cases h0 : tl = 0
  · have b0 : (tl == 0) = true := beq_iff_eq.2 h0
    clear hno h0
    go_enter Tryd.func59, Tryd.ntmps59
    go_wp2
    go_ret
    exact ⟨rfl, rfl⟩
  · have b0 : (tl == 0) = false := beq_eq_false_iff_ne.2 h0
    have b1 : (tr != n) = true := bne_iff_ne.2 (hno.resolve_left h0)
    clear hno h0
    go_enter Tryd.func59, Tryd.ntmps59
    go_wp2
    go_ret
    exact ⟨rfl, rfl⟩

theorem fails_yes (w : World) (bd : Nat) (ps : List Nat) (D : DiskM) (F : List Nat) (n : Int) (h : DiskAt w bd ps D F) (h1 : 1 ≤ D.tleft) (hm : D.tleft ≤ 9223372036854775807) (hn : D.treg = n) :
    Calls Tryd.prog 59 #[ptrV bd, .int .i64 n] w fun e w' => e = .returned (.bool (D.tleft == 1)) ∧ DiskAt w' bd ps { D with tleft := D.tleft - 1 } F ∧ Keeps F w w' := by
  obtain ⟨rs, vk, f, h⟩ := h
  obtain ⟨-, -, h2, h3, -⟩ := h.cell
  have hf := h.free 3
  have HF : Hid (∀ w', Keeps [bd] w w' → w'.heap[bd]? = some (.cells #[rs, .bool D.off, .int .i64 D.treg, .int .i64 (D.tleft - 1), vk] 66 (0, 0)) → DiskAt w' bd ps { D with tleft := D.tleft - 1 } F ∧ Keeps F w w') := fun w' hk hh =>
    ⟨h.hd' hk hh, hk.mono (fun x hx _ => by simp at hx; subst hx; exact h.bdF)⟩
  have HH := Lib.hid (setCell_blk h.head 3 (.int .i64 (D.tleft - 1)))
  clear h
  subst hn
  have b0 : (D.tleft == 0) = false := beq_eq_false_iff_ne.2 (by omega)
  have b2 : (D.tleft - 1 == 0) = (D.tleft == 1) := by rw [Bool.eq_iff_iff, beq_iff_eq, beq_iff_eq]; omega
  unfold ptrV
  go_enter Tryd.func59, Tryd.ntmps59
  go_wp2
  go_ret
  exact ⟨rfl, HF.out _ (Keeps.one _ _ _) HH.out⟩

theorem On_any (w : World) (bd : Nat) (ps : List Nat) (D : DiskM) (F : List Nat) (h : DiskAt w bd ps D F) :
    Calls Tryd.prog 20 #[ptrV bd] w fun e w' => e = .returned (.tuple #[]) ∧ DiskAt w' bd ps { D with off := false, treg := 0, tleft := 0, keep := [] } F ∧ Keeps F w w' := by
  obtain ⟨rs, vk, f, h⟩ := h
  have hf1 := h.free 1
  have hf2 := h.free 2
  have hf3 := h.free 3
  have hf4 := h.free 4
  obtain ⟨h0, h1, h2, h3, h4⟩ := h.cell
  have H := Lib.hid h
  have HH := Lib.hid (setCell_blk (setCell_blk (setCell_blk (setCell_blk h.head 1 (.bool false)) 2 (.int .i64 0)) 3 (.int .i64 0)) 4 (.slice none 0 0))
  clear h
  unfold ptrV
  go_enter Tryd.func20, Tryd.ntmps20
  go_wp2
  go_end0
  have hk : Keeps [bd] w _ := (((Keeps.one bd 1 (.bool false)).trans (Keeps.one (w := w.setCell ⟨bd, 1, none⟩ (.bool false)) bd 2 (.int .i64 0))).trans (Keeps.one bd 3 (.int .i64 0))).trans (Keeps.one bd 4 (.slice none 0 0))
  have := H.out.hd (off := false) (treg := 0) (tleft := 0) (keep := []) hk HH.out (World.ownsRow_nil _ _ _ _) (by simp [own, Value.ownBlock])
  rw [own_nil, List.append_nil] at this
  exact ⟨rfl, ⟨_, _, _, this⟩, hk.mono (fun x hx _ => by simp at hx; subst hx; exact H.out.bdF)⟩
end Go.Proofs.YtepnbfpclhincaaDoor

namespace Go.Proofs.YtepnbfpclhincaaDoor
open Go.RowKit

theorem flush1_any (i : Int) (w : World) : Calls Tryd.prog 61 #[.int .i64 i] w fun e w' => e = .returned (.bool true) ∧ w = w' := by
  go_enter Tryd.func61, Tryd.ntmps61
  go_wp2
  go_ret
  exact ⟨rfl, rfl⟩

/-- Is the i-th write of region n kept? -/
def kbit (keep : List Nat) (n i : Nat) : Bool := match keep[n]? with
  | some m => m / 2 ^ (i % 64) % 2 == 1
  | none => false

theorem and_one (m d : Nat) (hm : m < 2 ^ 64) : (bits .and .u64 ((m : Int) / ((d : Nat) : Int)) 1 == 1) = (m / d % 2 == 1) := by
  have h : (m : Int) / ((d : Nat) : Int) = ((m / d : Nat) : Int) := by rw [Int.natCast_ediv]
  have hlt : m / d < 2 ^ 64 := Nat.lt_of_le_of_lt (Nat.div_le_self m d) hm
  rw [h, show (1 : Int) = ((1 : Nat) : Int) from rfl, bits_and_u64_nat _ _ hlt (by decide), Nat.and_one_is_mod]
  rw [Bool.eq_iff_iff, beq_iff_eq, beq_iff_eq]
  omega

set_option maxHeartbeats 400000 in
theorem lose1_any (i n bn bk : Nat) (v : Value) (keep : List Nat) (w : World) (hi : i ≤ 1099511627776) (h1 : w.cell? ⟨bn, 0, none⟩ = some (.int .i64 n)) (h2 : w.cell? ⟨bk, 0, none⟩ = some v) (hv : Sees w v (keep.map u64V)) (hk : ∀ m ∈ keep, m < 2 ^ 64) :
    Calls Tryd.prog 62 #[.int .i64 i, .pointer (some ⟨bn, 0, none⟩), .pointer (some ⟨bk, 0, none⟩)] w fun e w' => e = .returned (.bool (kbit keep n i)) ∧ w = w' := by
  obtain ⟨a, cap, rfl, hc1, hc2, hcell⟩ := hv
  rw [List.length_map] at *
  by_cases hlt : n < keep.length
  · obtain ⟨b, off, rfl, hb, hc⟩ := hcell.resolve_left (by intro h; rw [List.map_eq_nil_iff] at h; rw [h] at hlt; simp at hlt)
    have hx := hc n (u64V keep[n]) (by simp [List.getElem?_eq_getElem hlt])
    have HK : Hid (∀ m, keep[n] = m → kbit keep n i = (m / 2 ^ (i % 64) % 2 == 1)) := fun m hm => by
      unfold kbit; rw [List.getElem?_eq_getElem hlt, hm]
    have hm : keep[n] < 2 ^ 64 := hk _ (List.getElem_mem hlt)
    generalize keep[n] = m at hx HK hm
    have HB := Lib.hid (and_one m (2 ^ (i % 64)) hm)
    clear hm hk
    unfold u64V at hx
    have b1 : decide (n < keep.length) = true := decide_eq_true hlt
    unfold maxLen at hc2
    clear hcell hc
    go_enter Tryd.func62, Tryd.ntmps62
    go_wp2
    go_ret
    exact ⟨ret_of (by rw [HK.out m rfl]; exact congrArg Value.bool HB.out), rfl⟩
  · have b1 : decide (n < keep.length) = false := decide_eq_false hlt
    clear hcell
    have HK : Hid (kbit keep n i = false) := by show kbit keep n i = false; unfold kbit; rw [List.getElem?_eq_none (by omega)]
    go_enter Tryd.func62, Tryd.ntmps62
    go_wp2
    go_ret
    exact ⟨ret_of (by rw [HK.out]; rfl), rfl⟩
end Go.Proofs.YtepnbfpclhincaaDoor

namespace Go.Proofs.YtepnbfpclhincaaDoor
open Go.RowKit

/-- The sectors behind writes, of which some are kept. -/
def lastL (kp : Nat → Bool) : Nat → List (Nat × List UInt8) → List (List UInt8) → List (List UInt8)
  | _, [], l => l
  | i, x :: q, l => lastL kp (i + 1) q (if kp i then l.set x.1 x.2 else l)

theorem lastL_length (kp : Nat → Bool) (q : List (Nat × List UInt8)) : ∀ (i : Nat) (l : List (List UInt8)), (lastL kp i q l).length = l.length := by
  induction q with
  | nil => intro i l; rfl
  | cons x q ih => intro i l; rw [lastL, ih]; split <;> simp

def RegM.last (R : RegM) (kp : Nat → Bool) : RegM := { lasts := lastL kp 0 R.queue R.lasts, queue := [] }
def RegM.ok (R : RegM) : Prop := (∀ x, x ∈ R.queue → x.1 < R.lasts.length) ∧ R.queue.length ≤ 1099511627776

/-- A region in the middle of 'last'. -/
structure Mid (w : World) (b : Nat) (vl vq : Value) (q : List (Nat × List UInt8)) (l : List (List UInt8)) : Prop where
  head : w.heap[b]? = some (.cells #[vl, vq] 72 (0, 0))
  lOwn : Own w 9 1 vl l.length (l.map strV)
  qOwn : Own w 115 2 vq q.length (qV q)

theorem Mid.keeps {w w' : World} {b : Nat} {vl vq : Value} {q : List (Nat × List UInt8)} {l : List (List UInt8)} (h : Mid w b vl vq q l) (hk : Keeps [] w w') : Mid w' b vl vq q l :=
  ⟨hk.heap h.head (by simp), ownsRow_keeps hk h.lOwn (by simp), ownsRow_keeps hk h.qOwn (by simp)⟩
theorem Mid.b_not {w : World} {b : Nat} {vl vq : Value} {q : List (Nat × List UInt8)} {l : List (List UInt8)} (h : Mid w b vl vq q l) : b ∉ own vl := fun hk => by
  obtain ⟨c', hc'⟩ := own_type h.lOwn hk
  have := hc'.symm.trans h.head
  injection this with this; injection this with _ e _; cases e
theorem Mid.q_not {w : World} {b : Nat} {vl vq : Value} {q : List (Nat × List UInt8)} {l : List (List UInt8)} (h : Mid w b vl vq q l) {k : Nat} (hk : k ∈ own vq) : k ∉ own vl := fun hk' => by
  obtain ⟨c', hc'⟩ := own_type h.lOwn hk'
  obtain ⟨c, hc⟩ := own_type h.qOwn hk
  have := hc'.symm.trans hc
  injection this with this; injection this with _ e _; cases e

/-- A store to a sector. -/
theorem Mid.set {w : World} {b g cap n : Nat} {vq : Value} {q : List (Nat × List UInt8)} {l : List (List UInt8)} (h : Mid w b (.slice (some ⟨g, 0, none⟩) n cap) vq q l) (j : Nat) (hj : j < l.length) (d : List UInt8) :
    Mid (w.setCell ⟨g, j, none⟩ (strV d)) b (.slice (some ⟨g, 0, none⟩) n cap) vq q (l.set j d) := by
  have hk : Keeps [g] w (w.setCell ⟨g, j, none⟩ (strV d)) := Keeps.one g j (strV d)
  obtain ⟨a', cap', e⟩ := ownsRow_form h.lOwn
  injection e with e1 e2 e3
  subst e2
  refine ⟨hk.heap h.head (fun x => h.b_not (by simp at x; subst x; simp [own, Value.ownBlock])), ?_, ownsRow_keeps hk h.qOwn (fun k x y => h.q_not x (by simp at y; subst y; simp [own, Value.ownBlock]))⟩
  have := ownsRow_set h.lOwn j (strV d) (by simpa using hj)
  simp only [List.length_set, List.map_set]
  exact this

def LastPost (b : Nat) (R : RegM) (G : List Nat) (w : World) (kp : Nat → Bool) (e : Ending) (w' : World) : Prop :=
  e = .returned (.tuple #[]) ∧ ∃ G', RegAt w' b (R.last kp) G' ∧ Moves G w G' w'

theorem cell_ne (w : World) {b g : Nat} (i j : Nat) (u : Value) (h : b ≠ g) : (w.setCell ⟨g, j, none⟩ u).cell? ⟨b, i, none⟩ = w.cell? ⟨b, i, none⟩ := World.cell?_of_block (w := w) (setCell_blk_ne j u h)

set_option maxRecDepth 100000 in
set_option maxHeartbeats 1000000 in
theorem last_lose (w : World) (b : Nat) (R : RegM) (G : List Nat) (h : RegAt w b R G) (hok : R.ok) (n bn bk : Nat) (v : Value) (keep : List Nat)
    (h1 : w.cell? ⟨bn, 0, none⟩ = some (.int .i64 n)) (h2 : w.cell? ⟨bk, 0, none⟩ = some v) (hv : Sees w v (keep.map u64V)) (hkp : ∀ m ∈ keep, m < 2 ^ 64) (hd : bn ∉ G ∧ bk ∉ G ∧ ∀ k, k ∈ own v → k ∉ G) :
    Calls Tryd.prog 60 #[ptrV b, .func (.func 62) #[] #[.pointer (some ⟨bn, 0, none⟩), .pointer (some ⟨bk, 0, none⟩)]] w (LastPost b R G w (kbit keep n)) := by
  obtain ⟨vl, vq, hb, hl, hq, rfl⟩ := h.ex
  have hM : Mid w b vl vq R.queue R.lasts := ⟨hb, hl, hq⟩
  obtain ⟨hqlt, hql⟩ := hok
  have HP : Hid (∀ w' l, Mid w' b vl (.slice none 0 0) [] l → lastL (kbit keep n) 0 R.queue R.lasts = l → Keeps (b :: own vl) w w' → LastPost b R (b :: (own vl ++ own vq)) w (kbit keep n) (.returned (.tuple #[])) w') := by
    intro w' l hm hl hk
    refine ⟨rfl, b :: (own vl ++ []), ⟨vl, _, hm.head, by rw [RegM.last, hl]; exact hm.lOwn, World.ownsRow_nil _ _ _ _, rfl⟩, hk.mono (fun x hx _ => ?_), fun x hx => .inl ?_⟩
    · rcases List.mem_cons.1 hx with rfl | hx <;> simp [*]
    · rw [List.append_nil] at hx; rcases List.mem_cons.1 hx with rfl | hx <;> simp [*]
  have HV := Lib.hid hv
  have hd1 : bn ∉ own vl := fun x => hd.1 (by simp [x])
  have hd2 : bk ∉ own vl := fun x => hd.2.1 (by simp [x])
  have hd3 : Hid (∀ k, k ∈ own v → k ∉ own vl) := fun k x y => hd.2.2 k x (by simp [y])
  generalize R.queue = q at hM HP hqlt hql
  generalize R.lasts = l0 at hM HP hqlt
  have HL := Lib.hid hqlt
  have hc1 : w.cell? ⟨b, 1, none⟩ = some vq := by rw [cell_blk hM.head]; rfl
  obtain ⟨aq, cq, rfl⟩ := ownsRow_form hM.qOwn
  have HC1 := Lib.hid h1; have HC2 := Lib.hid h2
  clear hb hl hq h hd hv hqlt h1 h2
  unfold ptrV
  go_enter Tryd.func60, Tryd.ntmps60
  go_wp2_with fail
  go_loopw [11] (fun i wr => ∃ k : Nat, k ≤ q.length ∧ i = .int .i64 k ∧ ∃ l, l.length = l0.length ∧ Mid wr b vl (.slice aq q.length cq) q l ∧ Keeps (own vl) w wr ∧ lastL (kbit keep n) k (q.drop k) l = lastL (kbit keep n) 0 q l0) (fun i _ => q.length - (intOf i).toNat)
  case atStart => exact ⟨0, by omega, rfl, l0, rfl, hM, Keeps.refl _ _, rfl⟩
  case round =>
    obtain ⟨k, hk, rfl, l, hll, hm, hkp', hlast⟩ := hrel
    have HLA := Lib.hid hlast; clear hlast
    have HLL := Lib.hid hll; clear hll
    clear hc1
    by_cases hlt : k < q.length
    · obtain ⟨gq, cap, e, h1, h2, h3, h4, h5⟩ := ownsRow_at hm.qOwn (by omega)
      simp only [Value.slice.injEq] at e
      obtain ⟨rfl, -, rfl⟩ := e
      have hx := qV_get q k _ (List.getElem?_eq_getElem hlt)
      have hq0 := h4 _ _ hx.1
      have hq1 := h4 _ _ hx.2
      have hxl := HL.out _ (List.getElem_mem hlt)
      have HS := Lib.hid (List.drop_eq_getElem_cons hlt)
      generalize q[k] = x at hq0 hq1 HS hxl
      obtain ⟨xs, xd⟩ := x
      unfold strV at hq1
      have hcb0 : wr.cell? ⟨b, 0, none⟩ = some vl := by rw [cell_blk hm.head]; rfl
      have hll := HLL.out
      obtain ⟨gl, cl, rfl, hl1, hl2, hl3, hl4, hl5⟩ := ownsRow_at hm.lOwn (by dsimp only at hxl; omega)
      clear hx h4 h5 hl4 hll h1 h2 h3
      unfold maxLen at hl2
      dsimp only at hxl
      go_wp2_with fail
      refine calls_alloc1 ?_
      intro W hW hbox hWs
      have hkW := hkp'.trans0 hW
      refine (lose1_any k n bn bk v keep _ (by omega) (hkW.cell HC1.out hd1) (hkW.cell HC2.out hd2) (HV.out.keeps hkW hd3.out) hkp).mono ?_
      rintro e w2 ⟨rfl, rfl⟩
      have hmW := hm.keeps hW
      cases hbit : kbit keep n k with
      | false =>
        have HB := Lib.hid hbit; clear hbit
        go_wp2_with fail
        go_roundw
        case rel => exact ⟨k + 1, by omega, by go_num, l, HLL.out, hmW, hkW, by rw [← HLA.out, HS.out, lastL, HB.out]; rfl⟩
        case measure => simp [intOf]; omega
      | true =>
        have HB := Lib.hid hbit; clear hbit
        have c0 : W.cell? ⟨wr.heap.size, 0, none⟩ = some (.int .i64 xs) := by rw [cell_blk hbox]; rfl
        have c1 : W.cell? ⟨wr.heap.size, 1, none⟩ = some (.string ⟨xd.toArray⟩) := by rw [cell_blk hbox]; rfl
        have cb : W.cell? ⟨b, 0, none⟩ = some (.slice (some ⟨gl, 0, none⟩) l.length cl) := hW.cell hcb0 (by simp)
        have hll := HLL.out
        have hxl2 : xs < l.length := by omega
        obtain ⟨gl', cl', e, -, -, -, h4, h5⟩ := ownsRow_at hmW.lOwn (by omega)
        simp only [Value.slice.injEq, Option.some.injEq, Addr.mk.injEq] at e
        obtain ⟨⟨rfl, -, -⟩, -, -⟩ := e
        obtain ⟨u, cl4⟩ : ∃ u, W.cell? ⟨gl, xs, none⟩ = some u := ⟨_, h4 xs (strV l[xs]) (by simp [List.getElem?_eq_getElem hxl2])⟩
        have cf4 := h5 xs
        have hlt1 : (xs : Int) < l.length := by omega
        clear h4 h5 hll hq0 hq1 hcb0 hl5 hbox
        have hbg : b ≠ gl := fun x => hmW.b_not (by rw [x]; simp [own, Value.ownBlock])
        have hsg : wr.heap.size ≠ gl := by omega
        have HM := Lib.hid (hmW.set xs hxl2 xd)
        have hd1' := Lib.hid hd1; have hd2' := Lib.hid hd2
        have HKW := Lib.hid hkW
        have HHP := Lib.hid HP
        clear hmW hm hM hd1 hd2 hkW hkp' hW hkp HP HV hd3
        go_wp2_with fail
        go_region_held3 (fun w' => w'.cell? ⟨b, 0, none⟩ = some (.slice (some ⟨gl, 0, none⟩) l.length cl) ∧ w'.cell? ⟨wr.heap.size, 0, none⟩ = some (.int .i64 xs) ∧ w'.cell? ⟨wr.heap.size, 1, none⟩ = some (.string ⟨xd.toArray⟩)) ((first | exact ⟨cb, c0, c1⟩ | exact ⟨(cell_ne _ _ _ _ hbg).trans cb, (cell_ne _ _ _ _ hsg).trans c0, (cell_ne _ _ _ _ hsg).trans c1⟩)) (fail)
        go_wp2_with fail
        go_roundw
        case rel =>
          refine ⟨k + 1, by omega, by go_num, l.set xs xd, by rw [List.length_set]; exact HLL.out, ?_, (HKW.out.trans (Keeps.one gl xs (strV xd))).drew, ?_⟩
          · have := HM.out.keeps (w' := (W.setCell ⟨gl, xs, none⟩ (strV xd)).drew) ((Keeps.refl _ _).drew)
            exact this
          · rw [← HLA.out, HS.out, lastL, HB.out]; rfl
        case measure => simp [intOf]; omega
    · have hk2 : k = q.length := by omega
      have hcb1 : wr.cell? ⟨b, 1, none⟩ = some (.slice aq q.length cq) := by rw [cell_blk hm.head]; rfl
      have hfb1 : wr.frozen? ⟨b, 1, none⟩ = false := free_blk hm.head 1
      have HM : Hid (Mid (wr.setCell ⟨b, 1, none⟩ (.slice none 0 0)) b vl (.slice none 0 0) [] l) := by
        have hk1 : Keeps [b] wr (wr.setCell ⟨b, 1, none⟩ (.slice none 0 0)) := Keeps.one b 1 _
        exact ⟨setCell_blk hm.head 1 _, ownsRow_keeps hk1 hm.lOwn (fun k x y => by simp at y; subst y; exact hm.b_not x), World.ownsRow_nil _ _ _ _⟩
      have HKW : Hid (Keeps (b :: own vl) w (wr.setCell ⟨b, 1, none⟩ (.slice none 0 0))) := (hkp'.mono (fun x hx _ => by simp [hx])).setCell _ _ (.inl (by simp))
      have HE : Hid (lastL (kbit keep n) 0 q l0 = l) := by
        have := HLA.out; rw [hk2, List.drop_length] at this; exact this.symm
      clear hm hM hd1 hd2 hkp'
      go_wp2_with fail
      go_end0
      exact HP.out _ l HM.out HE.out HKW.out
end Go.Proofs.YtepnbfpclhincaaDoor
