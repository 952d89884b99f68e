/-
  GrantLists: the list of grants is sorted, whole, and comes back the same: the law returns true for every keys and index.
  From the walk of a law to its statement and to its card: for every law whose parameters can be read, and that leaves all that was there.
  GrantLists: whatever keys and index come in, the table's list is sorted, whole and comes back the same: the law returns true, and what came in reads as it did.
-/
import Derived.Test.YtepnbfpclhincaaMD
import Derived.Test.YtepnbfpclhincaaRows
import Derived.WalkKit
import Derived.ProofKit
import Derived.OpenShut
import Derived.Carry
import Derived.Lay
import Derived.LaidOnce
import Derived.SliceStrings
import Derived.Deep.SlicePairs
import Derived.Lib.SmallJoins
import Derived.ChangeMaps5
import Derived.LaidLaws
set_option linter.unusedVariables false
set_option linter.unusedSimpArgs false
namespace Go.Proofs.Ytepnbfpclhincaa
open Go.RowKit Go.Shelf Go.Lib Go.Sort

theorem bl_lt : ∀ a b : List UInt8, compareBytes a b < 0 → Op.bytesLess a b = true
  | [], [], h => by simp [compareBytes] at h
  | [], _ :: _, _ => rfl
  | _ :: _, [], h => by simp [compareBytes] at h
  | a :: x, b :: y, h => by
    unfold compareBytes at h
    unfold Op.bytesLess
    by_cases h1 : a < b
    · simp [h1]
    · by_cases h2 : b < a
      · simp [h1, h2] at h
      · simp only [h1, h2, if_false] at h
        have e : a = b := UInt8.le_antisymm (UInt8.not_lt.1 h2) (UInt8.not_lt.1 h1)
        simp [e, bl_lt x y h]

/-- A slice of keys, as it is read. -/
def SeesK (w : World) (v : Value) (ks : List GKey) : Prop :=
  ∃ a cap, v = .slice a ks.length cap ∧ ks.length ≤ cap ∧ cap ≤ maxLen ∧ (ks = [] ∨ ∃ b off, a = some ⟨b, off, none⟩ ∧ b < w.heap.size ∧ ∀ j x, ks[j]? = some x → w.cell? ⟨b, off + j * 2, none⟩ = some (.int .i64 x.1) ∧ w.cell? ⟨b, off + j * 2 + 1, none⟩ = some (.string ⟨x.2.toArray⟩))

theorem RowAt.sees {w : World} {v : Value} {l : List GKey} (h : RowAt w v l) : ∃ a cap, v = .slice a l.length cap ∧ (l = [] ∨ ∃ g, a = some ⟨g, 0, none⟩ ∧ ∀ w', Keeps [] w w' → ∀ j x, l[j]? = some x → w'.cell? ⟨g, j * 2, none⟩ = some (.int .i64 x.1) ∧ w'.cell? ⟨g, j * 2 + 1, none⟩ = some (.string ⟨x.2.toArray⟩)) := by
  rcases h with ⟨rfl, rfl⟩ | ⟨g, cap, rfl, hne, hg, hH⟩
  · exact ⟨none, 0, rfl, .inl rfl⟩
  · refine ⟨_, cap, rfl, .inr ⟨g, rfl, fun w' hk j x hj => ?_⟩⟩
    have hjl := (List.getElem?_eq_some_iff.1 hj).1
    have e : l.toArray[j]! = x := by simp [hj]
    have h0 := (hH.cell (i := j) (c := 0) (by simpa using hjl) (by omega)).1
    have h1 := (hH.cell (i := j) (c := 1) (by simpa using hjl) (by omega)).1
    rw [e] at h0 h1
    simp only [Nat.zero_add, Nat.add_zero] at h0 h1
    exact ⟨hk.cell h0 (by simp), hk.cell h1 (by simp)⟩

def tabL (ks : List GKey) : List GKey := ks.foldl addTo []
theorem tabL_snoc (ks : List GKey) (x : GKey) : tabL (ks ++ [x]) = addTo (tabL ks) x := by simp [tabL]

/-- The two tables: the program's own, and what is wanted. -/
structure Both (w w' : World) (p b m : Nat) (L : List GKey) : Prop where
  tab : TabAt w' p b L
  want : SetAt encK w' m L
  pm : p ≠ m
  bm : b ≠ m
  hp : w.heap.size ≤ p
  hb : w.heap.size ≤ b
  hm : w.heap.size ≤ m
  keeps : Keeps [] w w'
theorem Both.quiet {w w' w2 : World} {p b m : Nat} {L : List GKey} (h : Both w w' p b m L) (k : Keeps [] w' w2) : Both w w2 p b m L :=
  ⟨h.tab.keeps k (by simp) (by simp), h.want.keeps k (by simp), h.pm, h.bm, h.hp, h.hb, h.hm, h.keeps.trans k⟩

theorem Both.grow {w w' w4 : World} {p b m : Nat} {L : List GKey} {x : GKey} (h : Both w w' p b m L) (hc : addCode L x = 0) (hT : TabAt w4 p b (addTo L x)) (hk : Keeps [b] w' w4) : ∃ o, (Instr.mapUpdate 28 (.map (some m)) (encK x) (.bool true)).run Try.prog w4 = .ok () (w4.putObj m o) ∧ Both w (w4.putObj m o) p b m (addTo L x) := by
  have hW := h.want.keeps hk (by simpa using h.bm.symm)
  have hx : x ∉ L := by
    unfold addCode at hc
    intro hm
    split at hc
    · omega
    · split at hc
      · omega
      · first | omega | (rw [if_pos hm] at hc; omega)
  obtain ⟨o, hr, hS, hk2⟩ := hW.update keyK underMap x hx
  have e : addTo L x = L ++ [x] := by unfold addTo; rw [if_pos hc]
  refine ⟨o, hr, hT.keeps hk2 (by simpa using h.pm) (by simpa using h.bm), by rw [e]; exact hS, h.pm, h.bm, h.hp, h.hb, h.hm, ?_⟩
  have hb := h.hb; have hm := h.hm
  exact (h.keeps.trans' hk (fun y hy hlt => by simp at hy; omega)).trans' hk2 (fun y hy hlt => by simp at hy; omega)
theorem Both.same {w w' w4 : World} {p b m : Nat} {L : List GKey} {x : GKey} (h : Both w w' p b m L) (hc : ¬ addCode L x = 0) (hT : TabAt w4 p b (addTo L x)) (hk : Keeps [b] w' w4) : Both w w4 p b m (addTo L x) := by
  have e : addTo L x = L := by unfold addTo; rw [if_neg hc]
  have hb := h.hb
  rw [e] at hT ⊢
  exact ⟨hT, h.want.keeps hk (by simpa using h.bm.symm), h.pm, h.bm, h.hp, h.hb, h.hm, h.keeps.trans' hk (fun y hy hlt => by simp at hy; omega)⟩

/-- In the second half: the table, the key's box, and what may have turned. -/
def St (p b bx : Nat) (W2 : World) (c : Int) (s : ByteArray) (L' : List GKey) (w' : World) : Prop :=
  TabAt w' p b L' ∧ w'.heap[bx]? = some (.cells #[.int .i64 c, .string s] 32 (0, 0)) ∧ Keeps [b] W2 w'
theorem St.c0 {p b bx : Nat} {W2 : World} {c : Int} {s : ByteArray} {L' : List GKey} {w' : World} (h : St p b bx W2 c s L' w') : w'.cell? ⟨bx, 0, none⟩ = some (.int .i64 c) ∧ w'.cell? ⟨bx, 1, none⟩ = some (.string s) :=
  ⟨by rw [cell_blk h.2.1]; rfl, by rw [cell_blk h.2.1]; rfl⟩
theorem St.quiet {p b bx : Nat} {W2 : World} {c : Int} {s : ByteArray} {L' : List GKey} {w' w3 : World} (h : St p b bx W2 c s L' w') (k : Keeps [] w' w3) : St p b bx W2 c s L' w3 :=
  ⟨h.1.keeps k (by simp) (by simp), k.heap h.2.1 (by simp), h.2.2.trans k.nil⟩
theorem St.ne {p b bx : Nat} {W2 : World} {c : Int} {s : ByteArray} {L' : List GKey} {w' : World} (h : St p b bx W2 c s L' w') : bx ≠ b := fun e => by
  obtain ⟨es, clock, h1, -⟩ := h.1.set.ex
  have := h.2.1; rw [e, h1] at this; cases this
theorem St.step {p b bx : Nat} {W2 : World} {c : Int} {s : ByteArray} {L' L2 : List GKey} {w' w3 : World} (h : St p b bx W2 c s L' w') (hT : TabAt w3 p b L2) (k : Keeps [b] w' w3) : St p b bx W2 c s L2 w3 :=
  ⟨hT, k.heap h.2.1 (by simpa using h.ne), h.2.2.trans k⟩

set_option maxRecDepth 100000 in
set_option maxHeartbeats 8000000 in
theorem GrantLists_true (v : Value) (ks : List GKey) (i : Int) (hi : i ≤ 9223372036854775807) (w : World) (hv : SeesK w v ks) (hz : ∀ x ∈ ks, x.2.length ≤ maxLen) :
    Calls Try.prog 3 #[v, .int .i64 i] w fun e w' => e = .returned (.bool true) ∧ Keeps [] w w' := by
  obtain ⟨av, cap, rfl, hc1, hc2, hcell⟩ := hv
  have HC := Lib.hid hcell; clear hcell
  have HZ := Lib.hid hz; clear hz
  unfold maxLen at hc2
  obtain ⟨n, hn⟩ : ∃ n, n = min ks.length 40 := ⟨_, rfl⟩
  have hmin : min (ks.length : Int) 40 = (n : Int) := by omega
  have hn1 : n ≤ ks.length := by omega
  have hn2 : n ≤ cap := by omega
  have hn3 : (n : Int) ≤ cap := by omega
  have hn4 : n ≤ 40 := by omega
  obtain ⟨m0, hm0⟩ : ∃ m : Nat, max (0 : Int) i = m := ⟨(max 0 i).toNat, by omega⟩
  have hm0b : m0 ≤ 9223372036854775807 := by omega
  clear hn
  go_enter Try.func3, Try.ntmps3
  go_wp2_with fail
  refine (New_nil w).mono ?_
  rintro e w1 ⟨rfl, hT, hk⟩
  have HT := Lib.hid hT
  have HK := Lib.hid hk
  clear hT hk
  go_wp2_with fail
  refine (Wakes_any w1).mono ?_
  rintro e w2 ⟨rfl, hk⟩
  have hmk := run_makeMap (P := Try.prog) 28 w2
  have HB : Hid (Both w (w2.alloc (.map #[] 0)) (w.heap.size + 1) w.heap.size w2.heap.size []) := by
    have hl := HK.out.size
    have hl2 := hk.size
    have hp := lt_of_heap HT.out.head
    refine ⟨HT.out.keeps (hk.alloc _) (by simp) (by simp), ⟨#[], 0, heap_alloc_new _ _, rfl, by simp, by simp, by simp⟩, by omega, by omega, by omega, Nat.le_refl _, by omega, HK.out.trans (hk.alloc _)⟩
  clear hk
  go_wp2_with fail
  clear hmk
  generalize w2.alloc (.map #[] 0) = w3 at HB ⊢
  clear HT HK
  generalize w2.heap.size = m at HB ⊢
  obtain ⟨p, hp⟩ : ∃ p, p = w.heap.size + 1 := ⟨_, rfl⟩
  obtain ⟨b, hb⟩ : ∃ b, b = w.heap.size := ⟨_, rfl⟩
  rw [← hp, ← hb] at HB
  rw [← hp]
  clear hp hb hmin
  go_loopg [33] n (fun (k : Nat) (u : Value) (wr : World) => ∃ j, k = n - j ∧ j ≤ n ∧ u = .int .i64 (j : Int) ∧ Both w wr p b m (tabL (ks.take j)))
  case atStart => exact ⟨0, rfl, by omega, rfl, HB.out⟩
  case round =>
    clear HB
    obtain ⟨j, hkj, hjn, rfl, hB⟩ := hrel
    rcases Nat.lt_or_ge j n with hj | hj
    · have b1 : decide ((j : Int) < (n : Int)) = true := decide_eq_true (by omega)
      have b2 : (j : Int) < (n : Int) := by omega
      have hjl : j < ks.length := by omega
      have htk : ks.take (j + 1) = ks.take j ++ [ks[j]] := by rw [List.take_add_one, List.getElem?_eq_getElem hjl]; rfl
      obtain ⟨bk, off, rfl, hbk, hcell⟩ := HC.out.resolve_left (by intro h; rw [h] at hjl; simp at hjl)
      obtain ⟨c0, c1⟩ := hcell j _ (List.getElem?_eq_getElem hjl)
      have hzx := HZ.out _ (List.getElem_mem hjl)
      generalize ks[j] = x at htk c0 c1 hzx
      have HTK : Hid (tabL (ks.take (j + 1)) = addTo (tabL (ks.take j)) x) := by show _ = _; rw [htk, tabL_snoc]
      obtain ⟨s, hs⟩ : ∃ s, s = ByteArray.mk x.2.toArray := ⟨_, rfl⟩
      have hek : encK x = .agg #[.int .i64 x.1, .string s] := by rw [hs]; rfl
      rw [← hs] at c1
      clear hs htk hcell
      generalize x.1 = c at c0 hek
      have d0 := hB.keeps.cell c0 (by simp)
      have d1 := hB.keeps.cell c1 (by simp)
      generalize tabL (ks.take j) = L at hB HTK
      have hB2 := hB.quiet ((Keeps.refl [] wr).alloc (.cells #[.int .i64 c, .string s] 30))
      have hA := Add_any _ p b L x hB2.tab hzx
      rw [hek] at hA
      have hbx := heap_alloc_new wr (.cells #[.int .i64 c, .string s] 30)
      have hqb : wr.heap.size ≠ b := by have := hB.tab.set.ex; obtain ⟨es, clock, h1, -⟩ := this; have := lt_of_heap h1; omega
      have HJ : Hid (gk = n - j ∧ j < n) := ⟨hkj, hj⟩
      by_cases hcode : addCode L x = 0
      · have HU : Hid (∀ w4, TabAt w4 p b (addTo L x) → Keeps [b] (wr.alloc (.cells #[.int .i64 c, .string s] 30)) w4 → w4.cell? ⟨wr.heap.size, 0, none⟩ = some (.int .i64 c) ∧ w4.cell? ⟨wr.heap.size, 1, none⟩ = some (.string s) ∧
            ∃ o, (Instr.mapUpdate 28 (.map (some m)) (.agg #[.int .i64 c, .string s]) (.bool true)).run Try.prog w4 = .ok () (w4.putObj m o) ∧ Both w (w4.putObj m o) p b m (tabL (ks.take (j + 1)))) := by
          intro w4 hT4 hk4
          have hb4 := hk4.heap hbx (by simpa using hqb)
          obtain ⟨o, hr, hB4⟩ := hB2.grow hcode hT4 hk4
          rw [hek] at hr
          exact ⟨by rw [cell_blk hb4]; rfl, by rw [cell_blk hb4]; rfl, o, hr, by rw [HTK.out]; exact hB4⟩
        rw [hcode] at hA
        have HA := Lib.hid hA
        clear hA hB hB2 hbx hqb hkj hjn hj hjl c0 c1 hzx hek hcode HTK
        go_wp2_with (go_at_call 6; refine HA.out.mono ?_; rintro e w4 ⟨rfl, r1, r2⟩; obtain ⟨f0, f1, o, hr, hB4⟩ := HU.out w4 r1 r2; clear r1 r2)
        go_roundg (n - (j + 1))
        case measure => have := HJ.out; omega
        case rel => exact ⟨j + 1, rfl, by have := HJ.out.2; omega, rfl, hB4⟩
      · have HU : Hid (∀ w4, TabAt w4 p b (addTo L x) → Keeps [b] (wr.alloc (.cells #[.int .i64 c, .string s] 30)) w4 → Both w w4 p b m (tabL (ks.take (j + 1)))) := by
          intro w4 hT4 hk4
          rw [HTK.out]; exact hB2.same hcode hT4 hk4
        generalize addCode L x = code at hA hcode
        have HA := Lib.hid hA
        clear hA hB hB2 hbx hqb hkj hjn hj hjl c0 c1 hzx hek HTK
        go_wp2_with (go_at_call 6; refine HA.out.mono ?_; rintro e w4 ⟨rfl, r1, r2⟩; have HB4 := Lib.hid (HU.out w4 r1 r2); clear r1 r2)
        go_roundg (n - (j + 1))
        case measure => have := HJ.out; omega
        case rel => exact ⟨j + 1, rfl, by have := HJ.out.2; omega, rfl, HB4.out⟩
    · have b1 : decide ((j : Int) < (n : Int)) = false := decide_eq_false (by omega)
      have b2 : ¬ (j : Int) < (n : Int) := by omega
      generalize tabL (ks.take j) = L at hB
      have HB := Lib.hid hB
      have HLs := Lib.hid (List_any wr p b L hB.tab)
      clear hB hkj hjn hj hn1 hn2 hn3 hn4 hc1 hc2 HZ HC
      go_wp2_with fail
      refine HLs.out.mono ?_
      rintro e w4 ⟨vl, l, rfl, hP, hS, hR, hk⟩
      obtain ⟨al, capl, rfl, hrow⟩ := hR.sees
      have HRW := Lib.hid hrow
      have HP := Lib.hid hP
      have HS := Lib.hid hS
      have HB4 := Lib.hid (HB.out.quiet hk)
      clear hrow hP hS hR hk HLs HB b1 b2
      have hll : l.length ≤ 16 := by rw [HP.out.length_eq]; exact HB4.out.tab.len
      go_wp2_with fail
      have hl63 : (l.length : Int) ≤ 16 := by omega
      go_loopg [48] l.length (fun (k : Nat) (u : Value) (wx : World) => ∃ j, k = l.length - j ∧ j ≤ l.length ∧ u = .int .i64 (j : Int) ∧ Keeps [] w4 wx)
      case atStart => exact ⟨0, rfl, by omega, rfl, Keeps.refl _ _⟩
      case round =>
        obtain ⟨q, hkq, hql, rfl, hk⟩ := hrel
        rcases Nat.lt_or_ge q l.length with hq | hq
        · have b1 : decide ((q : Int) < (l.length : Int)) = true := decide_eq_true (by omega)
          have b2 : (q : Int) < (l.length : Int) := by omega
          obtain ⟨g, rfl, hrow⟩ := HRW.out.resolve_left (by intro h; rw [h] at hq; simp at hq)
          obtain ⟨c0, c1⟩ := hrow _ hk q _ (List.getElem?_eq_getElem hq)
          have hmem : memB l[q] L = true := memB_true.2 (HP.out.subset (List.getElem_mem hq))
          rcases Nat.eq_zero_or_pos q with h0 | h0
          · subst h0
            generalize l[0] = x at c0 c1 hmem
            obtain ⟨s, hs⟩ : ∃ s, s = ByteArray.mk x.2.toArray := ⟨_, rfl⟩
            have hek : encK x = .agg #[.int .i64 x.1, .string s] := by rw [hs]; rfl
            rw [← hs] at c1
            clear hs hrow
            have hlk : ∀ n w', (∃ o, w' = wr.alloc o) → (Instr.lookup 28 (.map (some m)) (.agg #[.int .i64 x.1, .string s]) false).run Try.prog (w'.drewN n) = .ok (.bool true) (w'.drewN n) := by
              rintro n w' ⟨o, rfl⟩
              have := ((HB4.out.quiet (hk.alloc o)).want.drewN n).lookup keyK underMap (zeroB _) x
              rwa [hmem, hek] at this
            have hlk2 := fun n => hlk n _ ⟨.cells #[.int .i64 x.1, .string s] 32, rfl⟩
            have hbx := heap_alloc_new wr (.cells #[.int .i64 x.1, .string s] 32)
            have HK5 : Hid (Keeps [] w4 (wr.alloc (.cells #[.int .i64 x.1, .string s] 32))) := hk.alloc _
            generalize x.1 = c at c0 hek hlk2 hbx HK5
            have d0 : (wr.alloc (.cells #[.int .i64 c, .string s] 32)).cell? ⟨wr.heap.size, 0, none⟩ = some (.int .i64 c) := by rw [cell_blk hbx]; rfl
            have d1 : (wr.alloc (.cells #[.int .i64 c, .string s] 32)).cell? ⟨wr.heap.size, 1, none⟩ = some (.string s) := by rw [cell_blk hbx]; rfl
            clear hlk hbx hk hmem hek
            go_wp2_with fail
            go_quiet (fail)
            go_wp2_with fail
            have HK6 := Lib.hid (HK5.out.trans (Keeps.drewN _ nq))
            go_roundg (l.length - 1)
            case measure => omega
            case rel => exact ⟨1, rfl, by omega, rfl, HK6.out⟩
          · obtain ⟨q', rfl⟩ : ∃ q', q = q' + 1 := ⟨q - 1, by omega⟩
            have hq' : q' < l.length := by omega
            have hlt := List.pairwise_iff_getElem.1 HS.out q' (q' + 1) hq' hq (by omega)
            obtain ⟨a0, a1⟩ := hrow _ hk q' _ (List.getElem?_eq_getElem hq')
            generalize l[q' + 1] = x at c0 c1 hmem hlt
            generalize l[q'] = y at a0 a1 hlt
            obtain ⟨s, hs⟩ : ∃ s, s = ByteArray.mk x.2.toArray := ⟨_, rfl⟩
            obtain ⟨t, ht⟩ : ∃ t, t = ByteArray.mk y.2.toArray := ⟨_, rfl⟩
            have hek : encK x = .agg #[.int .i64 x.1, .string s] := by rw [hs]; rfl
            rw [cmpK_lt] at hlt
            rw [← hs] at c1
            rw [← ht] at a1
            have hlt2 : y.1 < x.1 ∨ (y.1 = x.1 ∧ compareBytes t.data.toList s.data.toList < 0) := by rw [hs, ht]; simpa using hlt
            clear hs ht hrow hlt
            have hlk : ∀ n w', (∃ o, w' = wr.alloc o) → (Instr.lookup 28 (.map (some m)) (.agg #[.int .i64 x.1, .string s]) false).run Try.prog (w'.drewN n) = .ok (.bool true) (w'.drewN n) := by
              rintro n w' ⟨o, rfl⟩
              have := ((HB4.out.quiet (hk.alloc o)).want.drewN n).lookup keyK underMap (zeroB _) x
              rwa [hmem, hek] at this
            have hlk2 := fun n => hlk n _ ⟨.cells #[.int .i64 x.1, .string s] 32, rfl⟩
            have hbx := heap_alloc_new wr (.cells #[.int .i64 x.1, .string s] 32)
            have HK5 : Hid (Keeps [] w4 (wr.alloc (.cells #[.int .i64 x.1, .string s] 32))) := hk.alloc _
            have hka : Keeps [] wr (wr.alloc (.cells #[.int .i64 x.1, .string s] 32)) := (Keeps.refl [] wr).alloc _
            have a2 := hka.cell a0 (by simp)
            have a3 := hka.cell a1 (by simp)
            generalize x.1 = c at c0 hek hlk2 hbx HK5 hlt2 a2 a3
            generalize y.1 = e at a0 a2 hlt2
            have d0 : (wr.alloc (.cells #[.int .i64 c, .string s] 32)).cell? ⟨wr.heap.size, 0, none⟩ = some (.int .i64 c) := by rw [cell_blk hbx]; rfl
            have d1 : (wr.alloc (.cells #[.int .i64 c, .string s] 32)).cell? ⟨wr.heap.size, 1, none⟩ = some (.string s) := by rw [cell_blk hbx]; rfl
            have HJ : Hid (gk = l.length - (q' + 1) ∧ q' + 1 < l.length) := ⟨hkq, hq⟩
            have hq3 : (q' : Int) < (l.length : Int) := by omega
            have b3 : decide ((q' : Int) < (l.length : Int)) = true := decide_eq_true hq3
            have hq4 : (q' : Int) + 1 ≤ 16 := by omega
            have hw : IntKind.i64.wrap (q' : Int) = q' := by simp [IntKind.wrap, IntKind.bits, IntKind.signed]; omega
            clear hlk hbx hk hmem hek hkq hql hka HRW
            rcases hlt2 with h1 | ⟨rfl, h1⟩
            · have b4 : ¬ c < e := by omega
              have b5 : ¬ e = c := by omega
              go_wp2_with fail
              go_quiet (fail)
              go_wp2_with fail
              have HK6 := Lib.hid (HK5.out.trans (Keeps.drewN _ nq))
              go_roundg (l.length - (q' + 1 + 1))
              case measure => have := HJ.out; omega
              case rel => exact ⟨q' + 1 + 1, rfl, by have := HJ.out.2; omega, rfl, HK6.out⟩
            · have hbl : Op.bytesLess t.toList s.toList = true := by rw [ByteArray.toList_eq, ByteArray.toList_eq]; exact bl_lt _ _ h1
              clear h1
              go_wp2_with fail
              go_quiet (fail)
              go_wp2_with fail
              have HK6 := Lib.hid (HK5.out.trans (Keeps.drewN _ nq))
              go_roundg (l.length - (q' + 1 + 1))
              case measure => have := HJ.out; omega
              case rel => exact ⟨q' + 1 + 1, rfl, by have := HJ.out.2; omega, rfl, HK6.out⟩
        · have b1 : decide ((q : Int) < (l.length : Int)) = false := decide_eq_false (by omega)
          have b2 : ¬ (q : Int) < (l.length : Int) := by omega
          have HB5 := Lib.hid (HB4.out.quiet hk)
          have HRW5 : Hid (l = [] ∨ ∃ g, al = some ⟨g, 0, none⟩ ∧ ∀ w', Keeps [] wr w' → ∀ j x, l[j]? = some x → w'.cell? ⟨g, j * 2, none⟩ = some (.int .i64 x.1) ∧ w'.cell? ⟨g, j * 2 + 1, none⟩ = some (.string ⟨x.2.toArray⟩)) := by
            rcases HRW.out with h | ⟨g, h, hh⟩
            · exact .inl h
            · exact .inr ⟨g, h, fun w' hk' => hh w' (hk.trans hk')⟩
          have hlL := HP.out.length_eq
          have hln := fun ty => HB5.out.want.len underMap ty
          rw [← hlL] at hln
          clear HRW hk hkq hql hq HB4 hlL
          by_cases hl0 : l.length = 0
          · rw [hl0] at hln ⊢
            have HK := HB5
            go_wp2_with fail
            go_ret
            exact ⟨rfl, HK.out.keeps⟩
          · have b3 : decide ((l.length : Int) = 0) = false := decide_eq_false (by omega)
            have b4 : ¬ (l.length : Int) = 0 := by omega
            have hl1 : 0 < l.length := by omega
            obtain ⟨g, rfl, hrow⟩ := HRW5.out.resolve_left (by intro h; rw [h] at hl1; simp at hl1)
            obtain ⟨r, hr⟩ : ∃ r, r = m0 % l.length := ⟨_, rfl⟩
            have hrl : r < l.length := by rw [hr]; exact Nat.mod_lt _ hl1
            have hr1 : (m0 : Int) % (l.length : Int) = (r : Int) := by rw [hr]; rfl
            have hr2 : Int.tmod (m0 : Int) (l.length : Int) = (r : Int) := by rw [hr]; rfl
            have b5 : (r : Int) < (l.length : Int) := by omega
            have b6 : decide ((r : Int) < (l.length : Int)) = true := decide_eq_true b5
            obtain ⟨c0, c1⟩ := hrow wr (Keeps.refl _ _) r _ (List.getElem?_eq_getElem hrl)
            have hmem := HP.out.subset (List.getElem_mem hrl)
            generalize l[r] = x at c0 c1 hmem
            obtain ⟨s, hs⟩ : ∃ s, s = ByteArray.mk x.2.toArray := ⟨_, rfl⟩
            have hek : encK x = .agg #[.int .i64 x.1, .string s] := by rw [hs]; rfl
            rw [← hs] at c1
            have hgood := HB5.out.tab.good x hmem
            have hxl : x.2.length ≤ maxLen := by
              have := hgood.2.2
              unfold namedL at this
              simp at this
              have hml : maxLen = 9223372036854775807 := by decide
              omega
            have hbx := heap_alloc_new wr (.cells #[.int .i64 x.1, .string s] 32)
            have hB2 := HB5.out.quiet ((Keeps.refl [] wr).alloc (.cells #[.int .i64 x.1, .string s] 32))
            have hS2 : St p b wr.heap.size wr x.1 s L (wr.alloc (.cells #[.int .i64 x.1, .string s] 32)) := ⟨hB2.tab, hbx, (Keeps.refl [b] wr).alloc _⟩
            have hper := eraseA_perm hmem
            have hout := eraseA_out hB2.tab.nodup x
            obtain ⟨k1, hk1⟩ : ∃ k1, l.length = k1 + 1 := ⟨l.length - 1, by omega⟩
            have hlE : (eraseA L x).length = k1 := by have h1 := hper.length_eq; have h2 := HP.out.length_eq; simp at h1; omega
            have hdc : dropCode L x = 0 := by unfold dropCode; rw [if_pos hmem]
            have hac : addCode (eraseA L x) x = 0 := by
              unfold addCode
              have h1 := hgood.1; have h2 := hgood.2.1; have h3 := hgood.2.2
              rw [if_neg (by omega), if_neg (by rw [h3]; decide), if_neg hout, if_neg (by rw [hlE]; omega)]
            have hat : addTo (eraseA L x) x = eraseA L x ++ [x] := by unfold addTo; rw [if_pos hac]
            have HD : Hid (Calls Try.prog 8 #[.pointer (some ⟨p, 0, none⟩), .agg #[.int .i64 x.1, .string s]] (wr.alloc (.cells #[.int .i64 x.1, .string s] 32)) fun e w' => e = .returned (.int .i64 0) ∧ St p b wr.heap.size wr x.1 s (eraseA L x) w') := by
              have := Drop_any _ p b L x hB2.tab
              rw [hek, hdc] at this
              exact this.mono fun e w' ⟨he, h1, h2⟩ => ⟨he, hS2.step h1 h2⟩
            have HH : Hid (∀ w', St p b wr.heap.size wr x.1 s (eraseA L x) w' → Calls Try.prog 9 #[.pointer (some ⟨p, 0, none⟩), .agg #[.int .i64 x.1, .string s]] w' fun e w2 => e = .returned (.bool false) ∧ St p b wr.heap.size wr x.1 s (eraseA L x) w2) := by
              intro w' h
              have := Has_any w' p b (eraseA L x) x h.1
              rw [hek, memB_false.2 hout] at this
              exact this.mono fun e w2 ⟨he, h1⟩ => ⟨he, h.quiet h1⟩
            have HL : Hid (∀ w', St p b wr.heap.size wr x.1 s (eraseA L x) w' → Calls Try.prog 7 #[.pointer (some ⟨p, 0, none⟩)] w' fun e w2 => ∃ a cap, e = .returned (.slice a k1 cap) ∧ St p b wr.heap.size wr x.1 s (eraseA L x) w2) := by
              intro w' h
              refine (List_any w' p b (eraseA L x) h.1).mono ?_
              rintro e w2 ⟨v, l2, rfl, hP2, -, hR2, hk2⟩
              obtain ⟨a, cp, rfl, -⟩ := hR2.sees
              exact ⟨a, cp, by rw [hP2.length_eq, hlE], h.quiet hk2⟩
            have HA : Hid (∀ w', St p b wr.heap.size wr x.1 s (eraseA L x) w' → Calls Try.prog 6 #[.pointer (some ⟨p, 0, none⟩), .agg #[.int .i64 x.1, .string s]] w' fun e w2 => e = .returned (.int .i64 0) ∧ St p b wr.heap.size wr x.1 s (eraseA L x ++ [x]) w2) := by
              intro w' h
              have := Add_any w' p b (eraseA L x) x h.1 hxl
              rw [hek, hac, hat] at this
              exact this.mono fun e w2 ⟨he, h1, h2⟩ => ⟨he, h.step h1 h2⟩
            have HE : Hid ((eraseA L x ++ [x]).Perm l) := by
              refine List.Perm.trans ?_ HP.out.symm
              exact hper.symm
            obtain ⟨e0, e1⟩ := hS2.c0
            have hw1 : IntKind.i64.wrap ((l.length : Int) - 1) = k1 := by rw [hk1]; simp [IntKind.wrap, IntKind.bits, IntKind.signed]; omega
            have hw2 : wrap64 ((l.length : Int) - 1) = k1 := by rw [hk1]; simp [wrap64]; omega
            have HK1 := Lib.hid hk1
            have HOW := Lib.hid hrow
            have HBW : Hid (b < wr.heap.size) := by obtain ⟨es, clock, h1, -⟩ := HB5.out.tab.set.ex; exact lt_of_heap h1
            clear hs hr HRW5 hbx hB2 hS2 hper hout hlE hdc hac hat hgood hxl hek hmem hrow hk1
            generalize x.1 = c at *
            go_wp2_with (first
              | (go_at_call 8; refine HD.out.mono ?_; rintro e w6 ⟨rfl, S6⟩; obtain ⟨f0, f1⟩ := S6.c0)
              | (go_at_call 9; refine (HH.out _ (by assumption)).mono ?_; rintro e w7 ⟨rfl, S7⟩; obtain ⟨f2, f3⟩ := S7.c0)
              | (go_at_call 7; refine (HL.out _ (by assumption)).mono ?_; rintro e w8 ⟨a8, cp8, rfl, S8⟩; obtain ⟨f4, f5⟩ := S8.c0)
              | (go_at_call 6; refine (HA.out _ (by assumption)).mono ?_; rintro e w9 ⟨rfl, S9⟩))
            have HSt := Lib.hid S9
            have HLs := Lib.hid (List_any w9 p b _ S9.1)
            have HROW : Hid (∀ w', Keeps [] w9 w' → ∀ j y, l[j]? = some y → w'.cell? ⟨g, j * 2, none⟩ = some (.int .i64 y.1) ∧ w'.cell? ⟨g, j * 2 + 1, none⟩ = some (.string ⟨y.2.toArray⟩)) := by
              intro w' hk' j y hj
              obtain ⟨h0, h1⟩ := HOW.out wr (Keeps.refl _ _) j y hj
              have hgb : g ≠ b := fun e => by
                obtain ⟨es, clock, hb1, -⟩ := HB5.out.tab.set.ex
                rw [e] at h0
                simp [World.cell?, hb1] at h0
              have hk2 : Keeps [b] wr w' := HSt.out.2.2.trans hk'.nil
              exact ⟨hk2.cell h0 (by simpa using hgb), hk2.cell h1 (by simpa using hgb)⟩
            have HKW : Hid (Keeps [] w w9) := by
              have := HB5.out.hb
              exact HB5.out.keeps.trans' HSt.out.2.2 (fun y hy hlt => by simp at hy; omega)
            clear S6 S7 S8 S9 f0 f1 f2 f3 f4 f5 c0 c1 e0 e1 hr1 hr2 b5 b6 hrl hw1 hw2 hln b1 b3 b4 HD HH HL HA HOW HB5 HSt HBW HK1
            refine HLs.out.mono ?_
            rintro e w10 ⟨v10, l2, rfl, hP2, hS2, hR2, hk10⟩
            obtain rfl : l2 = l := sorted_unique l2 l hS2 HS.out (hP2.trans HE.out)
            obtain ⟨al2, cap2, rfl, hrow2⟩ := hR2.sees
            obtain ⟨g2, rfl, hrow3⟩ := hrow2.resolve_left (by intro h; rw [h] at hl1; simp at hl1)
            have HR2 := Lib.hid hrow3
            have HK10 := Lib.hid hk10
            clear HLs hP2 hS2 hR2 hrow2 hrow3 hk10
            go_wp2_with fail
            go_loopg [145] l2.length (fun (k : Nat) (u : Value) (wx : World) => ∃ j, k = l2.length - j ∧ j ≤ l2.length ∧ u = .int .i64 (j : Int) ∧ Keeps [] w10 wx)
            case atStart => exact ⟨0, rfl, by omega, rfl, Keeps.refl _ _⟩
            case round =>
              obtain ⟨q, hkq, hql, rfl, hk⟩ := hrel
              rcases Nat.lt_or_ge q l2.length with hq | hq
              · have b1 : decide ((q : Int) < (l2.length : Int)) = true := decide_eq_true (by omega)
                have b2 : (q : Int) < (l2.length : Int) := by omega
                obtain ⟨c0, c1⟩ := HR2.out _ hk q _ (List.getElem?_eq_getElem hq)
                obtain ⟨a0, a1⟩ := HROW.out _ (HK10.out.trans hk) q _ (List.getElem?_eq_getElem hq)
                generalize l2[q] = y at c0 c1 a0 a1
                obtain ⟨s', hs'⟩ : ∃ s, s = ByteArray.mk y.2.toArray := ⟨_, rfl⟩
                have hek : encK y = .agg #[.int .i64 y.1, .string s'] := by rw [hs']; rfl
                have heq := fun W => equalK y y W
                rw [hek, decide_eq_true rfl] at heq
                rw [← hs'] at c1 a1
                clear hs' hek
                generalize y.1 = c' at c0 a0 heq
                have hbx := heap_alloc_new wr (.cells #[.int .i64 c', .string s'] 32)
                have hka : Keeps [] wr (wr.alloc (.cells #[.int .i64 c', .string s'] 32)) := (Keeps.refl [] wr).alloc _
                have HK5 := Lib.hid (hk.trans hka)
                have a2 := hka.cell a0 (by simp)
                have a3 := hka.cell a1 (by simp)
                have d0 : (wr.alloc (.cells #[.int .i64 c', .string s'] 32)).cell? ⟨wr.heap.size, 0, none⟩ = some (.int .i64 c') := by rw [cell_blk hbx]; rfl
                have d1 : (wr.alloc (.cells #[.int .i64 c', .string s'] 32)).cell? ⟨wr.heap.size, 1, none⟩ = some (.string s') := by rw [cell_blk hbx]; rfl
                have HJ : Hid (gk = l2.length - q ∧ q < l2.length) := ⟨hkq, hq⟩
                clear hbx hka hk hkq hql
                go_wp2_with fail
                go_quiet (fail)
                go_wp2_with fail
                go_roundg (l2.length - (q + 1))
                case measure => have := HJ.out; omega
                case rel => exact ⟨q + 1, rfl, by have := HJ.out.2; omega, rfl, HK5.out.trans (Keeps.drewN _ _)⟩
              · have b1 : decide ((q : Int) < (l2.length : Int)) = false := decide_eq_false (by omega)
                have b2 : ¬ (q : Int) < (l2.length : Int) := by omega
                have HKF := Lib.hid (HKW.out.trans (HK10.out.trans hk))
                go_wp2_with fail
                go_ret
                exact ⟨rfl, HKF.out⟩
end Go.Proofs.Ytepnbfpclhincaa

namespace Go.Proofs.Ytepnbfpclhincaa
open Go.ChangeShapes Go.WideShapes Go.RowKit

theorem noKnob : ownKnob Try.prog.godebug = none := by kernel_rfl
theorem allLaidOut : laidOutB Try.prog = true := by kernel_rfl

/-- What can be read and is inside the table of types. -/
noncomputable def readT (ts : List TypeId) : Bool := ts.all fun t => Try.prog.readableRec t && decide (t < Try.prog.types.size)

theorem trodAll_below {H : Type} {enc : TypeId × Value → H} {W W' : World} (hb : Below W.heap.size W W') : ∀ {ts : List TypeId} {vs : List Value} {ds : List (DataW H)} {ps : List MemPlace}, (∀ t ∈ ts, Try.prog.readableRec t = true ∧ t < Try.prog.types.size) →
    DataW.TrodAll enc Try.prog W 0 (fun _ => true) true ts vs ds ps → (∀ x ∈ ps, x.block < W.heap.size) → DataW.TrodAll enc Try.prog W' 0 (fun b => decide (b < W.heap.size)) true ts vs ds ps
  | [], [], [], _, _, h, _ => h
  | _ :: _, _ :: _, _ :: _, _, hT, ⟨p, q, h1, h2, e⟩, hs => ⟨p, q, Below.trod allLaidOut (hT _ (List.mem_cons_self ..)).1 (hT _ (List.mem_cons_self ..)).2 h1 hb (fun x hx => hs x (by rw [e]; exact List.mem_append_left _ hx)),
      trodAll_below hb (fun t ht => hT t (List.mem_cons_of_mem _ ht)) h2 (fun x hx => hs x (by rw [e]; exact List.mem_append_right _ hx)), e⟩
  | [], _ :: _, _, _, _, h, _ => by simp [DataW.TrodAll] at h
  | [], [], _ :: _, _, _, h, _ => by simp [DataW.TrodAll] at h
  | _ :: _, [], _, _, _, h, _ => by simp [DataW.TrodAll] at h
  | _ :: _, _ :: _, [], _, _, h, _ => by simp [DataW.TrodAll] at h

/-- What the walk of a law shows. -/
def LawWalk (f : FuncId) (fn : Func) : Prop := ∀ (H : Type) (enc : TypeId × Value → H) (W : World) (base : Nat) (args : Array Value) (ds : List (DataW H)) (p : List MemPlace),
  (∀ (j : Nat) t v, fn.params[j]? = some t → args[j]? = some v → Value.okWide Try.prog W .any base t v) → DataW.TrodAll enc Try.prog W 0 (fun _ => true) true fn.params.toList args.toList ds p → (∀ x ∈ p, x.block < W.heap.size) →
  Calls Try.prog f args W fun e W' => e = .returned (.bool true) ∧ Below W.heap.size W W'

set_option maxRecDepth 100000 in
theorem law_lifted {f : FuncId} {fn : Func} (hfn : Try.prog.funcs[f]? = some fn) (hni : Try.prog.inits.idxOf? f = none) (hr : fn.resultTypes = #[4]) (hT : readT fn.params.toList = true)
    {s : ChangeSpec} (hv : s.vars = []) (hs : ∀ (H : Type) (ds : List (DataW H)), ds.length = fn.params.size → s.fn H ds = { results := [.lit (.bool true)], args := ds })
    (os : Os) (started : os.Started) (H : Type) (enc : TypeId × Value → H)
    (hwit : ∃ (w : World) (tape : Tape) (i : Input), w.os = os ∧ (w.forCall tape i).Shaped Try.prog ∧ i.vars = [] ∧ Input.okWide Try.prog (w.forCall tape i) .any w.heap.size f i ∧
      s.pre6 enc Try.prog fn [] false (w.forCall tape i).memory i.args ∧ ({} : Assume).holds Try.prog (lone (Frame.enter Try.prog f i.args .normal) [] (w.forCall tape i)))
    (walk : LawWalk f fn) :
    ReturnsInHanded {} Try.checked os f .any (s.pre6 enc Try.prog fn [] false) (s.post enc Try.prog fn false true false false) := by
  refine returnsInHanded_of_change (C := Try.checked) noKnob started hni hfn hwit ?_
  intro W base args ds gs before hval hW _ _
  have hW' := hW
  obtain ⟨p, q, hA, hV, rfl, _, _⟩ := hW
  rw [hv] at hV
  obtain ⟨rfl, rfl⟩ := trodVars_none hV
  have hlt : ∀ x ∈ p, x.block < W.heap.size := fun x hx => hW'.lt x (List.mem_append_left _ hx)
  refine (walk H enc W base args ds p hval hA hlt).mono fun e W' ⟨he, hb⟩ => ?_
  subst he
  have hl : ds.length = fn.params.size := by
    have h1 : ∀ {ts : List TypeId} {vs : List Value} {ds : List (DataW H)} {ps : List MemPlace}, DataW.TrodAll enc Try.prog W 0 (fun _ => true) true ts vs ds ps → ds.length = ts.length := by
      intro ts
      induction ts with
      | nil => intro vs ds ps h; cases vs <;> cases ds <;> simp_all [DataW.TrodAll]
      | cons t ts ih =>
        intro vs ds ps h
        cases vs with
        | nil => simp [DataW.TrodAll] at h
        | cons v vs =>
          cases ds with
          | nil => simp [DataW.TrodAll] at h
          | cons d ds => obtain ⟨p, q, _, h2, _⟩ := h; simp [ih h2]
    simpa using h1 hA
  have hTT : ∀ t ∈ fn.params.toList, Try.prog.readableRec t = true ∧ t < Try.prog.types.size := fun t ht => by
    have := List.all_eq_true.1 hT t ht
    simpa using this
  refine ⟨_, rfl, ds, [], p ++ [], [], p, [], hW', ?_, ?_, ?_, hb.frame _, fun h => by cases h⟩
  · rw [List.append_nil, hs H ds hl, hr]
    exact trodAll_mk1 (shut_bool Try.underlying4 true)
  · rw [List.append_nil, hs H ds hl]
    exact trodAll_below hb hTT hA hlt
  · rw [List.append_nil, hs H ds hl, hv]
    rfl
end Go.Proofs.Ytepnbfpclhincaa

namespace Go.Proofs.Ytepnbfpclhincaa
open Go.ChangeShapes Go.WideShapes Go.ChangeMaps Go.RowKit Go.Deep Go.Joins

theorem cellsKey : Try.prog.cellsOf 30 = 2 := by kernel_rfl
theorem cellsInt : Try.prog.cellsOf 3 = 1 := by kernel_rfl
theorem cellsStr : Try.prog.cellsOf 9 = 1 := by kernel_rfl
theorem int_wf {n : Int} (h : (Lit.int .i64 n).wf = true) : n ≤ 9223372036854775807 := by
  simp [Lit.wf, IntKind.min, IntKind.max, IntKind.signed, IntKind.bits] at h; omega
def intOf : Value → Int
  | .int _ n => n
  | _ => 0
def strOf : Value → List UInt8
  | .string s => s.data.toList
  | _ => []
set_option maxRecDepth 100000 in
theorem sees_keys {H : Type} {enc : TypeId × Value → H} {W : World} {base : Nat} {v : Value} {d : DataW H} {p : List MemPlace} (hval : Value.okWide Try.prog W .any base 22 v)
    (h : DataW.Trod enc Try.prog W 0 (fun _ => true) true 22 v d p) : ∃ ks : List GKey, SeesK W v ks ∧ ∀ x ∈ ks, x.2.length ≤ maxLen := by
  obtain ⟨a0, len0, cap0, rfl⟩ := okWide_slice Try.underlying22 hval
  obtain ⟨fuel, hf⟩ := h
  rcases open_slice_pairs Try.underlying22 Try.underlying30 cellsKey rfl rfl cellsInt cellsStr hf with ⟨hcs, hx⟩ | ⟨a, len, cap, m, n, V0, V1, D0, D1, P0, P1, hcs, _, hl, hm, hmm, hx, hi⟩
  · simp [Value.cells] at hcs
    obtain ⟨rfl, rfl, rfl⟩ := hcs
    exact ⟨[], ⟨_, _, rfl, Nat.le_refl _, by simp [maxLen], .inl rfl⟩, by simp⟩
  · simp [Value.cells] at hcs
    obtain ⟨rfl, rfl, rfl⟩ := hcs
    simp only [if_true] at hmm
    have hr : ∀ i, i < m → ∃ N : Int, ∃ s : ByteArray, V0 i = .int .i64 N ∧ V1 i = .string s ∧ s.size ≤ maxLen := fun i h => by
      obtain ⟨_, _, h0, h1⟩ := hi i h
      obtain ⟨N, e0, _, w0⟩ := DataW.trod_int Try.underlying3 h0
      obtain ⟨s, e1, _, w1⟩ := DataW.trod_string Try.underlying9 h1
      simp only [List.cons.injEq, and_true] at e0 e1
      exact ⟨N, s, e0, e1, w1⟩
    refine ⟨(List.range len0).map fun i => (intOf (V0 i), strOf (V1 i)), ⟨some a, cap0, by simp, by simpa using hl, hm, ?_⟩, ?_⟩
    · by_cases h0 : len0 = 0
      · subst h0; exact .inl rfl
      · obtain ⟨hc0, _, _, _⟩ := hi 0 (by omega)
        rw [Nat.zero_mul] at hc0
        have e0 : a.add 0 = a := by simp [Addr.add]
        rw [e0] at hc0
        have hsp := World.cell?_spot hc0
        have ha : a = ⟨a.block, a.off, none⟩ := by cases a; simp_all
        have hadd : ∀ j, a.add j = ⟨a.block, a.off + j, none⟩ := fun j => by
          unfold Addr.add; split
          · subst_vars; exact ha
          · rfl
        refine .inr ⟨a.block, a.off, congrArg some ha, World.block_lt_of_cell? W a hc0, fun j x hj => ?_⟩
        rw [List.getElem?_map, Option.map_eq_some_iff] at hj
        obtain ⟨j', hj', rfl⟩ := hj
        have hlt : j < len0 := by have := (List.getElem?_eq_some_iff.1 hj').1; simpa using this
        rw [List.getElem?_range hlt] at hj'
        injection hj' with hj'; subst hj'
        obtain ⟨c0, c1, _, _⟩ := hi j (by omega)
        obtain ⟨N, s, e0, e1, _⟩ := hr j (by omega)
        rw [hadd] at c0 c1
        rw [e0] at c0; rw [e1] at c1
        refine ⟨by rw [c0, e0]; rfl, ?_⟩
        rw [e1]
        show W.cell? ⟨a.block, a.off + j * 2 + 1, none⟩ = some (.string ⟨s.data.toList.toArray⟩)
        rw [show a.off + j * 2 + 1 = a.off + (j * 2 + 1) by omega, c1]
    · intro x hx
      obtain ⟨i, hi', rfl⟩ := List.mem_map.1 hx
      obtain ⟨N, s, e0, e1, h1⟩ := hr i (by have := List.mem_range.1 hi'; omega)
      rw [e0, e1]
      exact h1

set_option maxRecDepth 100000 in
theorem grantLists_walk : LawWalk 3 Try.f3 := by
  intro H enc W base args ds p hval hA hlt
  rw [Try.params3] at hA hval
  obtain ⟨v0, v1, d0, d1, p0, p1, rfl, rfl, rfl, h0, h1⟩ := trodAll_two hA
  obtain ⟨ks, hk, hz⟩ := sees_keys (hval 0 22 v0 rfl rfl) h0
  obtain ⟨n, rfl, rfl, rfl, hn⟩ := open_int Try.underlying3 (hval 1 3 v1 rfl rfl) h1
  exact (GrantLists_true v0 ks n (int_wf hn) W hk hz).mono fun e W' ⟨he, hk⟩ => ⟨he, hk.below⟩

set_option maxRecDepth 100000 in
theorem grantLists_lifted (os : Os) (started : os.Started) (H : Type) (enc : TypeId × Value → H) :
    ReturnsInHanded {} Try.checked os 3 .any (Rows.grantListsSpec.pre6 enc Try.prog Try.f3 [] false)
      (Rows.grantListsSpec.post enc Try.prog Try.f3 false true false false) :=
  law_lifted (f := 3) (fn := Try.f3) Try.func3 (by kernel_rfl) (by kernel_rfl) (by kernel_rfl) (s := Rows.grantListsSpec) rfl (fun H ds hl => by
    have hl' : ds.length = 2 := hl
    match ds, hl' with
    | [d0, d1], _ => rfl)
    os started H enc
    (by
      obtain ⟨w, tape, i, h1, h2, h3, h4, ⟨⟨h5, _⟩, h6⟩, h7⟩ := (ChangeSpec.witness_shaped (enc := enc) (C := Try.checked) (os := os) (f := 3) (fn := Try.f3) (s := Rows.grantListsSpec) (conds := []) (apart := false) (X := fun _ _ => True) false (World.laidAll Try.prog os []) #[.slice none 0 0, .int .i64 0] 8 (World.laidAll_os _ _ _)
        (World.shaped_of_ZipB (by kernel_rfl) (by kernel_rfl)) (by kernel_rfl) (by kernel_rfl) (by kernel_rfl) trivial)
      exact ⟨w, tape, i, h1, h2, h3, h4, ⟨h5, h6⟩, h7⟩)
    grantLists_walk

theorem grantLists_holds : Rows.GrantListsSaid :=
  OpenClaim.holds_of_wide 3 Try.f3 rfl rfl rfl rfl rfl rfl rfl ⟨rfl, rfl, rfl, rfl, rfl⟩ rfl rfl rfl rfl rfl (by kernel_rfl) Try.func3 (by kernel_rfl)
    (of_decide_eq_true (by kernel_rfl)) (by unfold Func.isWrapper; first | (rw [if_pos (by decide +kernel)]; kernel_rfl) | (rw [if_neg (by decide +kernel)]; exact ⟨rfl, rfl⟩))
    (fun os started H enc _ => grantLists_lifted os started H enc)
end Go.Proofs.Ytepnbfpclhincaa
