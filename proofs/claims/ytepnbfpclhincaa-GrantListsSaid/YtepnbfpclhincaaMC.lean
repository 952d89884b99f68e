/-
  cmp.Or of two numbers.
  The order of the list of grants.
  The order of grants, plain; SortFunc of grants.
  SortedFunc and Table.List.
  slices.Sorted of numbers.
-/
import Derived.Test.YtepnbfpclhincaaMB
import Derived.Deep.LoopGhost
import Derived.Sort.Grow
import Derived.Shelf.SlicesG.Cmp
import Derived.Shelf.SlSortCmp.WholeK
import Derived.Test.YtepnbfpclhincaaShelf
import Derived.Shelf.SlSortCmp.NoneTotal
import Derived.Shelf.Sort.Plain
set_option linter.unusedVariables false
set_option linter.unusedSimpArgs false
namespace Go.Proofs.Ytepnbfpclhincaa
open Go.RowKit

set_option maxRecDepth 100000 in
set_option maxHeartbeats 2000000 in
theorem Or_any (w : World) (g : Nat) (a b : Int) (h : w.heap[g]? = some (.cells #[.int .i64 a, .int .i64 b] 3 (0, 0))) :
    Calls Try.prog 15 #[.slice (some ⟨g, 0, none⟩) 2 2] w fun e w' => e = .returned (.int .i64 (if a = 0 then b else a)) ∧ w' = w := by
  have h0 : w.cell? ⟨g, 0, none⟩ = some (.int .i64 a) := by rw [cell_blk h]; rfl
  have h1 : w.cell? ⟨g, 1, none⟩ = some (.int .i64 b) := by rw [cell_blk h]; rfl
  clear h
  go_enter Try.func15, Try.ntmps15
  go_wp2_with fail
  go_loopg [8] 2 (fun (k : Nat) (u : Value) (wr : World) => wr = w ∧ ((k = 2 ∧ u = .int .i64 0) ∨ (k = 1 ∧ u = .int .i64 1 ∧ a = 0) ∨ (k = 0 ∧ u = .int .i64 2 ∧ a = 0 ∧ b = 0)))
  case atStart => exact ⟨rfl, .inl ⟨rfl, rfl⟩⟩
  case round =>
    obtain ⟨rfl, hu⟩ := hrel
    rcases hu with ⟨rfl, rfl⟩ | ⟨rfl, rfl, ha⟩ | ⟨rfl, rfl, ha, hb⟩
    · by_cases ha : a = 0
      · go_wp2_with fail
        go_roundg 1
        case rel => exact ⟨rfl, .inr (.inl ⟨rfl, rfl, ha⟩)⟩
        case measure => omega
      · go_wp2_with fail
        go_ret
        exact ⟨rfl, rfl⟩
    · by_cases hb : b = 0
      · go_wp2_with fail
        go_roundg 0
        case rel => exact ⟨rfl, .inr (.inr ⟨rfl, rfl, ha, hb⟩)⟩
        case measure => omega
      · go_wp2_with fail
        go_ret
        exact ⟨rfl, rfl⟩
    · go_wp2_with fail
      go_ret
      first | exact ⟨rfl, rfl⟩ | exact ⟨by simp [ha, hb], rfl⟩

/-- Behind draws and new blocks. -/
def Gr (w w' : World) : Prop := ∃ q os, w' = Go.Sort.grow (w.drewN q) os
theorem Gr.refl (w : World) : Gr w w := ⟨0, #[], by simp [Go.Sort.grow]; rfl⟩
theorem Gr.drewN {w w' : World} (h : Gr w w') (n : Nat) : Gr w (w'.drewN n) := by
  obtain ⟨q, os, rfl⟩ := h
  exact ⟨q + n, os, by simp [Go.Sort.grow, World.drewN, Nat.add_assoc]⟩
theorem Gr.drew {w w' : World} (h : Gr w w') : Gr w w'.drew := h.drewN 1
theorem Gr.alloc {w w' : World} (h : Gr w w') (o : Obj) : Gr w (w'.alloc o) := by
  obtain ⟨q, os, rfl⟩ := h
  exact ⟨q, os ++ #[o], by rw [Go.Sort.alloc_eq_grow, Go.Sort.grow_grow]⟩
theorem Gr.keeps {w w' : World} (h : Gr w w') : Keeps [] w w' := by
  obtain ⟨q, os, rfl⟩ := h
  exact ⟨rfl, rfl, rfl, by simp, fun k hk _ => Go.Sort.heap_grow_old (w.drewN q) os hk⟩
end Go.Proofs.Ytepnbfpclhincaa

namespace Go.Proofs.Ytepnbfpclhincaa
open Go.Shelf Go.RowKit Go.Lib Go.Sort

def cmpK (x y : GKey) : Int := if Lib.compareInt x.1 y.1 = 0 then Lib.compareBytes x.2 y.2 else Lib.compareInt x.1 y.1

set_option maxRecDepth 100000 in
set_option maxHeartbeats 4000000 in
theorem Order_any (x y : GKey) (W : World) : Calls Try.prog 14 #[encK x, encK y] W fun e w' => e = .returned (.int .i64 (cmpK x y)) ∧ Gr W w' := by
  have hc1 := fun W' => AnyG.cmp_Compare_int Try.cmpInt x.1 y.1 W'
  have hc2 := fun W' => Try.strings_Compare ⟨x.2.toArray⟩ ⟨y.2.toArray⟩ W'
  change ∀ W', Calls Try.prog 16 _ _ _ at hc1
  have HR : Hid (cmpK x y = if Lib.compareInt x.1 y.1 = 0 then Lib.compareBytes x.2 y.2 else Lib.compareInt x.1 y.1) := rfl
  generalize cmpK x y = R at HR ⊢
  simp only [List.toList_toArray] at hc2
  generalize Lib.compareInt x.1 y.1 = r1 at hc1 HR
  generalize Lib.compareBytes x.2 y.2 = r2 at hc2 HR
  have hOr := fun W' g h => Or_any W' g r1 r2 h
  rw [← HR.out] at hOr
  unfold encK
  generalize ByteArray.mk x.2.toArray = sx at hc2 ⊢
  generalize ByteArray.mk y.2.toArray = sy at hc2 ⊢
  generalize x.1 = cx at hc1 ⊢
  generalize y.1 = cy at hc1 ⊢
  go_enter Try.func14, Try.ntmps14
  go_wp2_with fail
  obtain ⟨W2, hW2⟩ : ∃ W2, (W.alloc (.cells #[.int .i64 cx, .string sx] 32)).alloc (.cells #[.int .i64 cy, .string sy] 32) = W2 := ⟨_, rfl⟩
  have hG : Gr W W2 := by rw [← hW2]; exact ((Gr.refl W).alloc _).alloc _
  have hb1 : W2.heap[W.heap.size]? = some (.cells #[.int .i64 cx, .string sx] 32 (0, 0)) := by rw [← hW2]; exact (heap_alloc_lt _ _ _ (by simp)).trans (heap_alloc_new _ _)
  have hb2 : W2.heap[W.heap.size + 1]? = some (.cells #[.int .i64 cy, .string sy] 32 (0, 0)) := by rw [← hW2, ← size_alloc W (.cells #[.int .i64 cx, .string sx] 32)]; exact heap_alloc_new _ _
  rw [hW2]
  clear hW2
  have c1 : W2.cell? ⟨W.heap.size, 0, none⟩ = some (.int .i64 cx) := by rw [cell_blk hb1]; rfl
  have c2 : W2.cell? ⟨W.heap.size, 1, none⟩ = some (.string sx) := by rw [cell_blk hb1]; rfl
  have c3 : W2.cell? ⟨W.heap.size + 1, 0, none⟩ = some (.int .i64 cy) := by rw [cell_blk hb2]; rfl
  have c4 : W2.cell? ⟨W.heap.size + 1, 1, none⟩ = some (.string sy) := by rw [cell_blk hb2]; rfl
  have HS : Hid (∀ w', Gr W2 w' → w'.cell? ⟨W.heap.size, 0, none⟩ = some (.int .i64 cx) ∧ w'.cell? ⟨W.heap.size, 1, none⟩ = some (.string sx) ∧ w'.cell? ⟨W.heap.size + 1, 0, none⟩ = some (.int .i64 cy) ∧ w'.cell? ⟨W.heap.size + 1, 1, none⟩ = some (.string sy) ∧ Gr W2 w') :=
    fun w' h => ⟨h.keeps.cell c1 (by simp), h.keeps.cell c2 (by simp), h.keeps.cell c3 (by simp), h.keeps.cell c4 (by simp), h⟩
  have HG := Lib.hid hG
  clear hb1 hb2 c1 c2 c3 c4 hG
  generalize W.heap.size = p1 at HS ⊢
  obtain ⟨c1, c2, c3, c4, hg⟩ := HS.out _ (Gr.refl _)
  have HTr : Hid (∀ w', Gr W2 w' → Gr W w') := fun w' h => by
    obtain ⟨q, os, e⟩ := HG.out
    obtain ⟨q', os', e'⟩ := h
    refine ⟨q + q', os ++ os', ?_⟩
    rw [e', e]
    simp [Go.Sort.grow, World.drewN, Nat.add_assoc, Array.append_assoc]
  go_region_held3 (fun w' => w'.cell? ⟨p1, 0, none⟩ = some (.int .i64 cx) ∧ w'.cell? ⟨p1, 1, none⟩ = some (.string sx) ∧ w'.cell? ⟨p1 + 1, 0, none⟩ = some (.int .i64 cy) ∧ w'.cell? ⟨p1 + 1, 1, none⟩ = some (.string sy) ∧ Gr W2 w') ((first | assumption | exact HS.out _ (Gr.drew (by assumption)) | exact HS.out _ (Gr.alloc (by assumption) _) | exact HS.out _ (Gr.drew (Gr.alloc (by assumption) _)))) ((first
    | (go_at_call 16; refine (hc1 _).mono ?_; rintro e w' ⟨rfl, rfl⟩)
    | (go_at_call 17; refine (hc2 _).mono ?_; rintro e w' ⟨rfl, rfl⟩)
    | (go_at_call 15; refine (hOr (World.drew _) _ (heap_alloc_new _ _)).mono ?_; rintro e w' ⟨rfl, rfl⟩)))
  all_goals
    go_wp2_with fail
    go_ret
    refine ⟨rfl, HTr.out _ ?_⟩
    obtain ⟨-, -, -, -, hfin⟩ := ‹_ ∧ _ ∧ _ ∧ _ ∧ Gr W2 _›
    exact hfin
end Go.Proofs.Ytepnbfpclhincaa

namespace Go.Proofs.Ytepnbfpclhincaa
open Go.Shelf Go.RowKit Go.Lib Go.Sort

theorem cb_self : ∀ a : List UInt8, compareBytes a a = 0
  | [] => rfl
  | a :: u => by simp [compareBytes, cb_self u]
theorem cb_eq : ∀ a b : List UInt8, compareBytes a b = 0 → a = b
  | [], [], _ => rfl
  | [], _ :: _, h => by simp [compareBytes] at h
  | _ :: _, [], h => by simp [compareBytes] at h
  | a :: u, b :: bs, h => by
    unfold compareBytes at h
    by_cases h1 : a < b
    · simp [h1] at h
    · by_cases h2 : b < a
      · simp [h1, h2] at h
      · simp only [h1, h2, if_false] at h
        rw [cb_eq u bs h, UInt8.le_antisymm (UInt8.not_lt.1 h2) (UInt8.not_lt.1 h1)]
theorem cb_neg : ∀ a b : List UInt8, compareBytes b a = - compareBytes a b
  | [], [] => rfl
  | [], _ :: _ => rfl
  | _ :: _, [] => rfl
  | a :: u, b :: bs => by
    unfold compareBytes
    by_cases h1 : a < b
    · have h2 : ¬ b < a := UInt8.lt_asymm h1
      simp [h1, h2]
    · by_cases h2 : b < a
      · simp [h1, h2]
      · simp only [h1, h2, if_false]; exact cb_neg u bs
theorem cb_trans : ∀ a b c : List UInt8, compareBytes a b < 0 → compareBytes b c < 0 → compareBytes a c < 0
  | [], [], _, h, _ => by simp [compareBytes] at h
  | [], _ :: _, [], _, h => by simp [compareBytes] at h
  | [], _ :: _, _ :: _, _, _ => by simp [compareBytes]
  | _ :: _, [], _, h, _ => by simp [compareBytes] at h
  | _ :: _, _ :: _, [], _, h => by simp [compareBytes] at h
  | a :: u, b :: bs, c :: cs, h1, h2 => by
    unfold compareBytes at h1 h2 ⊢
    by_cases p1 : a < b
    · by_cases q1 : b < c
      · rw [if_pos (UInt8.lt_trans p1 q1)]; decide
      · by_cases q2 : c < b
        · simp [q1, q2] at h2
        · have e : b = c := UInt8.le_antisymm (UInt8.not_lt.1 q2) (UInt8.not_lt.1 q1)
          subst e; rw [if_pos p1]; decide
    · by_cases p2 : b < a
      · simp [p1, p2] at h1
      · have e : a = b := UInt8.le_antisymm (UInt8.not_lt.1 p2) (UInt8.not_lt.1 p1)
        subst e
        simp only [p1, if_false] at h1
        by_cases q1 : a < c
        · rw [if_pos q1]; decide
        · by_cases q2 : c < a
          · simp [q1, q2] at h2
          · simp only [q1, q2, if_false] at h2 ⊢
            exact cb_trans u bs cs h1 h2

theorem cmpK_neg (x y : GKey) : cmpK y x = - cmpK x y := by
  have := cb_neg x.2 y.2
  unfold cmpK compareInt
  by_cases h1 : x.1 < y.1
  · have h2 : ¬ y.1 < x.1 := by omega
    have h3 : ¬ y.1 > y.1 := by omega
    simp [h1, h2]
  · by_cases h2 : y.1 < x.1
    · simp [h1, h2]
    · have h3 : ¬ x.1 > y.1 := by omega
      have h4 : ¬ y.1 > x.1 := by omega
      simp [h1, h2, this]
theorem cmpK_lt (x y : GKey) : cmpK x y < 0 ↔ x.1 < y.1 ∨ (x.1 = y.1 ∧ compareBytes x.2 y.2 < 0) := by
  unfold cmpK compareInt
  by_cases h1 : x.1 < y.1
  · simp [h1]
  · by_cases h2 : y.1 < x.1
    · have : ¬ x.1 = y.1 := by omega
      simp [h1, h2, this]
    · have : x.1 = y.1 := by omega
      simp [this]
theorem cmpK_self (x : GKey) : cmpK x x = 0 := by have := cmpK_neg x x; omega
theorem cmpK_eq (x y : GKey) (h : cmpK x y = 0) : x = y := by
  have h1 : ¬ cmpK x y < 0 := by omega
  have h2 : ¬ cmpK y x < 0 := by rw [cmpK_neg]; omega
  rw [cmpK_lt] at h1 h2
  have e : x.1 = y.1 := by omega
  refine Prod.ext e (cb_eq _ _ ?_)
  have := cb_neg x.2 y.2
  have a1 : ¬ compareBytes x.2 y.2 < 0 := fun h => h1 (.inr ⟨e, h⟩)
  have a2 : ¬ compareBytes y.2 x.2 < 0 := fun h => h2 (.inr ⟨e.symm, h⟩)
  omega
theorem cmpK_trans (x y z : GKey) (h1 : cmpK x y < 0) (h2 : cmpK y z < 0) : cmpK x z < 0 := by
  rw [cmpK_lt] at *
  rcases h1 with h1 | ⟨h1, h1'⟩ <;> rcases h2 with h2 | ⟨h2, h2'⟩
  · left; omega
  · left; omega
  · left; omega
  · right; exact ⟨h1.trans h2, cb_trans _ _ _ h1' h2'⟩
theorem swoK : SWO (ltOf cmpK) where
  irrefl x := by simp [ltOf, cmpK_self]
  trans x y z h1 h2 := by
    simp only [ltOf, decide_eq_true_eq] at *
    exact cmpK_trans x y z h1 h2
  ntrans x y z h1 h2 := by
    simp only [ltOf, decide_eq_false_iff_not] at *
    intro h
    have a1 := cmpK_neg x y; have a2 := cmpK_neg y z
    by_cases e1 : cmpK x y = 0
    · rw [cmpK_eq x y e1] at h; exact h2 h
    · by_cases e2 : cmpK y z = 0
      · rw [← cmpK_eq y z e2] at h; exact h1 h
      · have := cmpK_trans z y x (by omega) (by omega)
        have a3 := cmpK_neg x z
        omega

/-- Two lists in strict order that hold the same are one. -/
theorem sorted_unique : ∀ (l l' : List GKey), l.Pairwise (fun x y => cmpK x y < 0) → l'.Pairwise (fun x y => cmpK x y < 0) → l.Perm l' → l = l'
  | [], l', _, _, h => (List.Perm.nil_eq h)
  | x :: l, [], _, _, h => by simpa using h.length_eq
  | x :: l, y :: l', h1, h2, h => by
    have hx := List.pairwise_cons.1 h1
    have hy := List.pairwise_cons.1 h2
    have e : x = y := by
      have mx : x ∈ y :: l' := h.subset List.mem_cons_self
      have my : y ∈ x :: l := h.symm.subset List.mem_cons_self
      rcases List.mem_cons.1 mx with e | mx
      · exact e
      · rcases List.mem_cons.1 my with e | my
        · exact e.symm
        · have a := hx.1 y my; have b := hy.1 x mx
          have := cmpK_neg x y
          omega
    subst e
    rw [sorted_unique l l' hx.2 hy.2 (List.Perm.cons_inv h)]

theorem sortLays (g off size : Nat) (w : World) : CmpLays Try.prog 14 #[] cellsK 2 cmpK g off size w := fun m os dk _ x y =>
  (Order_any x y _).mono fun _ _ ⟨he, h⟩ => ⟨he, h⟩

set_option maxHeartbeats 1000000 in
theorem SortK_any (w : World) (g cap : Nat) (l : List GKey) (hH : HoldsK cellsK 2 w g 0 l.toArray) (hg : g < w.heap.size) (hl : l.length ≤ 1000) :
    Calls Try.prog 21 #[.slice (some ⟨g, 0, none⟩) l.length cap, .func (.func 14) #[] #[]] w fun e w' => e = .returned (.tuple #[]) ∧ ∃ l' : List GKey, l'.Perm l ∧ l'.Pairwise (fun x y => ¬ cmpK y x < 0) ∧ HoldsK cellsK 2 w' g 0 l'.toArray ∧ Keeps [g] w w' := by
  have eg : ∀ args w, (callFunc 14 args).run Try.prog w = .ok (.enter 14 args) w := enters_of Try.func14 (by kernel_rfl) rfl
  have hcon := AnyQ.slices_SortFunc Try.sortK 2 Try.isAgg32 Try.sizeOf32 cellsK (fun _ => rfl) (fun x v hv => by simp [cellsK] at hv; rcases hv with rfl | rfl <;> rfl) cmpK swoK 14 #[] g 0 cap l.toArray w eg (sortLays g 0 l.toArray.size w) hH hg (by simp; omega)
  change Calls Try.prog 21 _ _ _ at hcon
  rw [List.size_toArray] at hcon
  refine hcon.mono ?_
  rintro e w' ⟨rfl, d', n, os, hp, hs, rfl⟩
  have hsz : d'.size = l.length := by simpa using hp.1
  refine ⟨rfl, d'.toList, ?_, ?_, ?_, ?_⟩
  · have := hp.2.2
    have e2 : List.take l.length d'.toList = d'.toList := List.take_of_length_le (by rw [Array.length_toList]; omega)
    simp at this
    rwa [e2] at this
  · rw [List.pairwise_iff_getElem]
    intro i j hi hj hij
    have := hs i j (by omega) hij (by simpa [hsz] using hj)
    simp at hi hj
    simpa [ltOf, hi, hj] using this
  · rw [Array.toArray_toList]
    unfold sortWorldK
    exact holdsK_grow _ _ _ _ _ _ _ (by simp [putRowK, putRow, mapBlock, Sort.ahead]; exact hg) (holdsK_putRowK _ _ _ _ _ l.toArray d' (holdsK_ahead _ _ _ _ _ _ _ hH) (by simpa using hsz))
  · unfold sortWorldK
    refine ⟨rfl, rfl, rfl, by simp [putRowK, putRow, mapBlock, Sort.ahead], fun k hk hne => ?_⟩
    rw [heap_grow_old _ _ (by simpa [putRowK, putRow, mapBlock, Sort.ahead] using hk)]
    have : g ≠ k := fun e => hne (by simp [e])
    simp [putRowK, putRow, mapBlock, Sort.ahead, Array.getElem?_modify, this]
end Go.Proofs.Ytepnbfpclhincaa

namespace Go.Proofs.Ytepnbfpclhincaa
open Go.Shelf Go.RowKit Go.Lib Go.Sort

/-- A slice value that holds these grants. -/
def RowAt (w : World) (v : Value) (l : List GKey) : Prop :=
  (v = .slice none 0 0 ∧ l = []) ∨ ∃ g cap, v = .slice (some ⟨g, 0, none⟩) l.length cap ∧ l ≠ [] ∧ g < w.heap.size ∧ HoldsK cellsK 2 w g 0 l.toArray

theorem HoldsK_keeps {F : List Nat} {w w' : World} {g : Nat} {d : Array GKey} (h : HoldsK cellsK 2 w g 0 d) (hg : g < w.heap.size) (k : Keeps F w w') (hn : g ∉ F) : HoldsK cellsK 2 w' g 0 d := by
  intro j hj
  have := h j hj
  exact ⟨k.cell this.1 hn, k.free this.2 hg hn⟩

theorem flat_get : ∀ (ss : List GKey) (j : Nat), j < ss.length * 2 → (ss.flatMap cellsK)[j]? = (cellsK (ss[j / 2]!))[j % 2]?
  | [], j, h => by simp at h
  | x :: ss, j, h => by
    rw [List.flatMap_cons]
    by_cases h2 : j < 2
    · rw [List.getElem?_append_left (by simpa [cellsK] using h2)]
      have : j / 2 = 0 := by omega
      have e : j % 2 = j := by omega
      rw [this, e]; rfl
    · have e : (cellsK x).length = 2 := rfl
      rw [List.getElem?_append_right (by rw [e]; omega), e, flat_get ss (j - 2) (by simp at h; omega)]
      have e1 : (j - 2) / 2 + 1 = j / 2 := by omega
      have e2 : (j - 2) % 2 = j % 2 := by omega
      rw [e2, ← e1]
      simp

theorem holdsK_of_row {w : World} {g k : Nat} {cur : Array Value} {ss : List GKey} (hb : w.heap[g]? = some (.cells cur 32 (0, 0))) (hk : k = ss.length) (ht : cur.toList.take (k * 2) = ss.flatMap cellsK) : HoldsK cellsK 2 w g 0 ss.toArray := by
  subst hk
  intro j hj
  have hj' : j < ss.length * 2 := by simpa using hj
  refine ⟨?_, by simp [World.frozen?, hb]⟩
  rw [cell_blk hb]
  have h1 : (cur.toList.take (ss.length * 2))[j]? = (ss.flatMap cellsK)[j]? := by rw [ht]
  rw [List.getElem?_take_of_lt hj', flat_get ss j hj', Array.getElem?_toList] at h1
  have hlt : j % 2 < (cellsK (ss[j / 2]!)).length := by show j % 2 < 2; omega
  have e : ss.toArray[j / 2]! = ss[j / 2]! := by simp
  rw [Nat.zero_add, h1, get_flatK _ _ _ _ (by simpa using hj'), e, List.getElem?_eq_getElem hlt]
  show _ = some ((cellsK ss[j / 2]!)[j % 2]!)
  rw [getElem!_pos (cellsK ss[j / 2]!) (j % 2) hlt]

set_option maxHeartbeats 1000000 in
theorem SortedFunc_any (w : World) (Bm b : Nat) (L : List GKey) (hBm : Bm < w.heap.size) (hm : w.cell? ⟨Bm, 0, none⟩ = some (.map (some b))) (hS : SetAt encK w b L) (hnd : L.Nodup) (hN : L.length ≤ 1000) :
    Calls Try.prog 12 #[.func (.func 22) #[] #[.pointer (some ⟨Bm, 0, none⟩)], .func (.func 14) #[] #[]] w fun e w' => ∃ (v : Value) (l : List GKey), e = .returned v ∧ l.Perm L ∧ l.Pairwise (fun x y => cmpK x y < 0) ∧ RowAt w' v l ∧ Keeps [] w w' := by
  have hc := CollectK_any w Bm b L hBm hm hS hN
  have hpr : ∀ l l' : List GKey, l'.Perm l → l.Perm L → l'.Pairwise (fun x y => ¬ cmpK y x < 0) → l'.Pairwise (fun x y => cmpK x y < 0) := by
    intro l l' h1 h2 h3
    have hn : l'.Nodup := (h1.trans h2).nodup_iff.2 hnd
    refine List.Pairwise.imp₂ ?_ h3 hn
    intro x y h hne
    have := cmpK_neg x y
    by_cases e : cmpK x y = 0
    · exact absurd (cmpK_eq x y e) hne
    · omega
  go_enter Try.func12, Try.ntmps12
  go_wp2_with fail
  refine hc.mono ?_
  rintro e w1 ⟨v, ss, rfl, hP, hrow, hnil, hb⟩
  rcases hrow.2 with ⟨rfl, h0⟩ | ⟨g, cap, cur, rfl, hbase, hgb, h1, h2, h3, h4⟩
  · have hss : ss = [] := hnil.1 rfl
    subst hss
    have hL : L = [] := List.eq_nil_of_length_eq_zero hP.length_eq.symm
    have HK : Hid (Keeps [] w w1) := Keeps.of_below hb
    have hso := AnyF.slices_SortFunc_none Try.sortK none 0 (.func (.func 14) #[] #[]) w1
    change Calls Try.prog 21 _ _ _ at hso
    have HL := Lib.hid hL
    clear hc hP hrow hnil hb hL
    go_wp2_with fail
    refine hso.mono ?_
    rintro e w2 ⟨rfl, rfl⟩
    go_wp2_with fail
    go_ret
    exact ⟨.slice none 0 0, [], rfl, by rw [HL.out], List.Pairwise.nil, .inl ⟨rfl, rfl⟩, HK.out⟩
  · have hg := lt_of_heap hgb
    have hH := holdsK_of_row hgb rfl h4
    have hlen := hP.length_eq
    have hso := SortK_any w1 g cap ss hH hg (by omega)
    have HK : Hid (Keeps [] w w1) := Keeps.of_below hb
    have HP := Lib.hid hP
    have hne : ss ≠ [] := fun e => by have := hnil.2 e; cases this
    clear hc hP hrow hnil hb hgb hH h4 hlen
    go_wp2_with fail
    refine hso.mono ?_
    rintro e w2 ⟨rfl, l', hl1, hl2, hH2, hk2⟩
    have hfin : RowAt w2 (.slice (some ⟨g, 0, none⟩) ss.length cap) l' :=
      .inr ⟨g, cap, by rw [hl1.length_eq], fun e => hne (by rw [e] at hl1; exact (List.Perm.nil_eq hl1).symm), Nat.lt_of_lt_of_le hg hk2.size, hH2⟩
    have hk := HK.out.trans' hk2 (fun x hx hlt => by simp at hx; omega)
    have hpw := hpr ss l' hl1 HP.out hl2
    have hpm := hl1.trans HP.out
    clear hH2 hk2 hl1 hl2 hso HK HP
    go_wp2_with fail
    go_ret
    exact ⟨.slice (some ⟨g, 0, none⟩) ss.length cap, l', rfl, hpm, hpw, hfin, hk⟩

set_option maxHeartbeats 1000000 in
theorem List_any (w : World) (p b : Nat) (L : List GKey) (h : TabAt w p b L) :
    Calls Try.prog 7 #[.pointer (some ⟨p, 0, none⟩)] w fun e w' => ∃ (v : Value) (l : List GKey), e = .returned v ∧ l.Perm L ∧ l.Pairwise (fun x y => cmpK x y < 0) ∧ RowAt w' v l ∧ Keeps [] w w' := by
  have d0 : w.cell? ⟨p, 0, none⟩ = some (.map (some b)) := by rw [cell_blk h.head]; rfl
  have hk := KeysK_any (some b) w
  have hT := h.keeps (F := []) ((Keeps.refl [] w).alloc (.cells #[.map (some b)] 28)) (by simp) (by simp)
  have hs := SortedFunc_any (w.alloc (.cells #[.map (some b)] 28)) w.heap.size b L (by simp) (by rw [cell_blk (heap_alloc_new w _)]; rfl) hT.set h.nodup (by have := h.len; omega)
  have HK : Hid (Keeps [] w (w.alloc (.cells #[.map (some b)] 28))) := (Keeps.refl [] w).alloc _
  clear h hT
  go_enter Try.func7, Try.ntmps7
  go_wp2_with (first
    | (go_at_call 13; refine hk.mono ?_; rintro e w' ⟨rfl, rfl⟩)
    | (go_at_call 12; refine hs.mono ?_; rintro e w' ⟨v, l, rfl, r1, r2, r3, r4⟩))
  go_ret
  exact ⟨v, l, rfl, r1, r2, r3, HK.out.trans r4⟩
end Go.Proofs.Ytepnbfpclhincaa

namespace Go.Proofs.Ytepnbfpclhincaa
open Go.Shelf Go.RowKit Go.Lib Go.Sort

theorem holdsI_of_row {w : World} {g k : Nat} {cur : Array Value} {ss : List Int} (hb : w.heap[g]? = some (.cells cur 3 (0, 0))) (hk : k = ss.length) (ht : cur.toList.take (k * 1) = ss.map encI) : Holds (Value.int .i64) w g 0 ss.toArray := by
  subst hk
  intro j hj
  have hj' : j < ss.length := by simpa using hj
  refine ⟨?_, by simp [World.frozen?, hb]⟩
  rw [cell_blk hb]
  have h1 : (cur.toList.take (ss.length * 1))[j]? = (ss.map encI)[j]? := by rw [ht]
  rw [List.getElem?_take_of_lt (by omega), Array.getElem?_toList] at h1
  rw [Nat.zero_add, h1]
  simp [hj', encI]

set_option maxHeartbeats 1000000 in
theorem SortedI_any (w : World) (Bm b : Nat) (L : List Int) (hBm : Bm < w.heap.size) (hm : w.cell? ⟨Bm, 0, none⟩ = some (.map (some b))) (hS : SetAt encI w b L) (hN : L.length ≤ 1000) (hL : L ≠ []) :
    Calls Try.prog 18 #[.func (.func 27) #[] #[.pointer (some ⟨Bm, 0, none⟩)]] w fun e w' => ∃ g cap, e = .returned (.slice (some ⟨g, 0, none⟩) L.length cap) ∧ Keeps [] w w' := by
  have hc := CollectI_any w Bm b L hBm hm hS hN
  go_enter Try.func18, Try.ntmps18
  go_wp2_with fail
  refine hc.mono ?_
  rintro e w1 ⟨v, ss, rfl, hP, hrow, hnil, hb⟩
  rcases hrow.2 with ⟨rfl, h0⟩ | ⟨g, cap, cur, rfl, hbase, hgb, h1, h2, h3, h4⟩
  · have hss : ss = [] := hnil.1 rfl
    subst hss
    exact absurd (List.eq_nil_of_length_eq_zero hP.length_eq.symm) hL
  · have hg := lt_of_heap hgb
    have hH := holdsI_of_row hgb rfl h4
    have hlen := hP.length_eq
    have hso := Any.slices_Sort_int Try.lays189 g 0 cap ss w1 hH hg (by omega)
    change Calls Try.prog 26 _ _ _ at hso
    have HK : Hid (Keeps [] w w1) := Keeps.of_below hb
    rw [hlen] at hso ⊢
    generalize (ss.mergeSort fun x y => decide (x ≤ y)).toArray = d at hso
    have hkk : ∀ n os, Keeps [] w (grow (putRow (Value.int .i64) (Sort.ahead w1 n) g 0 d) os) := fun n os => by
      refine HK.out.trans' (G := [g]) ⟨rfl, rfl, rfl, by simp [putRow, mapBlock, Sort.ahead], fun k hk hne => ?_⟩ (fun x hx hlt => by simp at hx; omega)
      rw [heap_grow_old _ _ (by simpa [putRow, mapBlock, Sort.ahead] using hk)]
      have : g ≠ k := fun e => hne (by simp [e])
      simp [putRow, mapBlock, Sort.ahead, Array.getElem?_modify, this]
    clear hc hP hrow hnil hb hgb hH h4 hlen HK
    go_wp2_with fail
    refine hso.mono ?_
    rintro e w2 ⟨rfl, m, os, rfl⟩
    have hk := hkk m os
    generalize grow (putRow (Value.int .i64) (Sort.ahead w1 m) g 0 d) os = W at hk ⊢
    clear hkk hso
    go_wp2_with fail
    go_ret
    exact ⟨g, cap, rfl, hk⟩
end Go.Proofs.Ytepnbfpclhincaa
