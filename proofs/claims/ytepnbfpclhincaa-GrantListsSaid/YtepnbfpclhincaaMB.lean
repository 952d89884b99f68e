/-
  Ranging over a map that is a set.
  maps.Keys, slices.AppendSeq and slices.Collect of grants.
  slices.AppendSeq(nil, seq) of grants.
  The same over sets of numbers: maps.Keys's iterator, slices.AppendSeq.
  maps.Keys and slices.Collect, of grants and of numbers.
-/
import Derived.Test.YtepnbfpclhincaaMA
import Derived.Maps.RangeRun
import Derived.Sort.MapsRangeIn
import Derived.RangeFuncSeq
import Derived.Shelf.AbstractIn
import Derived.Shelf.Abstract
import Derived.RangeFuncGives
import Derived.Maps.AppendAt
import Derived.Sort.LoopGhostIn
import Derived.WalkKit
import Derived.OwnWalkIn
import Derived.TacticsInMore
import Derived.RegionIn
import Derived.LoopNIn
import Derived.LoopIn
import Derived.Shelf.SlIter.Collect
import Derived.RangeFuncBox
set_option linter.unusedVariables false
set_option linter.unusedSimpArgs false
namespace Go.Proofs.Ytepnbfpclhincaa
open Go.RowKit Go.Maps

section
variable {α : Type} [DecidableEq α]
set_option linter.unusedSectionVars false

/-- An iterator over such a map, to which these keys are still to come. -/
structure ItAt (enc : α → Value) (w : World) (b r : Nat) (L left : List α) : Prop where
  ex : ∃ es clock seen, w.heap[b]? = some (.map es clock) ∧ es.toList.map (·.key) = L.map enc ∧ (∀ e ∈ es.toList, e.val = .bool true) ∧ (es.toList.map (·.born)).Pairwise (· < ·) ∧ (∀ e ∈ es.toList, e.born < clock) ∧
    w.heap[r]? = some (.mapIter (some b) clock seen clock) ∧ (leftOf es seen).toList.map (·.key) = left.map enc
theorem ItAt.set {enc : α → Value} {w : World} {b r : Nat} {L left : List α} (h : ItAt enc w b r L left) : SetAt enc w b L := by
  obtain ⟨es, clock, seen, h1, h2, h3, h4, h5, -⟩ := h.ex; exact ⟨es, clock, h1, h2, h3, h4, h5⟩
theorem ItAt.walk {enc : α → Value} {w : World} {b r : Nat} {L left : List α} (h : ItAt enc w b r L left) : ∃ o : Obj, w.heap[r]? = some o ∧ o.isWalk = true := by
  obtain ⟨es, clock, seen, -, -, -, -, -, h6, -⟩ := h.ex; exact ⟨_, h6, rfl⟩
theorem ItAt.kept {enc : α → Value} {w w' : World} {b r : Nat} {L left : List α} (h : ItAt enc w b r L left) (hb : w'.heap[b]? = w.heap[b]?) (hr : w'.heap[r]? = w.heap[r]?) : ItAt enc w' b r L left := by
  obtain ⟨es, clock, seen, h1, h2, h3, h4, h5, h6, h7⟩ := h.ex
  exact ⟨es, clock, seen, hb.trans h1, h2, h3, h4, h5, hr.trans h6, h7⟩

theorem leftOf_push (es : Array MapEntry) (seen : Array Nat) (b : Nat) : (leftOf es (seen.push b)).toList = (leftOf es seen).toList.filter (fun e => !(e.born == b)) := by
  unfold leftOf
  simp only [Array.toList_filter, List.filter_filter]
  apply List.filter_congr
  intro e _
  simp only [Array.contains_push, Bool.not_or]
  rw [Bool.and_comm]

theorem filter_born {E : List MapEntry} {e : MapEntry} {j : Nat} (hp : (E.map (·.born)).Pairwise (· < ·)) (hj : E[j]? = some e) : E.filter (fun x => !(x.born == e.born)) = E.eraseIdx j := by
  induction E generalizing j with
  | nil => simp at hj
  | cons y E ih =>
    simp only [List.map_cons, List.pairwise_cons] at hp
    cases j with
    | zero =>
      simp at hj; subst hj
      simp only [List.eraseIdx_cons_zero]
      rw [List.filter_cons_of_neg (by simp)]
      apply List.filter_eq_self.2
      intro x hx
      have := hp.1 x.born (List.mem_map.2 ⟨x, hx, rfl⟩)
      simp; omega
    | succ j =>
      have hm : e ∈ E := List.mem_of_getElem? (by simpa using hj)
      have := hp.1 e.born (List.mem_map.2 ⟨e, hm, rfl⟩)
      rw [List.filter_cons_of_pos (by simp; omega), List.eraseIdx_cons_succ, ih hp.2 (by simpa using hj)]

theorem perm_eraseIdx' : ∀ {l : List α} {j : Nat} {x : α}, l[j]? = some x → l.Perm (x :: l.eraseIdx j)
  | y :: l, 0, x, h => by simp at h; subst h; simp
  | y :: l, j + 1, x, h => by
    have := perm_eraseIdx' (l := l) (j := j) (x := x) (by simpa using h)
    exact (List.Perm.cons y this).trans (List.Perm.swap x y _)

/-- The step of such an iterator. -/
theorem ItAt.next {P : Program} {enc : α → Value} {w : World} {b r : Nat} {L left : List α} (h : ItAt enc w b r L left) (ty : TypeId) :
    (left = [] ∧ (Instr.next (.pointer (some ⟨r, 0, none⟩)) false ty).run P w = .ok (.tuple #[.bool false]) w) ∨
    ∃ x left' w', left.Perm (x :: left') ∧ (Instr.next (.pointer (some ⟨r, 0, none⟩)) false ty).run P w = .ok (.tuple #[.bool true, enc x, .bool true]) w' ∧ ItAt enc w' b r L left' ∧ w.grownBy w' (some r) ∧ w'.heap.size = w.heap.size ∧
      (Instr.entry (.pointer (some ⟨r, 0, none⟩))).run P w' = .ok (.tuple #[enc x, .bool true]) w' := by
  obtain ⟨es, clock, seen, h1, h2, h3, h4, h5, h6, h7⟩ := h.ex
  rcases run_next_at (P := P) w ty r b clock clock seen es clock h6 h1 h5 (Nat.le_refl _) with ⟨h0, hrun⟩ | ⟨e, he, w1, hw1, hrun⟩
  · refine .inl ⟨?_, hrun⟩
    have : (leftOf es seen).toList = [] := List.eq_nil_of_length_eq_zero (by simpa using h0)
    rw [this] at h7
    cases left with
    | nil => rfl
    | cons x l => simp at h7
  · right
    obtain ⟨j, hj⟩ := List.mem_iff_getElem?.1 he
    have hsub : (leftOf es seen).toList.Sublist es.toList := by
      unfold leftOf; rw [Array.toList_filter]; exact List.filter_sublist
    have hmem : e ∈ es.toList := hsub.subset he
    have hx : ∃ x, left[j]? = some x ∧ enc x = e.key := by
      have := congrArg (fun l => l[j]?) h7
      simp only [List.getElem?_map, hj, Option.map_some] at this
      obtain ⟨x, hx1, hx2⟩ := Option.map_eq_some_iff.1 this.symm
      exact ⟨x, hx1, hx2⟩
    obtain ⟨x, hx1, hx2⟩ := hx
    have hrb : r ≠ b := fun e => by rw [e, h1] at h6; cases h6
    have hbw1 : w1.heap = w.heap := by rcases hw1 with rfl | rfl <;> rfl
    have hrl := lt_of_heap h6
    have hset : ∀ k, k ≠ r → (Go.ChangeMaps.setBlock w1 r (.mapIter (some b) clock (seen.push e.born) clock)).heap[k]? = w.heap[k]? := fun k hk => by
      simp [Go.ChangeMaps.setBlock, hbw1, Ne.symm hk]
    have hsr : (Go.ChangeMaps.setBlock w1 r (.mapIter (some b) clock (seen.push e.born) clock)).heap[r]? = some (.mapIter (some b) clock (seen.push e.born) clock) := by
      simp [Go.ChangeMaps.setBlock, hbw1, hrl]
    have hv := h3 e hmem
    refine ⟨x, left.eraseIdx j, _, perm_eraseIdx' hx1, by rw [hx2]; rw [hv] at hrun; exact hrun, ?_, ?_, by simp [Go.ChangeMaps.setBlock, hbw1], ?_⟩
    · refine ⟨es, clock, seen.push e.born, (hset b (Ne.symm hrb)).trans h1, h2, h3, h4, h5, hsr, ?_⟩
      rw [leftOf_push, filter_born (List.Pairwise.sublist (hsub.map _) h4) hj, map_eraseIdx', h7, map_eraseIdx']
    · rcases hw1 with rfl | rfl
      · exact ⟨rfl, rfl, rfl, by simp [Go.ChangeMaps.setBlock], fun k _ hk => hset k (fun e => hk (by rw [e]))⟩
      · exact ⟨rfl, rfl, rfl, by simp [Go.ChangeMaps.setBlock], fun k _ hk => hset k (fun e => hk (by rw [e]))⟩
    · have hnd : (es.toList.map (·.born)).Nodup := h4.imp (fun h => Nat.ne_of_lt h)
      have := run_entry_at (P := P) _ r b clock seen es clock e hsr ((hset b (Ne.symm hrb)).trans h1) hmem hnd
      rw [hv] at this; rw [hx2]; exact this

/-- The beginning. -/
theorem SetAt.range {P : Program} {t te T : TypeId} {enc : α → Value} {w : World} {b : Nat} {L : List α} (h : SetAt enc w b L) (hT : P.underlying T = some (.map t te)) :
    ∃ o, (Instr.range T (.map (some b))).run P w = .ok (.pointer (some ⟨w.heap.size, 0, none⟩)) (w.alloc o) ∧ ItAt enc (w.alloc o) b w.heap.size L L ∧ o.isWalk = true := by
  obtain ⟨es, clock, hb, hk, hv, hp, hc⟩ := h.ex
  refine ⟨.mapIter (some b) clock #[] clock, ?_, ⟨es, clock, #[], (heap_alloc_lt _ _ _ (lt_of_heap hb)).trans hb, hk, hv, hp, hc, heap_alloc_new _ _, ?_⟩, rfl⟩
  · simp only [Instr.range]
    simp [run_underlying hT, run_getMap hb, Result.andThen, run_newObj]
  · have : leftOf es #[] = es := by unfold leftOf; exact Array.filter_eq_self.2 (by simp)
    rw [this]; exact hk

variable {F : Fence} {n : Nat} {P : Program} {ops : Array Oper} {Q : Exit → Act → World → Prop} {o : Oper} {rest : List Oper} {a : Act} {w : World}
theorem wpListIn_range_set (hg : o.guard = none) (m : Operand) (T : TypeId) (hop : o.op = Op.range T m) (t te : TypeId) (hT : P.underlying T = some (.map t te)) (enc : α → Value) (b : Nat) (L : List α) (hm : a.eval m = .map (some b)) (h : SetAt enc w b L)
    (hK : ∀ w', ItAt enc w' b w.heap.size L L → w.grownBy w' none → w'.heap.size = w.heap.size + 1 → wpListIn F n P ops Q rest (a.put o.dst (.pointer (some ⟨w.heap.size, 0, none⟩))) w') :
    wpListIn F n P ops Q (o :: rest) a w := by
  refine wpListIn_plain hg fun K' hK' => ?_
  obtain ⟨ob, hrun, r1, -⟩ := h.range hT
  unfold Oper.wpIn
  refine ⟨?_, ?_⟩
  · simp [Oper.about, hop]
  · rw [Oper.semAt_plain F _ _ (by rw [hop]; intro c hc'; cases hc')]
    simp [execOp, hop, hm, hrun, Result.andThen]
    exact hK' _ _ (hK _ r1 (World.grownBy_alloc w ob none) (by simp))
theorem wpListIn_next_set (hg : o.guard = none) (it : Operand) (hop : o.op = Op.next it false) (enc : α → Value) (b r : Nat) (L left : List α) (hit : a.eval it = .pointer (some ⟨r, 0, none⟩)) (h : ItAt enc w b r L left)
    (hDone : left = [] → wpListIn F n P ops Q rest (a.put o.dst (.tuple #[.bool false])) w)
    (hMore : ∀ (x : α) (left' : List α) (w' : World), left.Perm (x :: left') → ItAt enc w' b r L left' → w.grownBy w' (some r) → w'.heap.size = w.heap.size → (Instr.entry (.pointer (some ⟨r, 0, none⟩))).run P w' = .ok (.tuple #[enc x, .bool true]) w' →
      wpListIn F n P ops Q rest (a.put o.dst (.tuple #[.bool true, enc x, .bool true])) w') :
    wpListIn F n P ops Q (o :: rest) a w := by
  refine wpListIn_plain hg fun K' hK' => ?_
  unfold Oper.wpIn
  refine ⟨by simp [Oper.about, hop], ?_⟩
  rw [Oper.semAt_plain F _ _ (by rw [hop]; intro c hc'; cases hc')]
  rcases h.next (P := P) o.type with ⟨h0, hrun⟩ | ⟨x, left', w', hp, hrun, hI, hgr, hsz, hen⟩
  · simp [execOp, hop, hit, hrun, Result.andThen]
    exact hK' _ _ (hDone h0)
  · simp [execOp, hop, hit, hrun, Result.andThen]
    exact hK' _ _ (hMore x left' w' hp hI hgr hsz hen)
end
end Go.Proofs.Ytepnbfpclhincaa

namespace Go.Proofs.Ytepnbfpclhincaa
open Go.RowKit Go.Maps Go.Shelf

theorem ItAt.of_walks {α : Type} [DecidableEq α] {enc : α → Value} {w w' : World} {b r : Nat} {L left : List α} (h : ItAt enc w b r L left) (k : KeepsWalks w w') : ItAt enc w' b r L left := by
  obtain ⟨es, clock, seen, h1, h2, h3, h4, h5, h6, h7⟩ := h.ex
  exact ⟨es, clock, seen, k.same _ _ h1 rfl, h2, h3, h4, h5, k.same _ _ h6 rfl, h7⟩

set_option maxRecDepth 100000 in
set_option maxHeartbeats 2000000 in
/-- The iterator over a table's grants. -/
theorem keysK_in (F : Fence) (n : Nat) (hf : F.fn 22) (hro : F.round = none) (hn : 1 ≤ n) (l Bm b : Nat) (L : List GKey) (J : List GKey → World → Prop)
    (hY : ∀ pre x W, J pre W → pre.length < L.length → YieldAt F (n - 1) Try.prog l #[encK x] W fun e W' => e = .returned (.bool true) ∧ J (pre ++ [x]) W' ∧ KeepsWalks W W')
    (W : World) (hJ : AbidesFrom W.heap.size J) (hm : W.cell? ⟨Bm, 0, none⟩ = some (.map (some b))) (hS : SetAt encK W b L) (h0 : J [] W) :
    CallsIn F n Try.prog 22 #[.func (.yield l) #[] #[], .pointer (some ⟨Bm, 0, none⟩)] W fun e W' => (∃ v, e = .returned v) ∧ ∃ ss : List GKey, ss.Perm L ∧ J ss W' := by
  refine callsIn_of_wp Try.func22 rfl hf ?_ hro
  simp only [Try.ntmps22, List.size_toArray, List.length_cons, List.length_nil, Nat.reduceAdd, Nat.reduceSub, Array.replicate_succ, Array.replicate_zero, List.push_toArray, List.append_toArray, List.nil_append, List.cons_append]
  gi_wp2_with (first
    | (gi_at_range; refine wpListIn_range_set rfl _ 28 rfl 32 4 underMap encK b L rfl hS ?_; intro w0 hI0 hg0 hs0)
    | gi_in)
  go_frame
  have hk0 : KeepsWalks W w0 := KeepsWalks.of_grownBy hg0 (fun j o e _ => by cases e)
  have hJ0 : J [] w0 := hJ [] W w0 none h0 hg0 (fun r e => by cases e)
  clear hm hS h0 hg0 hs0 hk0
  obtain ⟨left0, hl0, HI0⟩ : ∃ left0, left0 = L ∧ ItAt encK w0 b W.heap.size L left0 := ⟨L, rfl, hI0⟩
  gi_loopg [] (L.length) (fun (k : Nat) (wr : World) => ∃ (left : List GKey) (ss : List GKey), k = left.length ∧ ItAt encK wr b W.heap.size L left ∧ (ss ++ left).Perm L ∧ J ss wr)
  case atStart => exact ⟨L, [], rfl, hI0, by simp, hJ0⟩
  case round =>
    obtain ⟨left, ss, hgk, hI, hP, hJs⟩ := hrel
    gi_wp2_with (first
      | (gi_at_next; refine wpListIn_next_set rfl _ rfl encK b W.heap.size L left rfl hI ?_ ?_)
      | gi_in)
    · intro hl
      subst hl
      gi_wp2
      go_end0
      exact ⟨⟨_, rfl⟩, ss, by simpa using hP, hJs⟩
    · intro x0 x1 left' w2 hpx hI2 hg2 hs2 hen
      have hws : W.heap.size ≤ w2.heap.size := by have := lt_of_heap hI2.walk.choose_spec.1; omega
      have hJ2 : J ss w2 := hJ ss wr w2 (some W.heap.size) hJs hg2 (fun r e => by cases e; exact ⟨Nat.le_refl _, hI.walk⟩)
      obtain ⟨s, hs⟩ : ∃ s, s = ByteArray.mk x1.toArray := ⟨_, rfl⟩
      have hek : encK (x0, x1) = .agg #[.int .i64 x0, .string s] := by rw [hs]; rfl
      obtain ⟨x, hx⟩ : ∃ x, x = (x0, x1) := ⟨_, rfl⟩
      rw [hek] at hen ⊢
      rw [← hx] at hpx hek
      clear hs hx
      have hg4 := World.grownBy_alloc w2 (.cells #[.int .i64 x0, .string s] 32) (some W.heap.size)
      have hka : KeepsWalks w2 (w2.alloc (.cells #[.int .i64 x0, .string s] 32)) := KeepsWalks.alloc _ _
      have hI4 := hI2.of_walks hka
      have hJ4 := hJ ss w2 _ none hJ2 (World.grownBy_alloc w2 (.cells #[.int .i64 x0, .string s] 32) none) (fun r e => by cases e)
      obtain ⟨fn, tmps, assign, body, hy, hR⟩ := hY ss x _ hJ4 (by have := hP.length_eq; have := hpx.length_eq; simp at *; omega)
      rw [hek] at hy
      clear hg2 hs2 hg4 hka
      gi_wp2
      refine hR.mono ?_
      rintro e W3 ⟨rfl, hJ3, hk3⟩
      have hI3 := hI4.of_walks hk3
      gi_wp2
      gi_roundg (left'.length)
      case rel => exact ⟨left', ss ++ [x], rfl, hI3, by rw [List.append_assoc]; exact (List.Perm.append_left ss hpx.symm).trans hP, hJ3⟩
      case measure => have := hpx.length_eq; simp at this; omega
end Go.Proofs.Ytepnbfpclhincaa

namespace Go.Proofs.Ytepnbfpclhincaa
open Go.RowKit Go.Maps Go.Shelf

def cellsK (x : GKey) : List Value := [.int .i64 x.1, .string ⟨x.2.toArray⟩]
def apAssignK : Code := (Code.region 2 #[{ dst := some 5, op := Op.alloc 32, type := 0, pos := "iter.go:51", after := #[], guard := none }, { dst := none, op := Op.store 32 (Operand.tmp 5) (Operand.tmp 7), type := 0, pos := "iter.go:51", after := #[{ on := 0, ground := Ground.data }, { on := 0, ground := Ground.phase }], guard := none }] false)
def apBodyK : Code := (Code.block 1 (Code.region 3 #[{ dst := some 8, op := Op.load 33 (Operand.tmp 2), type := 33, pos := "iter.go:52", after := #[], guard := none }, { dst := some 9, op := Op.load 32 (Operand.tmp 5), type := 32, pos := "iter.go:52", after := #[], guard := none }, { dst := some 10, op := Op.buildSlice 33 1 #[(0, Operand.tmp 9)], type := 33, pos := "iter.go:52", after := #[{ on := 1, ground := Ground.data }], guard := none }, { dst := some 11, op := Op.call { callee := Callee.builtin Builtin.append, args := #[Operand.tmp 8, Operand.tmp 10], argTypes := #[33, 33] }, type := 33, pos := "iter.go:52", after := #[{ on := 0, ground := Ground.data }, { on := 2, ground := Ground.data }], guard := none }, { dst := none, op := Op.store 33 (Operand.tmp 2) (Operand.tmp 11), type := 0, pos := "iter.go:52", after := #[{ on := 3, ground := Ground.data }, { on := 3, ground := Ground.chain }, { on := 0, ground := Ground.phase }, { on := 1, ground := Ground.phase }, { on := 2, ground := Ground.phase }, { on := 3, ground := Ground.phase }], guard := none }] false))
def apRecK (fn : FuncId) (sv : Value) (Bs D : Nat) (st : LoopState) (pend : Option Code) : Loop :=
  { state := st, pending := pend, fn, tmps := #[.slice none 0 0, sv, .pointer (some ⟨Bs, 0, none⟩), undef, .slice none 0 0, undef, sv, undef, undef, undef, undef, undef, undef], params := #[7], assign := apAssignK, body := apBodyK, defers := D }

structure ApAtK (w0 : World) (fn : FuncId) (sv : Value) (Bs l D : Nat) (ss : List GKey) (W : World) : Prop where
  box : ∃ v, W.heap[Bs]? = some (.cells #[v] 33 (0, 0)) ∧ W.ownsRow w0.heap.size 32 2 v ss.length (ss.flatMap cellsK) ∧ (v = .slice none 0 0 ↔ ss = [])
  L : W.heap[l]? = some (.loop (apRecK fn sv Bs D .ready none))
  K : W.heap[D]? = some (.deferred (some []))
  below : Below w0.heap.size w0 W

theorem ap_abidesK (w0 : World) (fn : FuncId) (sv : Value) (Bs l D B : Nat) (hB : w0.heap.size ≤ B) : AbidesFrom B (ApAtK w0 fn sv Bs l D) := fun s W W' row h hg hrow => by
  have hrow' : ∀ r, row = some r → ∃ o : Obj, W.heap[r]? = some o ∧ o.isWalk = true := fun r e => (hrow r e).2
  obtain ⟨v, hv, hr, hn⟩ := h.box
  exact ⟨⟨v, (grownBy_keeps hg hrow' hv rfl).trans hv, ownsRow_abides_a hr hg hrow', hn⟩, (grownBy_keeps hg hrow' h.L rfl).trans h.L, (grownBy_keeps hg hrow' h.K rfl).trans h.K,
    h.below.grown hg h.below.size (fun k e => Nat.le_trans hB (hrow k e).1)⟩

theorem flat_len (ss : List GKey) : (ss.flatMap cellsK).length = ss.length * 2 := by
  induction ss with
  | nil => rfl
  | cons x ss ih => rw [List.flatMap_cons, List.length_append, ih]; simp [cellsK]; omega

theorem cell_two_new (w : World) (x y : Value) (t : TypeId) : ∀ j u, [x, y][j]? = some u → (w.alloc (.cells #[x, y] t)).cell? ((⟨w.heap.size, 0, none⟩ : Addr).add j) = some u := by
  intro j u hj
  have h := heap_alloc_new w (.cells #[x, y] t)
  rcases j with _ | _ | j
  · simp at hj; subst hj; exact cell_blk h 0
  · simp at hj; subst hj; exact (cell_blk h (0 + 1))
  · simp at hj

set_option maxRecDepth 100000 in
set_option maxHeartbeats 4000000 in
theorem apYieldK (F : Fence) (m : Nat) (w0 : World) (fn : FuncId) (hfn : F.fn fn) (sv : Value) (Bs l D : Nat) (hBl : Bs ≠ l) (hDl : D ≠ l) (hDB : D ≠ Bs) (h0B : w0.heap.size ≤ Bs) (h0l : w0.heap.size ≤ l)
    (N : Nat) (hN : N ≤ maxLen) (hNb : N * 24 ≤ 140737488355328) (ss : List GKey) (x : GKey) (W : World) (h : ApAtK w0 fn sv Bs l D ss W) (hlen : ss.length < N) :
    YieldAt F m Try.prog l #[encK x] W fun e W' => e = .returned (.bool true) ∧ ApAtK w0 fn sv Bs l D (ss ++ [x]) W' ∧ KeepsWalks W W' := by
  have hne : (33 : Nat) ≠ 32 := by decide
  obtain ⟨i0, hi, hz0, hz1, hz2⟩ : ∃ i, Try.prog.info? 32 = some i ∧ i.zero = some (.agg #[.int .i64 0, .string ⟨#[]⟩]) ∧ i.size = 2 ∧ i.bytes = 24 := info_parts (by kernel_rfl)
  obtain ⟨v, hv, hrow, _⟩ := h.box
  obtain ⟨s, hs⟩ : ∃ s, s = ByteArray.mk x.2.toArray := ⟨_, rfl⟩
  have hek : encK x = .agg #[.int .i64 x.1, .string s] := by rw [hs]; rfl
  have hcx : cellsK x = [.int .i64 x.1, .string s] := by rw [hs]; rfl
  clear hs
  obtain ⟨c, hc⟩ : ∃ c, c = x.1 := ⟨_, rfl⟩
  rw [← hc] at hek hcx
  clear hc
  refine ⟨fn, #[.slice none 0 0, sv, .pointer (some ⟨Bs, 0, none⟩), undef, .slice none 0 0, undef, sv, encK x, undef, undef, undef, undef, undef], apAssignK, apBodyK, by simpa [apRecK] using run_yield (P := Try.prog) (args := #[encK x]) h.L rfl, roundIn_of_wpIn hfn ?_⟩
  rw [hek]
  have ne_of : ∀ {w' : World} {vv : Value} {k : Nat} {xs : List Value} (_ : w'.ownsRow w0.heap.size 32 2 vv k xs) {j : Nat} {o : Obj} (_ : w'.heap[j]? = some o) (_ : ∀ cur, o ≠ .cells cur 32 (0, 0)), some j ≠ vv.ownBlock := by
    intro w' vv k xs hr j o hj hno
    rcases ownsRow_ne_a hr hj hno with e | e
    · rw [e]; simp
    · exact fun e' => e e'.symm
  unfold apAssignK
  gi_wp2_with gi_round_op_a
  obtain ⟨W3, hW3⟩ : ∃ W3, W.alloc (.cells #[.int .i64 c, .string s] 32) = W3 := ⟨_, rfl⟩
  rw [hW3]
  have hx3 : W3.heap[W.heap.size]? = some (.cells #[.int .i64 c, .string s] 32 (0, 0)) := by rw [← hW3]; exact heap_alloc_new _ _
  have hg3 : W.grownBy W3 none := by rw [← hW3]; exact World.grownBy_alloc W _ none
  have hk3 : KeepsWalks W W3 := by rw [← hW3]; exact KeepsWalks.alloc _ _
  have hv3 := (hg3.block Bs (lt_of_heap hv) (by simp)).trans hv
  have hK3 := (hg3.block D (lt_of_heap h.K) (by simp)).trans h.K
  have hL3 := (hg3.block l (lt_of_heap h.L) (by simp)).trans h.L
  have hrow3 : W3.ownsRow w0.heap.size 32 2 v ss.length (ss.flatMap cellsK) := by rw [← hW3]; exact hrow.alloc _
  have hb3 : Below w0.heap.size w0 W3 := by rw [← hW3]; exact h.below.alloc h.below.size _
  have hlW := lt_of_heap h.L
  have hxl : W.heap.size ≠ l := by omega
  generalize W.heap.size = Bx at hx3 hxl ⊢
  clear hW3 hg3 h hrow hv hlW
  have hl : l < W3.heap.size := lt_of_heap hL3
  have hbr := run_beginRound (P := Try.prog) hL3 rfl
  obtain ⟨W2, hW2⟩ : ∃ W2, W3.putObj l (.loop { apRecK fn sv Bs D .ready none with state := .busy }) = W2 := ⟨_, rfl⟩
  rw [hW2] at hbr
  have hg2 : W3.grownBy W2 (some l) := by rw [← hW2]; exact grownBy_putObj_a _ _ _
  have hk2 : KeepsWalks W W2 := hk3.trans (by rw [← hW2]; exact KeepsWalks.putObj _ hL3 rfl)
  have hv2 : W2.heap[Bs]? = some (.cells #[v] 33 (0, 0)) := by rw [← hW2]; exact (World.putObj_heap_other hBl).trans hv3
  have hx2 : W2.heap[Bx]? = some (.cells #[.int .i64 c, .string s] 32 (0, 0)) := by rw [← hW2]; exact (World.putObj_heap_other hxl).trans hx3
  have hK2 : W2.heap[D]? = some (.deferred (some [])) := by rw [← hW2]; exact (World.putObj_heap_other hDl).trans hK3
  have hL2 : W2.heap[l]? = some (.loop { apRecK fn sv Bs D .ready none with state := .busy }) := by rw [← hW2]; exact World.putObj_heap_same hl
  have hrow2 : W2.ownsRow w0.heap.size 32 2 v ss.length (ss.flatMap cellsK) := hrow3.kept hg2 (ownsRow_ne_a hrow3 hL3 (fun cur e => by cases e))
  have hb2 : Below w0.heap.size w0 W2 := hb3.grown hg2 hb3.size (fun k e => by cases e; exact h0l)
  clear hW2 hg2 hk3 hv3 hx3 hK3 hL3 hrow3 hb3 hl
  refine ⟨W2, hbr, ?_⟩
  clear hbr W3
  have hx0 : W2.cell? ⟨Bx, 0, none⟩ = some (.int .i64 c) := by rw [cell_blk hx2]; rfl
  have hx1 : W2.cell? ⟨Bx, 1, none⟩ = some (.string s) := by rw [cell_blk hx2]; rfl
  have hc2 : W2.cell? ⟨Bs, 0, none⟩ = some v := (cell_of_box_a hv2).1
  clear hx2
  unfold apBodyK
  have hBlt : Bs < W2.heap.size := lt_of_heap hv2
  have hl2 : l < W2.heap.size := lt_of_heap hL2
  have hDlt : D < W2.heap.size := lt_of_heap hK2
  gi_wp2_with (first
    | (gi_at_builtin; refine wpListIn_append_own _ rfl _ _ 33 rfl w0.heap.size 32 i0 _ 2 24 Try.underlying33 hi hz0 hz1 hz2 rfl (by decide) _ _ _ rfl (hrow2.alloc _) ⟨W2.heap.size, 0, none⟩ 1 1 [.int .i64 c, .string s] rfl rfl (cell_two_new _ _ _ _) (by simp [Value.oneCell']) (by omega) (by omega) (by have := hb2.size; simp; omega) ?_; intro v' w3 hown' hg3 hnil3
       have hv3 : w3.heap[Bs]? = some (.cells #[v] 33 (0, 0)) := (hg3.block Bs (by simp; omega) (ne_of hrow2 hv2 (fun cur e => by first | cases e | exact hne (Obj.cells.inj e).2.1))).trans ((Below.heap_alloc _ _ Bs hBlt).trans hv2)
       obtain ⟨hc3, hf3⟩ := cell_of_box_a hv3
       obtain ⟨g', cap', cur', rfl, hbase', hgb', hr1, hr2, hr3, hr4⟩ : ∃ g' cap' cur', v' = .slice (some ⟨g', 0, none⟩) (ss.length + 1) cap' ∧ w0.heap.size ≤ g' ∧ w3.heap[g']? = some (.cells cur' 32 (0, 0)) ∧ ss.length + 1 ≤ cap' ∧ cap' ≤ maxLen ∧ cur'.size = cap' * 2 ∧ cur'.toList.take ((ss.length + 1) * 2) = ss.flatMap cellsK ++ [.int .i64 c, .string s] := by
         rcases hown'.2 with ⟨_, h0⟩ | h'
         · exact absurd h0 (by omega)
         · exact h'
       go_frame)
    | gi_round_op_a)
  have hg3' : (W2.alloc (.cells #[.int .i64 c, .string s] 32)).grownBy w3 v.ownBlock := hg3
  have hL3 : w3.heap[l]? = some (.loop { apRecK fn sv Bs D .ready none with state := .busy }) := (hg3'.block l (by simp; omega) (ne_of hrow2 hL2 (fun cur e => by cases e))).trans ((Below.heap_alloc _ _ l hl2).trans hL2)
  have hK3 : w3.heap[D]? = some (.deferred (some [])) := (hg3'.block D (by simp; omega) (ne_of hrow2 hK2 (fun cur e => by cases e))).trans ((Below.heap_alloc _ _ D hDlt).trans hK2)
  obtain ⟨w4, hw4⟩ : ∃ w4, w3.setCell ⟨Bs, 0, none⟩ (.slice (some ⟨g', 0, none⟩) (ss.length + 1) cap') = w4 := ⟨_, rfl⟩
  rw [hw4]
  have hg4 : w3.grownBy w4 (some Bs) := by rw [← hw4]; exact grownBy_setCell0_a _ _ _
  have hv4 : w4.heap[Bs]? = some (.cells #[.slice (some ⟨g', 0, none⟩) (ss.length + 1) cap'] 33 (0, 0)) := by rw [← hw4]; exact heap_setCell_box_a _ hv3
  have hL4 : w4.heap[l]? = some (.loop { apRecK fn sv Bs D .ready none with state := .busy }) := (hg4.block l (Array.getElem?_eq_some_iff.1 hL3).1 (fun e => hBl (by cases e; rfl))).trans hL3
  have hK4 : w4.heap[D]? = some (.deferred (some [])) := (hg4.block D (Array.getElem?_eq_some_iff.1 hK3).1 (fun e => hDB (by cases e; rfl))).trans hK3
  have hrow4 := hown'.kept hg4 (ownsRow_ne_a hown' hv3 (fun cur e => by first | cases e | exact hne (Obj.cells.inj e).2.1))
  have hl4 : l < w4.heap.size := (Array.getElem?_eq_some_iff.1 hL4).1
  have hb3 : Below w0.heap.size w0 w3 := (hb2.alloc hb2.size _).grown hg3' (by have := hb2.size; simp; omega) (fun k e => (hrow2.lt k e).1)
  have hb4 : Below w0.heap.size w0 w4 := hb3.grown hg4 hb3.size (fun k e => by cases e; exact h0B)
  have hk4 : KeepsWalks W w4 := ((hk2.trans (KeepsWalks.alloc _ _)).trans (KeepsWalks.of_grownBy hg3' (ownsRow_not_walk_a (hrow2.alloc _)))).trans (by rw [← hw4]; exact KeepsWalks.setCell _ _ _)
  clear hw4
  refine ⟨_, _, run_endRound none hL4, rfl, ⟨⟨_, (World.putObj_heap_other hBl).trans hv4, ?_, by simp⟩, World.putObj_heap_same hl4, (World.putObj_heap_other hDl).trans hK4, hb4.grown (grownBy_putObj_a _ _ _) hb4.size (fun k e => by cases e; exact h0l)⟩, hk4.trans (KeepsWalks.putObj _ hL4 rfl)⟩
  have := hrow4.kept (grownBy_putObj_a w4 l (.loop { { apRecK fn sv Bs D .ready none with state := .busy } with state := if (none : Option Code).isNone then .ready else .done, pending := none })) (ownsRow_ne_a hrow4 hL4 (fun cur e => by cases e))
  simpa [hcx] using this

set_option maxRecDepth 100000 in
set_option maxHeartbeats 4000000 in
theorem appendSeqK_in (F : Fence) (n : Nat) (h11 : F.fn 28) (hro : F.round = none) (hn : 2 ≤ n) (g : Nat) (lb : Array Value) (hFg : F.fn g) (eg : ∀ args w, (callFunc g args).run Try.prog w = .ok (.enter g args) w)
    (S : List GKey → Prop) (N : Nat) (hN : N ≤ maxLen) (hNb : N * 24 ≤ 140737488355328) (w : World) (hseq : SeqGives F (n - 1) Try.prog g lb encK S N w) :
    CallsIn F n Try.prog 28 #[.slice none 0 0, .func (.func g) #[] lb] w fun e w' => ∃ (v : Value) (ss : List GKey), e = .returned v ∧ S ss ∧ w'.ownsRow w.heap.size 32 2 v ss.length (ss.flatMap cellsK) ∧ (v = .slice none 0 0 ↔ ss = []) ∧ Below w.heap.size w w' := by
  have h1 : 1 ≤ n := by omega
  have hne : (33 : Nat) ≠ 32 := by decide
  refine callsIn_of_wp_marks Try.func28 rfl h11 ?_ hro
  simp only [Try.ntmps28, List.size_toArray, List.length_cons, List.length_nil, Nat.reduceAdd, Nat.reduceSub, Array.replicate_succ, Array.replicate_zero, List.push_toArray, List.append_toArray, List.nil_append, List.cons_append]
  gi_wp2
  refine wpIn_rangeFunc ?_
  intro fn hfn
  rw [hro]
  obtain ⟨W0, hW0⟩ : ∃ W0, w.alloc (.cells #[.slice none 0 0] 33) = W0 := ⟨_, rfl⟩
  have hs0 : W0.heap.size = w.heap.size + 1 := by rw [← hW0]; simp
  have hv0 : W0.heap[w.heap.size]? = some (.cells #[.slice none 0 0] 33 (0, 0)) := by rw [← hW0]; exact World.alloc_heap_new w _
  have hb0 : Below w.heap.size w W0 := by rw [← hW0]; exact (Below.refl _ w).alloc (Nat.le_refl _) _
  rw [hW0]
  obtain ⟨W1, hW1⟩ : ∃ W1, (W0.alloc (.deferred (some []))).alloc (.loop (apRecK fn (.func (.func g) #[] lb) w.heap.size W0.heap.size .ready none)) = W1 := ⟨_, rfl⟩
  have hold : ∀ k, k < W0.heap.size → W1.heap[k]? = W0.heap[k]? := fun k hk => by
    rw [← hW1]; exact (Below.heap_alloc _ _ k (by simp; omega)).trans (Below.heap_alloc _ _ k hk)
  have hb1 : Below w.heap.size w W1 := by rw [← hW1]; exact (hb0.alloc hb0.size _).alloc (by have := hb0.size; simp; omega) _
  have hs1 : W1.heap.size = W0.heap.size + 2 := by rw [← hW1]; simp
  have hM : ApAtK w fn (.func (.func g) #[] lb) w.heap.size (W0.heap.size + 1) W0.heap.size [] W1 :=
    ⟨⟨_, (hold w.heap.size (by omega)).trans hv0, ⟨rfl, .inl ⟨rfl, rfl⟩⟩, by simp⟩,
     by rw [← hW1]; have := World.alloc_heap_new (W0.alloc (.deferred (some []))) (.loop (apRecK fn (.func (.func g) #[] lb) w.heap.size W0.heap.size .ready none)); rwa [World.size_alloc] at this,
     by rw [← hW1]; exact (Below.heap_alloc _ _ _ (by simp)).trans (World.alloc_heap_new W0 _), hb1⟩
  refine ⟨W0.heap.size + 1, [{ target := .collected W0.heap.size, args := #[] }], W1, { target := .fn (.func g) lb, args := #[.func (.yield (W0.heap.size + 1)) #[] #[]] }, W1, g,
    #[.func (.yield (W0.heap.size + 1)) #[] #[]] ++ lb, W1, ?_, ?_, ?_, ?_, fun _ => h1, ?_⟩
  · rw [← hW1]; exact run_enterLoop_outer _ _ _ _ _
  · simp [resolve, go_sem]
  · intro f' hf'; simp [Target.leads] at hf'; subst hf'; exact hFg
  · simp [invoke, go_sem, eg]
  · refine (hseq (W0.heap.size + 1) (ApAtK w fn (.func (.func g) #[] lb) w.heap.size (W0.heap.size + 1) W0.heap.size) W1 hb1 (ap_abidesK _ _ _ _ _ _ _ hb1.size)
      (fun pre x W hJ hl => apYieldK F (n - 1 - 1) w fn hfn _ w.heap.size (W0.heap.size + 1) W0.heap.size (by omega) (by omega) (by omega) (Nat.le_refl _) (by omega) N hN hNb pre x W hJ hl) hM).mono ?_
    rintro e W2 ⟨⟨v0, rfl⟩, ss, hS, h2⟩
    obtain ⟨v, hv, hrow, hnil⟩ := h2.box
    have hend := run_endLoop (P := Try.prog) h2.L (by simp [apRecK])
    obtain ⟨W3, hW3⟩ : ∃ W3, W2.putObj (W0.heap.size + 1) (.loop { apRecK fn (.func (.func g) #[] lb) w.heap.size W0.heap.size .ready none with state := .exhausted }) = W3 := ⟨_, rfl⟩
    rw [hW3] at hend
    have hg3 : W2.grownBy W3 (some (W0.heap.size + 1)) := by rw [← hW3]; exact grownBy_putObj_a _ _ _
    have hv3 : W3.heap[w.heap.size]? = some (.cells #[v] 33 (0, 0)) := by rw [← hW3]; exact (World.putObj_heap_other (by omega)).trans hv
    have hK3 : W3.heap[W0.heap.size]? = some (.deferred (some [])) := by rw [← hW3]; exact (World.putObj_heap_other (by omega)).trans h2.K
    have hrow3 := hrow.kept hg3 (ownsRow_ne_a hrow h2.L (fun cur e => by cases e))
    have hb3 : Below w.heap.size w W3 := h2.below.grown hg3 h2.below.size (fun k e => by cases e; omega)
    obtain ⟨hc3, hf3⟩ := cell_of_box_a hv3
    clear hW3
    refine ⟨none, W3, hend, ?_⟩
    gi_wp2
    rw [← hs0]
    refine ⟨by simp, .inl ⟨_, _, rfl, run_takeDeferred hK3, ?_⟩⟩
    exact ⟨_, results_tmp rfl _ _ _, v, ss, rfl, hS, hrow3.kept (grownBy_putObj_a _ _ _) (ownsRow_ne_a hrow3 hK3 (fun cur e => by cases e)), hnil, hb3.grown (grownBy_putObj_a _ _ _) hb3.size (fun k e => by cases e; omega)⟩
end Go.Proofs.Ytepnbfpclhincaa

namespace Go.Proofs.Ytepnbfpclhincaa
open Go.RowKit Go.Maps Go.Shelf

theorem underMapI : Try.prog.underlying 53 = some (.map 3 4) := by kernel_rfl

set_option maxRecDepth 100000 in
set_option maxHeartbeats 2000000 in
/-- The iterator over a set of numbers. -/
theorem keysI_in (F : Fence) (n : Nat) (hf : F.fn 27) (hro : F.round = none) (hn : 1 ≤ n) (l Bm b : Nat) (L : List Int) (J : List Int → World → Prop)
    (hY : ∀ pre x W, J pre W → pre.length < L.length → YieldAt F (n - 1) Try.prog l #[encI x] W fun e W' => e = .returned (.bool true) ∧ J (pre ++ [x]) W' ∧ KeepsWalks W W')
    (W : World) (hJ : AbidesFrom W.heap.size J) (hm : W.cell? ⟨Bm, 0, none⟩ = some (.map (some b))) (hS : SetAt encI W b L) (h0 : J [] W) :
    CallsIn F n Try.prog 27 #[.func (.yield l) #[] #[], .pointer (some ⟨Bm, 0, none⟩)] W fun e W' => (∃ v, e = .returned v) ∧ ∃ ss : List Int, ss.Perm L ∧ J ss W' := by
  refine callsIn_of_wp Try.func27 rfl hf ?_ hro
  simp only [Try.ntmps27, List.size_toArray, List.length_cons, List.length_nil, Nat.reduceAdd, Nat.reduceSub, Array.replicate_succ, Array.replicate_zero, List.push_toArray, List.append_toArray, List.nil_append, List.cons_append]
  gi_wp2_with (first
    | (gi_at_range; refine wpListIn_range_set rfl _ 53 rfl 3 4 underMapI encI b L rfl hS ?_; intro w0 hI0 hg0 hs0)
    | gi_in)
  go_frame
  have hk0 : KeepsWalks W w0 := KeepsWalks.of_grownBy hg0 (fun j o e _ => by cases e)
  have hJ0 : J [] w0 := hJ [] W w0 none h0 hg0 (fun r e => by cases e)
  clear hm hS h0 hg0 hs0 hk0
  obtain ⟨left0, hl0, HI0⟩ : ∃ left0, left0 = L ∧ ItAt encI w0 b W.heap.size L left0 := ⟨L, rfl, hI0⟩
  gi_loopg [] (L.length) (fun (k : Nat) (wr : World) => ∃ (left : List Int) (ss : List Int), k = left.length ∧ ItAt encI wr b W.heap.size L left ∧ (ss ++ left).Perm L ∧ J ss wr)
  case atStart => exact ⟨L, [], rfl, hI0, by simp, hJ0⟩
  case round =>
    obtain ⟨left, ss, hgk, hI, hP, hJs⟩ := hrel
    gi_wp2_with (first
      | (gi_at_next; refine wpListIn_next_set rfl _ rfl encI b W.heap.size L left rfl hI ?_ ?_)
      | gi_in)
    · intro hl
      subst hl
      gi_wp2
      go_end0
      exact ⟨⟨_, rfl⟩, ss, by simpa using hP, hJs⟩
    · intro x left' w2 hpx hI2 hg2 hs2 hen
      have hws : W.heap.size ≤ w2.heap.size := by have := lt_of_heap hI2.walk.choose_spec.1; omega
      have hJ2 : J ss w2 := hJ ss wr w2 (some W.heap.size) hJs hg2 (fun r e => by cases e; exact ⟨Nat.le_refl _, hI.walk⟩)
      obtain ⟨fn, tmps, assign, body, hy, hR⟩ := hY ss x _ hJ2 (by have := hP.length_eq; have := hpx.length_eq; simp at *; omega)
      clear hg2 hs2
      gi_wp2
      refine hR.mono ?_
      rintro e W3 ⟨rfl, hJ3, hk3⟩
      have hI3 := hI2.of_walks hk3
      gi_wp2
      gi_roundg (left'.length)
      case rel => exact ⟨left', ss ++ [x], rfl, hI3, by rw [List.append_assoc]; exact (List.Perm.append_left ss hpx.symm).trans hP, hJ3⟩
      case measure => have := hpx.length_eq; simp at this; omega
def apAssignI : Code := (Code.region 2 #[{ dst := some 5, op := Op.assign (Operand.tmp 7), type := 3, pos := "iter.go:51", after := #[], guard := none }] false)
def apBodyI : Code := (Code.block 1 (Code.region 3 #[{ dst := some 8, op := Op.load 39 (Operand.tmp 2), type := 39, pos := "iter.go:52", after := #[], guard := none }, { dst := some 9, op := Op.move (Operand.tmp 5), type := 3, pos := "iter.go:52", after := #[], guard := none }, { dst := some 10, op := Op.buildSlice 39 1 #[(0, Operand.tmp 9)], type := 39, pos := "iter.go:52", after := #[{ on := 1, ground := Ground.data }], guard := none }, { dst := some 11, op := Op.call { callee := Callee.builtin Builtin.append, args := #[Operand.tmp 8, Operand.tmp 10], argTypes := #[39, 39] }, type := 39, pos := "iter.go:52", after := #[{ on := 0, ground := Ground.data }, { on := 2, ground := Ground.data }], guard := none }, { dst := none, op := Op.store 39 (Operand.tmp 2) (Operand.tmp 11), type := 0, pos := "iter.go:52", after := #[{ on := 3, ground := Ground.data }, { on := 3, ground := Ground.chain }, { on := 0, ground := Ground.phase }, { on := 1, ground := Ground.phase }, { on := 2, ground := Ground.phase }, { on := 3, ground := Ground.phase }], guard := none }] false))
def apRecI (fn : FuncId) (sv : Value) (Bs D : Nat) (st : LoopState) (pend : Option Code) : Loop :=
  { state := st, pending := pend, fn, tmps := #[.slice none 0 0, sv, .pointer (some ⟨Bs, 0, none⟩), undef, .slice none 0 0, undef, sv, undef, undef, undef, undef, undef, undef], params := #[7], assign := apAssignI, body := apBodyI, defers := D }

structure ApAtI (w0 : World) (fn : FuncId) (sv : Value) (Bs l D : Nat) (ss : List Int) (W : World) : Prop where
  box : ∃ v, W.heap[Bs]? = some (.cells #[v] 39 (0, 0)) ∧ W.ownsRow w0.heap.size 3 1 v ss.length (ss.map encI) ∧ (v = .slice none 0 0 ↔ ss = [])
  L : W.heap[l]? = some (.loop (apRecI fn sv Bs D .ready none))
  K : W.heap[D]? = some (.deferred (some []))
  below : Below w0.heap.size w0 W

theorem ap_abidesI (w0 : World) (fn : FuncId) (sv : Value) (Bs l D B : Nat) (hB : w0.heap.size ≤ B) : AbidesFrom B (ApAtI w0 fn sv Bs l D) := fun s W W' row h hg hrow => by
  have hrow' : ∀ r, row = some r → ∃ o : Obj, W.heap[r]? = some o ∧ o.isWalk = true := fun r e => (hrow r e).2
  obtain ⟨v, hv, hr, hn⟩ := h.box
  exact ⟨⟨v, (grownBy_keeps hg hrow' hv rfl).trans hv, ownsRow_abides_a hr hg hrow', hn⟩, (grownBy_keeps hg hrow' h.L rfl).trans h.L, (grownBy_keeps hg hrow' h.K rfl).trans h.K,
    h.below.grown hg h.below.size (fun k e => Nat.le_trans hB (hrow k e).1)⟩

set_option maxRecDepth 100000 in
set_option maxHeartbeats 4000000 in
theorem apYieldI (F : Fence) (m : Nat) (w0 : World) (fn : FuncId) (hfn : F.fn fn) (sv : Value) (Bs l D : Nat) (hBl : Bs ≠ l) (hDl : D ≠ l) (hDB : D ≠ Bs) (h0B : w0.heap.size ≤ Bs) (h0l : w0.heap.size ≤ l)
    (N : Nat) (hN : N ≤ maxLen) (hNb : N * 8 ≤ 140737488355328) (ss : List Int) (x : Int) (W : World) (h : ApAtI w0 fn sv Bs l D ss W) (hlen : ss.length < N) :
    YieldAt F m Try.prog l #[encI x] W fun e W' => e = .returned (.bool true) ∧ ApAtI w0 fn sv Bs l D (ss ++ [x]) W' ∧ KeepsWalks W W' := by
  have hne : (39 : Nat) ≠ 3 := by decide
  obtain ⟨i0, hi, hz0, hz1, hz2⟩ : ∃ i, Try.prog.info? 3 = some i ∧ i.zero = some (.int .i64 0) ∧ i.size = 1 ∧ i.bytes = 8 := info_parts (by kernel_rfl)
  obtain ⟨v, hv, hrow, _⟩ := h.box
  refine ⟨fn, #[.slice none 0 0, sv, .pointer (some ⟨Bs, 0, none⟩), undef, .slice none 0 0, undef, sv, encI x, undef, undef, undef, undef, undef], apAssignI, apBodyI, by simpa [apRecI] using run_yield (P := Try.prog) (args := #[encI x]) h.L rfl, roundIn_of_wpIn hfn ?_⟩
  unfold encI
  have ne_of : ∀ {w' : World} {vv : Value} {k : Nat} {xs : List Value} (_ : w'.ownsRow w0.heap.size 3 1 vv k xs) {j : Nat} {o : Obj} (_ : w'.heap[j]? = some o) (_ : ∀ cur, o ≠ .cells cur 3 (0, 0)), some j ≠ vv.ownBlock := by
    intro w' vv k xs hr j o hj hno
    rcases ownsRow_ne_a hr hj hno with e | e
    · rw [e]; simp
    · exact fun e' => e e'.symm
  unfold apAssignI
  gi_wp2_with gi_round_op_a
  have hv3 := hv
  have hK3 := h.K
  have hL3 := h.L
  have hrow3 := hrow
  have hb3 := h.below
  have hk3 : KeepsWalks W W := KeepsWalks.refl W
  clear h hrow hv
  have hl : l < W.heap.size := lt_of_heap hL3
  have hbr := run_beginRound (P := Try.prog) hL3 rfl
  obtain ⟨W2, hW2⟩ : ∃ W2, W.putObj l (.loop { apRecI fn sv Bs D .ready none with state := .busy }) = W2 := ⟨_, rfl⟩
  rw [hW2] at hbr
  have hg2 : W.grownBy W2 (some l) := by rw [← hW2]; exact grownBy_putObj_a _ _ _
  have hk2 : KeepsWalks W W2 := hk3.trans (by rw [← hW2]; exact KeepsWalks.putObj _ hL3 rfl)
  have hv2 : W2.heap[Bs]? = some (.cells #[v] 39 (0, 0)) := by rw [← hW2]; exact (World.putObj_heap_other hBl).trans hv3
  have hK2 : W2.heap[D]? = some (.deferred (some [])) := by rw [← hW2]; exact (World.putObj_heap_other hDl).trans hK3
  have hL2 : W2.heap[l]? = some (.loop { apRecI fn sv Bs D .ready none with state := .busy }) := by rw [← hW2]; exact World.putObj_heap_same hl
  have hrow2 : W2.ownsRow w0.heap.size 3 1 v ss.length (ss.map encI) := hrow3.kept hg2 (ownsRow_ne_a hrow3 hL3 (fun cur e => by cases e))
  have hb2 : Below w0.heap.size w0 W2 := hb3.grown hg2 hb3.size (fun k e => by cases e; exact h0l)
  clear hW2 hg2 hk3 hv3 hK3 hL3 hrow3 hb3 hl
  refine ⟨W2, hbr, ?_⟩
  clear hbr
  have hc2 : W2.cell? ⟨Bs, 0, none⟩ = some v := (cell_of_box_a hv2).1
  unfold apBodyI
  have hBlt : Bs < W2.heap.size := lt_of_heap hv2
  have hl2 : l < W2.heap.size := lt_of_heap hL2
  have hDlt : D < W2.heap.size := lt_of_heap hK2
  gi_wp2_with (first
    | (gi_at_builtin; refine wpListIn_append_own _ rfl _ _ 39 rfl w0.heap.size 3 i0 _ 1 8 Try.underlying39 hi hz0 hz1 hz2 rfl (by decide) _ _ _ rfl (hrow2.alloc _) ⟨W2.heap.size, 0, none⟩ 1 1 [.int .i64 x] rfl rfl (cell_one_new _ _ _) (by simp [Value.oneCell']) (by omega) (by omega) (by have := hb2.size; simp; omega) ?_; intro v' w3 hown' hg3 hnil3
       have hv3 : w3.heap[Bs]? = some (.cells #[v] 39 (0, 0)) := (hg3.block Bs (by simp; omega) (ne_of hrow2 hv2 (fun cur e => by first | cases e | exact hne (Obj.cells.inj e).2.1))).trans ((Below.heap_alloc _ _ Bs hBlt).trans hv2)
       obtain ⟨hc3, hf3⟩ := cell_of_box_a hv3
       obtain ⟨g', cap', cur', rfl, hbase', hgb', hr1, hr2, hr3, hr4⟩ : ∃ g' cap' cur', v' = .slice (some ⟨g', 0, none⟩) (ss.length + 1) cap' ∧ w0.heap.size ≤ g' ∧ w3.heap[g']? = some (.cells cur' 3 (0, 0)) ∧ ss.length + 1 ≤ cap' ∧ cap' ≤ maxLen ∧ cur'.size = cap' * 1 ∧ cur'.toList.take ((ss.length + 1) * 1) = ss.map encI ++ [.int .i64 x] := by
         rcases hown'.2 with ⟨_, h0⟩ | h'
         · exact absurd h0 (by omega)
         · exact h'
       go_frame)
    | gi_round_op_a)
  have hg3' : (W2.alloc (.cells #[.int .i64 x] 3)).grownBy w3 v.ownBlock := hg3
  have hL3 : w3.heap[l]? = some (.loop { apRecI fn sv Bs D .ready none with state := .busy }) := (hg3'.block l (by simp; omega) (ne_of hrow2 hL2 (fun cur e => by cases e))).trans ((Below.heap_alloc _ _ l hl2).trans hL2)
  have hK3 : w3.heap[D]? = some (.deferred (some [])) := (hg3'.block D (by simp; omega) (ne_of hrow2 hK2 (fun cur e => by cases e))).trans ((Below.heap_alloc _ _ D hDlt).trans hK2)
  obtain ⟨w4, hw4⟩ : ∃ w4, w3.setCell ⟨Bs, 0, none⟩ (.slice (some ⟨g', 0, none⟩) (ss.length + 1) cap') = w4 := ⟨_, rfl⟩
  rw [hw4]
  have hg4 : w3.grownBy w4 (some Bs) := by rw [← hw4]; exact grownBy_setCell0_a _ _ _
  have hv4 : w4.heap[Bs]? = some (.cells #[.slice (some ⟨g', 0, none⟩) (ss.length + 1) cap'] 39 (0, 0)) := by rw [← hw4]; exact heap_setCell_box_a _ hv3
  have hL4 : w4.heap[l]? = some (.loop { apRecI fn sv Bs D .ready none with state := .busy }) := (hg4.block l (Array.getElem?_eq_some_iff.1 hL3).1 (fun e => hBl (by cases e; rfl))).trans hL3
  have hK4 : w4.heap[D]? = some (.deferred (some [])) := (hg4.block D (Array.getElem?_eq_some_iff.1 hK3).1 (fun e => hDB (by cases e; rfl))).trans hK3
  have hrow4 := hown'.kept hg4 (ownsRow_ne_a hown' hv3 (fun cur e => by first | cases e | exact hne (Obj.cells.inj e).2.1))
  have hl4 : l < w4.heap.size := (Array.getElem?_eq_some_iff.1 hL4).1
  have hb3 : Below w0.heap.size w0 w3 := (hb2.alloc hb2.size _).grown hg3' (by have := hb2.size; simp; omega) (fun k e => (hrow2.lt k e).1)
  have hb4 : Below w0.heap.size w0 w4 := hb3.grown hg4 hb3.size (fun k e => by cases e; exact h0B)
  have hk4 : KeepsWalks W w4 := ((hk2.trans (KeepsWalks.alloc _ _)).trans (KeepsWalks.of_grownBy hg3' (ownsRow_not_walk_a (hrow2.alloc _)))).trans (by rw [← hw4]; exact KeepsWalks.setCell _ _ _)
  clear hw4
  refine ⟨_, _, run_endRound none hL4, rfl, ⟨⟨_, (World.putObj_heap_other hBl).trans hv4, ?_, by simp⟩, World.putObj_heap_same hl4, (World.putObj_heap_other hDl).trans hK4, hb4.grown (grownBy_putObj_a _ _ _) hb4.size (fun k e => by cases e; exact h0l)⟩, hk4.trans (KeepsWalks.putObj _ hL4 rfl)⟩
  have := hrow4.kept (grownBy_putObj_a w4 l (.loop { { apRecI fn sv Bs D .ready none with state := .busy } with state := if (none : Option Code).isNone then .ready else .done, pending := none })) (ownsRow_ne_a hrow4 hL4 (fun cur e => by cases e))
  simpa [encI] using this

set_option maxRecDepth 100000 in
set_option maxHeartbeats 4000000 in
theorem appendSeqI_in (F : Fence) (n : Nat) (h11 : F.fn 32) (hro : F.round = none) (hn : 2 ≤ n) (g : Nat) (lb : Array Value) (hFg : F.fn g) (eg : ∀ args w, (callFunc g args).run Try.prog w = .ok (.enter g args) w)
    (S : List Int → Prop) (N : Nat) (hN : N ≤ maxLen) (hNb : N * 8 ≤ 140737488355328) (w : World) (hseq : SeqGives F (n - 1) Try.prog g lb encI S N w) :
    CallsIn F n Try.prog 32 #[.slice none 0 0, .func (.func g) #[] lb] w fun e w' => ∃ (v : Value) (ss : List Int), e = .returned v ∧ S ss ∧ w'.ownsRow w.heap.size 3 1 v ss.length (ss.map encI) ∧ (v = .slice none 0 0 ↔ ss = []) ∧ Below w.heap.size w w' := by
  have h1 : 1 ≤ n := by omega
  have hne : (39 : Nat) ≠ 3 := by decide
  refine callsIn_of_wp_marks Try.func32 rfl h11 ?_ hro
  simp only [Try.ntmps32, List.size_toArray, List.length_cons, List.length_nil, Nat.reduceAdd, Nat.reduceSub, Array.replicate_succ, Array.replicate_zero, List.push_toArray, List.append_toArray, List.nil_append, List.cons_append]
  gi_wp2
  refine wpIn_rangeFunc ?_
  intro fn hfn
  rw [hro]
  obtain ⟨W0, hW0⟩ : ∃ W0, w.alloc (.cells #[.slice none 0 0] 39) = W0 := ⟨_, rfl⟩
  have hs0 : W0.heap.size = w.heap.size + 1 := by rw [← hW0]; simp
  have hv0 : W0.heap[w.heap.size]? = some (.cells #[.slice none 0 0] 39 (0, 0)) := by rw [← hW0]; exact World.alloc_heap_new w _
  have hb0 : Below w.heap.size w W0 := by rw [← hW0]; exact (Below.refl _ w).alloc (Nat.le_refl _) _
  rw [hW0]
  obtain ⟨W1, hW1⟩ : ∃ W1, (W0.alloc (.deferred (some []))).alloc (.loop (apRecI fn (.func (.func g) #[] lb) w.heap.size W0.heap.size .ready none)) = W1 := ⟨_, rfl⟩
  have hold : ∀ k, k < W0.heap.size → W1.heap[k]? = W0.heap[k]? := fun k hk => by
    rw [← hW1]; exact (Below.heap_alloc _ _ k (by simp; omega)).trans (Below.heap_alloc _ _ k hk)
  have hb1 : Below w.heap.size w W1 := by rw [← hW1]; exact (hb0.alloc hb0.size _).alloc (by have := hb0.size; simp; omega) _
  have hs1 : W1.heap.size = W0.heap.size + 2 := by rw [← hW1]; simp
  have hM : ApAtI w fn (.func (.func g) #[] lb) w.heap.size (W0.heap.size + 1) W0.heap.size [] W1 :=
    ⟨⟨_, (hold w.heap.size (by omega)).trans hv0, ⟨rfl, .inl ⟨rfl, rfl⟩⟩, by simp⟩,
     by rw [← hW1]; have := World.alloc_heap_new (W0.alloc (.deferred (some []))) (.loop (apRecI fn (.func (.func g) #[] lb) w.heap.size W0.heap.size .ready none)); rwa [World.size_alloc] at this,
     by rw [← hW1]; exact (Below.heap_alloc _ _ _ (by simp)).trans (World.alloc_heap_new W0 _), hb1⟩
  refine ⟨W0.heap.size + 1, [{ target := .collected W0.heap.size, args := #[] }], W1, { target := .fn (.func g) lb, args := #[.func (.yield (W0.heap.size + 1)) #[] #[]] }, W1, g,
    #[.func (.yield (W0.heap.size + 1)) #[] #[]] ++ lb, W1, ?_, ?_, ?_, ?_, fun _ => h1, ?_⟩
  · rw [← hW1]; exact run_enterLoop_outer _ _ _ _ _
  · simp [resolve, go_sem]
  · intro f' hf'; simp [Target.leads] at hf'; subst hf'; exact hFg
  · simp [invoke, go_sem, eg]
  · refine (hseq (W0.heap.size + 1) (ApAtI w fn (.func (.func g) #[] lb) w.heap.size (W0.heap.size + 1) W0.heap.size) W1 hb1 (ap_abidesI _ _ _ _ _ _ _ hb1.size)
      (fun pre x W hJ hl => apYieldI F (n - 1 - 1) w fn hfn _ w.heap.size (W0.heap.size + 1) W0.heap.size (by omega) (by omega) (by omega) (Nat.le_refl _) (by omega) N hN hNb pre x W hJ hl) hM).mono ?_
    rintro e W2 ⟨⟨v0, rfl⟩, ss, hS, h2⟩
    obtain ⟨v, hv, hrow, hnil⟩ := h2.box
    have hend := run_endLoop (P := Try.prog) h2.L (by simp [apRecI])
    obtain ⟨W3, hW3⟩ : ∃ W3, W2.putObj (W0.heap.size + 1) (.loop { apRecI fn (.func (.func g) #[] lb) w.heap.size W0.heap.size .ready none with state := .exhausted }) = W3 := ⟨_, rfl⟩
    rw [hW3] at hend
    have hg3 : W2.grownBy W3 (some (W0.heap.size + 1)) := by rw [← hW3]; exact grownBy_putObj_a _ _ _
    have hv3 : W3.heap[w.heap.size]? = some (.cells #[v] 39 (0, 0)) := by rw [← hW3]; exact (World.putObj_heap_other (by omega)).trans hv
    have hK3 : W3.heap[W0.heap.size]? = some (.deferred (some [])) := by rw [← hW3]; exact (World.putObj_heap_other (by omega)).trans h2.K
    have hrow3 := hrow.kept hg3 (ownsRow_ne_a hrow h2.L (fun cur e => by cases e))
    have hb3 : Below w.heap.size w W3 := h2.below.grown hg3 h2.below.size (fun k e => by cases e; omega)
    obtain ⟨hc3, hf3⟩ := cell_of_box_a hv3
    clear hW3
    refine ⟨none, W3, hend, ?_⟩
    gi_wp2
    rw [← hs0]
    refine ⟨by simp, .inl ⟨_, _, rfl, run_takeDeferred hK3, ?_⟩⟩
    exact ⟨_, results_tmp rfl _ _ _, v, ss, rfl, hS, hrow3.kept (grownBy_putObj_a _ _ _) (ownsRow_ne_a hrow3 hK3 (fun cur e => by cases e)), hnil, hb3.grown (grownBy_putObj_a _ _ _) hb3.size (fun k e => by cases e; omega)⟩
end Go.Proofs.Ytepnbfpclhincaa

namespace Go.Proofs.Ytepnbfpclhincaa
open Go.RowKit Go.Maps Go.Shelf

theorem SetAt.later {α : Type} [DecidableEq α] {enc : α → Value} {w w' : World} {b : Nat} {L : List α} (h : SetAt enc w b L) (hb : Below w.heap.size w w') : SetAt enc w' b L := by
  obtain ⟨es, clock, h1, h2⟩ := h.ex
  exact ⟨es, clock, (hb.block b (lt_of_heap h1)).trans h1, h2⟩

theorem keysK_gives (Bm b : Nat) (L : List GKey) (w : World) (hBm : Bm < w.heap.size) (hm : w.cell? ⟨Bm, 0, none⟩ = some (.map (some b))) (hS : SetAt encK w b L) (n : Nat) (hn : 1 ≤ n) :
    SeqGives Fence.wide n Try.prog 22 #[.pointer (some ⟨Bm, 0, none⟩)] encK (fun ss => ss.Perm L) L.length w := fun l J W hW hJ hY h0 =>
  keysK_in Fence.wide n trivial rfl hn l Bm b L J hY W hJ ((hW.cell (p := ⟨Bm, 0, none⟩) hBm).trans hm) (hS.later hW) h0
theorem keysI_gives (Bm b : Nat) (L : List Int) (w : World) (hBm : Bm < w.heap.size) (hm : w.cell? ⟨Bm, 0, none⟩ = some (.map (some b))) (hS : SetAt encI w b L) (n : Nat) (hn : 1 ≤ n) :
    SeqGives Fence.wide n Try.prog 27 #[.pointer (some ⟨Bm, 0, none⟩)] encI (fun ss => ss.Perm L) L.length w := fun l J W hW hJ hY h0 =>
  keysI_in Fence.wide n trivial rfl hn l Bm b L J hY W hJ ((hW.cell (p := ⟨Bm, 0, none⟩) hBm).trans hm) (hS.later hW) h0

theorem KeysK_any (mb : Option Nat) (w : World) : Calls Try.prog 13 #[.map mb] w fun e w' => e = .returned (.func (.func 22) #[] #[.pointer (some ⟨w.heap.size, 0, none⟩)]) ∧ w' = w.alloc (.cells #[.map mb] 28) := by
  go_enter Try.func13, Try.ntmps13
  go_wp2_with fail
  go_ret
  exact ⟨rfl, rfl⟩
theorem KeysI_any (mb : Option Nat) (w : World) : Calls Try.prog 19 #[.map mb] w fun e w' => e = .returned (.func (.func 27) #[] #[.pointer (some ⟨w.heap.size, 0, none⟩)]) ∧ w' = w.alloc (.cells #[.map mb] 53) := by
  go_enter Try.func19, Try.ntmps19
  go_wp2_with fail
  go_ret
  exact ⟨rfl, rfl⟩

theorem CollectK_any (w : World) (Bm b : Nat) (L : List GKey) (hBm : Bm < w.heap.size) (hm : w.cell? ⟨Bm, 0, none⟩ = some (.map (some b))) (hS : SetAt encK w b L) (hN : L.length ≤ 1000) :
    Calls Try.prog 20 #[.func (.func 22) #[] #[.pointer (some ⟨Bm, 0, none⟩)]] w fun e w' => ∃ (v : Value) (ss : List GKey), e = .returned v ∧ ss.Perm L ∧ w'.ownsRow w.heap.size 32 2 v ss.length (ss.flatMap cellsK) ∧ (v = .slice none 0 0 ↔ ss = []) ∧ Below w.heap.size w w' := by
  have hml : maxLen = 9223372036854775807 := by decide
  have hc := callsIn_wide.1 (appendSeqK_in Fence.wide 3 trivial rfl (by omega) 22 #[.pointer (some ⟨Bm, 0, none⟩)] trivial (enters_of Try.func22 (by kernel_rfl) rfl) _ L.length (by omega) (by omega) w (keysK_gives Bm b L w hBm hm hS _ (by omega)))
  go_enter Try.func20, Try.ntmps20
  go_wp2_with fail
  refine hc.mono ?_
  rintro e w1 ⟨v, ss, rfl, r⟩
  go_wp2_with fail
  go_ret
  exact ⟨v, ss, rfl, r⟩
theorem CollectI_any (w : World) (Bm b : Nat) (L : List Int) (hBm : Bm < w.heap.size) (hm : w.cell? ⟨Bm, 0, none⟩ = some (.map (some b))) (hS : SetAt encI w b L) (hN : L.length ≤ 1000) :
    Calls Try.prog 25 #[.func (.func 27) #[] #[.pointer (some ⟨Bm, 0, none⟩)]] w fun e w' => ∃ (v : Value) (ss : List Int), e = .returned v ∧ ss.Perm L ∧ w'.ownsRow w.heap.size 3 1 v ss.length (ss.map encI) ∧ (v = .slice none 0 0 ↔ ss = []) ∧ Below w.heap.size w w' := by
  have hml : maxLen = 9223372036854775807 := by decide
  have hc := callsIn_wide.1 (appendSeqI_in Fence.wide 3 trivial rfl (by omega) 27 #[.pointer (some ⟨Bm, 0, none⟩)] trivial (enters_of Try.func27 (by kernel_rfl) rfl) _ L.length (by omega) (by omega) w (keysI_gives Bm b L w hBm hm hS _ (by omega)))
  go_enter Try.func25, Try.ntmps25
  go_wp2_with fail
  refine hc.mono ?_
  rintro e w1 ⟨v, ss, rfl, r⟩
  go_wp2_with fail
  go_ret
  exact ⟨v, ss, rfl, r⟩
end Go.Proofs.Ytepnbfpclhincaa
