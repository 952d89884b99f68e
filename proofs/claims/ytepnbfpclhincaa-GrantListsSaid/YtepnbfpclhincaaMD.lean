/-
  A queue of numbers: a slice at any place of its row.
  grant.Reach on three edges.
  grant.New.
  wakes, of the grants' law.
-/
import Derived.Test.YtepnbfpclhincaaMC
import Derived.ArgAppend
import Derived.Laws.AppendOwn
import Derived.Laws.OwnMore
import Derived.Deep.LoopGhost
import Derived.Carry
set_option linter.unusedVariables false
set_option linter.unusedSimpArgs false
namespace Go.Proofs.Ytepnbfpclhincaa
open Go.RowKit

structure QAt (w : World) (base g : Nat) (v : Value) (q : List Int) : Prop where
  ex : ∃ off cap cur, v = .slice (some ⟨g, off, none⟩) q.length cap ∧ base ≤ g ∧ w.heap[g]? = some (.cells cur 3 (0, 0)) ∧ q.length ≤ cap ∧ cap ≤ maxLen ∧ off + cap ≤ cur.size ∧ ∀ i x, q[i]? = some x → cur[off + i]? = some (.int .i64 x)
theorem QAt.kept {w w' : World} {base g : Nat} {v : Value} {q : List Int} (h : QAt w base g v q) (hb : w'.heap[g]? = w.heap[g]?) : QAt w' base g v q := by
  obtain ⟨off, cap, cur, h1, h2, h3, h4⟩ := h.ex
  exact ⟨off, cap, cur, h1, h2, hb.trans h3, h4⟩
theorem QAt.lt {w : World} {base g : Nat} {v : Value} {q : List Int} (h : QAt w base g v q) : g < w.heap.size := by
  obtain ⟨off, cap, cur, h1, h2, h3, h4⟩ := h.ex
  exact lt_of_heap h3

theorem QAt.append {w : World} {base g : Nat} {v : Value} {q : List Int} (h : QAt w base g v q) (hq : q.length ≤ 1000) (hbase : base ≤ w.heap.size) (ty : TypeId) (a : Addr) (c : Nat) (y : Int) (hy : w.cell? a = some (.int .i64 y)) :
    ∃ g' v' w', (Builtin.append_ #[39, 39] ty #[v, .slice (some a) 1 c]).run Try.prog w = .ok v' w' ∧ QAt w' base g' v' (q ++ [y]) ∧ w.grownBy w' (some g) := by
  have hml : maxLen = 9223372036854775807 := by decide
  obtain ⟨i0, hi, hz0, hz1, hz2⟩ : ∃ i, Try.prog.info? 3 = some i ∧ i.zero = some (.int .i64 0) ∧ i.size = 1 ∧ i.bytes = 8 := info_parts (by kernel_rfl)
  have ht := Try.underlying39
  obtain ⟨off, cap, cur, rfl, hbg, hb, hle, hcm, hsz, hc⟩ := h.ex
  have hnews : ∀ j u, [Value.int .i64 y][j]? = some u → w.cell? (a.add j) = some u := by
    intro j u hj
    rcases j with _ | j
    · simp at hj; subst hj; simpa [Addr.add] using hy
    · simp at hj
  by_cases hroom : q.length + 1 ≤ cap
  · have hf := run_firstCells_some (P := Try.prog) w i0.size 1 a 1 c [.int .i64 y] (by rw [hz1]; rfl) hnews
    have hst := run_storeCells_at Try.prog g (off + q.length) 3 [.int .i64 y] 0 cur w hb (by simp; omega) (by simp [Value.oneCell'])
    simp only [Nat.add_zero] at hst
    have hrun : (Builtin.append_ #[39, 39] ty #[.slice (some ⟨g, off, none⟩) q.length cap, .slice (some a) 1 c]).run Try.prog w = .ok (.slice (some ⟨g, off, none⟩) (q.length + 1) cap) (w.setRow g (cur.toList.take (off + q.length) ++ [Value.int .i64 y] ++ cur.toList.drop (off + q.length + 1)).toArray) := by
      rw [hz1] at hf
      simp only [List.length_singleton] at hst
      simp [Builtin.append_, run_underlying ht, sizeOf, typeInfo, hi, Builtin.lenOf, hroom, hf, Addr.add_lit, hst, hz1]
    have hnew : (cur.toList.take (off + q.length) ++ [Value.int .i64 y] ++ cur.toList.drop (off + q.length + 1)).toArray = cur.setIfInBounds (off + q.length) (.int .i64 y) := by
      apply Array.ext'
      rw [Array.toList_setIfInBounds]
      rw [List.set_eq_take_append_cons_drop, if_pos (by have : cur.toList.length = cur.size := Array.length_toList; omega)]
      simp
    rw [hnew] at hrun
    refine ⟨g, _, _, hrun, ?_, ?_⟩
    · refine ⟨off, cap, cur.setIfInBounds (off + q.length) (.int .i64 y), by simp, hbg, ?_, by simpa using hroom, hcm, by simpa using hsz, ?_⟩
      · have hgl := lt_of_heap hb
        have := (Array.getElem?_eq_some_iff.1 hb).2
        simp [World.setRow, Array.getElem?_modify, hb]
      · intro i x hx
        by_cases hi' : i < q.length
        · rw [List.getElem?_append_left hi'] at hx
          rw [Array.getElem?_setIfInBounds_ne (by omega)]
          exact hc i x hx
        · rw [List.getElem?_append_right (by omega)] at hx
          have : i = q.length := by
            have := (List.getElem?_eq_some_iff.1 hx).1
            simp at this; omega
          subst this
          simp at hx; subst hx
          rw [Array.getElem?_setIfInBounds_self_of_lt (by omega)]
    · refine ⟨rfl, rfl, rfl, by simp [World.setRow], fun k hk hne => ?_⟩
      have : g ≠ k := fun e => hne (by rw [e])
      simp [World.setRow, Array.getElem?_modify, this]
  · have hcap : Builtin.nextslicecap (q.length + 1) cap * i0.bytes ≤ 281474976710656 := by
      have := nextslicecap_le (need := q.length + 1) (old := cap) (by omega)
      rw [hz2]; omega
    have hrun := run_append_grow (P := Try.prog) w 39 ty 3 i0 (.int .i64 0) ht hi hz0 ⟨g, off, none⟩ q.length cap (q.map encI) (by simp [hz1]) (by
      intro j u hj
      rw [List.getElem?_map] at hj
      obtain ⟨x, hx, rfl⟩ := Option.map_eq_some_iff.1 hj
      have := hc j x hx
      rw [← cell_blk hb (off + j)] at this
      have e : (⟨g, off, none⟩ : Addr).add j = ⟨g, off + j, none⟩ := by
        cases j <;> simp [Addr.add]
      rw [e]; exact this) a 1 c [.int .i64 y] (by rw [hz1]; rfl) hnews (by omega) (by omega) hcap
    have hge := grownCap_ge w (q.length + 1) cap 3
    have hle2 := grownCap_le_maxLen w (q.length + 1) cap 3 (by omega)
    refine ⟨_, _, _, hrun, ⟨0, _, _, by simp, hbase, heap_alloc_new _ _, by simpa using hge, hle2, ?_, ?_⟩, ?_⟩
    · simp [Value.cells, Builtin.zeroCells]; omega
    · intro i x hx
      rw [Nat.zero_add]
      rw [Array.getElem?_append_left (by have := (List.getElem?_eq_some_iff.1 hx).1; simp at this ⊢; omega)]
      rw [List.append_toArray, List.getElem?_toArray]
      have : q.map encI ++ [Value.int .i64 y] = (q ++ [y]).map encI := by simp [encI]
      rw [this, List.getElem?_map, hx]
      rfl
    · exact ⟨rfl, rfl, rfl, by simp, fun k hk _ => heap_alloc_lt w.drew _ k hk⟩

theorem wpList_append_q {ops : Array Oper} {rest : List Oper} {o : Oper} {a : Act} {Q : Exit → Act → World → Prop} {w : World} (hgd : o.guard = none) (s x : Operand)
    (ho : o.op = .call { callee := .builtin .append, args := #[s, x], argTypes := #[39, 39] })
    {base g : Nat} {v : Value} {q : List Int} (hs : a.eval s = v) (h : QAt w base g v q) (hq : q.length ≤ 1000) (hbase : base ≤ w.heap.size) (ad : Addr) (c : Nat) (y : Int) (hx : a.eval x = .slice (some ad) 1 c) (hy : w.cell? ad = some (.int .i64 y))
    (hK : ∀ g' v' w', QAt w' base g' v' (q ++ [y]) → w.grownBy w' (some g) → wpList Try.prog ops Q rest (a.put o.dst v') w') : wpList Try.prog ops Q (o :: rest) a w := by
  refine wpList_plain hgd fun K hK' => ?_
  obtain ⟨g', v', w', hrun, r1, r2⟩ := h.append hq hbase o.type ad c y hy
  unfold Oper.wp
  simp [execOp, ho, resolve, invoke, builtin, hs, hx, hrun, Result.andThen]
  exact hK' _ _ (hK g' v' w' r1 r2)
end Go.Proofs.Ytepnbfpclhincaa

namespace Go.Proofs.Ytepnbfpclhincaa
open Go.RowKit

def nextsOf (n : Int) : List (Int × Int) → List Int
  | [] => []
  | (a, b) :: E => (if a = n then [b] else []) ++ (if b = n then [a] else []) ++ nextsOf n E
def finR (E : List (Int × Int)) : Nat → List Int → List Int → Option (List Int)
  | _, m, [] => some m
  | 0, _, _ :: _ => none
  | k + 1, m, n :: q => if n ∈ m then finR E k m q else finR E k (m ++ [n]) (q ++ nextsOf n E)
def E3 : List (Int × Int) := [(2, 1), (3, 4), (4, 2)]
theorem fin_start : finR E3 7 [] [1] = some [1, 2, 4, 3] := by decide

def pairOf (n a b : Int) : List Int := (if a = n then [b] else []) ++ (if b = n then [a] else [])
theorem pairOf_len (n a b : Int) : (pairOf n a b).length ≤ 2 := by
  unfold pairOf; split <;> split <;> simp
theorem nextsOf_snoc (n a b : Int) : ∀ E, nextsOf n (E ++ [(a, b)]) = nextsOf n E ++ pairOf n a b
  | [] => by simp [nextsOf, pairOf]
  | (c, d) :: E => by
    show _ ++ _ ++ nextsOf n (E ++ [(a, b)]) = _
    rw [nextsOf_snoc n a b E]
    simp [nextsOf]
theorem nextsOf_len (n : Int) : ∀ E : List (Int × Int), (nextsOf n E).length ≤ 2 * E.length
  | [] => by simp [nextsOf]
  | (a, b) :: E => by
    have := nextsOf_len n E
    have h := pairOf_len n a b
    show ((_ ++ _) ++ nextsOf n E).length ≤ _
    rw [List.length_append]
    have e : ((if a = n then [b] else []) ++ (if b = n then [a] else [])).length ≤ 2 := h
    simp only [List.length_cons]
    omega
theorem E3_take (j : Nat) (hj : j < 3) : ∃ a b, E3[j]? = some (a, b) ∧ E3.take (j + 1) = E3.take j ++ [(a, b)] := by
  match j, hj with
  | 0, _ => exact ⟨_, _, rfl, rfl⟩
  | 1, _ => exact ⟨_, _, rfl, rfl⟩
  | 2, _ => exact ⟨_, _, rfl, rfl⟩

set_option maxRecDepth 100000 in
set_option maxHeartbeats 4000000 in
theorem Reach_any (w : World) (ge : Nat) (hE : w.heap[ge]? = some (.cells #[.int .i64 2, .int .i64 1, .int .i64 3, .int .i64 4, .int .i64 4, .int .i64 2] 42 (0, 0))) :
    Calls Try.prog 10 #[.int .i64 1, .slice (some ⟨ge, 0, none⟩) 3 3] w fun e w' => ∃ g cap, e = .returned (.slice (some ⟨g, 0, none⟩) 4 cap) ∧ Keeps [] w w' := by
  have hgl := lt_of_heap hE
  have HC : Hid (∀ j a b, E3[j]? = some (a, b) → ∀ w', Keeps [] w w' → w'.cell? ⟨ge, j * 2, none⟩ = some (.int .i64 a) ∧ w'.cell? ⟨ge, j * 2 + 1, none⟩ = some (.int .i64 b)) := by
    intro j a b hj w' hk
    have hE' := hk.heap hE (by simp)
    rw [cell_blk hE', cell_blk hE']
    match j, hj with
    | 0, hj => cases hj; exact ⟨rfl, rfl⟩
    | 1, hj => cases hj; exact ⟨rfl, rfl⟩
    | 2, hj => cases hj; exact ⟨rfl, rfl⟩
    | (j + 3), hj => simp [E3] at hj
  clear hE hgl
  have hmk := run_makeMap (P := Try.prog) 53 w
  go_enter Try.func10, Try.ntmps10
  go_wp2_with fail
  clear hmk
  obtain ⟨w0, hw0⟩ : ∃ w0, (w.alloc (.map #[] 0)).alloc (.cells #[.int .i64 1] 3) = w0 := ⟨_, rfl⟩
  have hsz : w0.heap.size = w.heap.size + 2 := by rw [← hw0]; simp
  have hk0 : Keeps [] w w0 := by rw [← hw0]; exact ((Keeps.refl [] w).alloc _).alloc _
  have hm0 : SetAt encI w0 w.heap.size [] := by
    refine ⟨#[], 0, ?_, rfl, by simp, by simp, by simp⟩
    rw [← hw0]; exact (heap_alloc_lt _ _ _ (by simp)).trans (heap_alloc_new _ _)
  have hq0 : QAt w0 w.heap.size (w.heap.size + 1) (.slice (some ⟨w.heap.size + 1, 0, none⟩) 1 1) [1] := by
    refine ⟨0, 1, #[.int .i64 1], rfl, by omega, ?_, by simp, by decide, by simp, ?_⟩
    · rw [← hw0, ← size_alloc w (.map #[] 0)]; exact heap_alloc_new _ _
    · intro i x hx
      rcases i with _ | i
      · simp at hx; subst hx; rfl
      · simp at hx
  rw [hw0]
  clear hw0
  clear hsz
  obtain ⟨mb, hmb⟩ : ∃ mb, w.heap.size = mb := ⟨_, rfl⟩
  have HMB := Lib.hid hmb
  rw [hmb] at hq0 hm0 ⊢
  clear hmb
  go_loopg [6] 7 (fun (k : Nat) (u : Value) (wr : World) => ∃ (m q : List Int) (g : Nat), QAt wr mb g u q ∧ SetAt encI wr mb m ∧ finR E3 k m q = some [1, 2, 4, 3] ∧ Keeps [] w wr ∧ q.length + 6 * k ≤ 100)
  case atStart => exact ⟨[], [1], _, hq0, hm0, fin_start, hk0, by simp⟩
  case round =>
    clear hq0 hm0 hk0
    obtain ⟨m, q, g, hq, hm, hf, hk, hb⟩ := hrel
    obtain ⟨off, cap, cur, rfl, hq1, hq2, hq3, hq4, hq5, hq6⟩ := hq.ex
    cases q with
    | nil =>
      have hme : m = [1, 2, 4, 3] := by cases gk <;> simpa [finR] using hf
      subst hme
      have c1 := KeysI_any (some mb) wr
      have c2 := SortedI_any (wr.alloc (.cells #[.map (some mb)] 53)) wr.heap.size mb [1, 2, 4, 3] (by simp) (by rw [cell_blk (heap_alloc_new wr _)]; rfl) (SetAt.later hm ((Keeps.refl [] wr).alloc _).below) (by simp) (by simp)
      have HK : Hid (Keeps [] w (wr.alloc (.cells #[.map (some mb)] 53))) := hk.alloc _
      simp only [List.length_cons, List.length_nil, Nat.reduceAdd] at c2
      clear hq hm hf hk hb hq1 hq2 hq3 hq4 hq5 hq6
      go_wp2_with (first
        | (go_at_call 19; refine c1.mono ?_; rintro e w' ⟨rfl, rfl⟩)
        | (go_at_call 18; refine c2.mono ?_; rintro e w' ⟨g', cap', rfl, r⟩))
      go_ret
      exact ⟨g', cap', rfl, HK.out.trans r⟩
    | cons n q =>
      have hn0 : wr.cell? ⟨g, off, none⟩ = some (.int .i64 n) := by
        have := hq6 0 n rfl
        rw [← cell_blk hq2] at this; simpa using this
      cases gk with
      | zero => simp [finR] at hf
      | succ gr =>
      have hgm : g ≠ mb := fun e => by
        obtain ⟨es, clock, h1, -⟩ := hm.ex
        rw [← e, hq2] at h1; cases h1
      have hlk : (Instr.lookup 53 (.map (some mb)) (.int .i64 n) false).run Try.prog wr = .ok (.bool (memB n m)) wr := hm.lookup keyI underMapI (zeroB _) n
      have hc1 : 1 ≤ cap := by simp at hq3; omega
      have hql : q.length + 1 ≤ cap := by simpa using hq3
      have hQ' : ∃ o', (cap = 1 → o' = off) ∧ (¬ cap = 1 → o' = off + 1) ∧ QAt wr mb g (.slice (some ⟨g, o', none⟩) q.length (cap - 1)) q := by
        by_cases h1 : cap = 1
        · have : q = [] := List.eq_nil_of_length_eq_zero (by omega)
          subst this
          exact ⟨off, fun _ => rfl, fun h => absurd h1 h, off, cap - 1, cur, rfl, hq1, hq2, by simp, by omega, by omega, by simp⟩
        · refine ⟨off + 1, fun h => absurd h h1, fun _ => rfl, off + 1, cap - 1, cur, rfl, hq1, hq2, by omega, by omega, by omega, ?_⟩
          intro i x hx
          have := hq6 (i + 1) x (by simpa using hx)
          rw [← this]; congr 1; omega
      have HQQ : Hid ((cap = 1 → QAt wr mb g (.slice (some ⟨g, off, none⟩) q.length 0) q) ∧ (¬ cap = 1 → QAt wr mb g (.slice (some ⟨g, off + 1, none⟩) q.length (cap - 1)) q)) := by
        obtain ⟨o', ho1, ho2, hQ'⟩ := hQ'
        exact ⟨fun h => by rw [← ho1 h]; simpa [h] using hQ', fun h => by rw [← ho2 h]; exact hQ'⟩
      clear hQ'
      simp only [List.length_cons] at hq3 hb ⊢
      cases hmm : memB n m with
      | true =>
        rw [hmm] at hlk
        have HF : Hid (finR E3 gr m q = some [1, 2, 4, 3]) := by
          have := memB_true.1 hmm
          show _ = _
          simpa [finR, this] using hf
        have HM := Lib.hid hm
        have HK := Lib.hid hk
        have HB := Lib.hid hb
        clear hq hm hf hk hq1 hq2 hq4 hq5 hq6 hmm hb
        go_wp2_with fail
        all_goals
          go_roundg gr
          case measure => omega
          case rel =>
            refine ⟨m, q, g, ?_, HM.out, HF.out, HK.out, by have := HB.out; omega⟩
            first
              | exact HQQ.out.1 (by assumption)
              | exact HQQ.out.2 (by assumption)
      | false =>
        rw [hmm] at hlk
        have hnm := memB_false.1 hmm
        have HF : Hid (finR E3 gr (m ++ [n]) (q ++ nextsOf n E3) = some [1, 2, 4, 3]) := by
          show _ = _
          simpa [finR, hnm] using hf
        obtain ⟨o, hr, hS, hk1⟩ := hm.update keyI underMapI n hnm
        obtain ⟨W1, hW1⟩ : ∃ W1, wr.putObj mb o = W1 := ⟨_, rfl⟩
        rw [hW1] at hr hS hk1
        change (Instr.mapUpdate 53 (.map (some mb)) (.int .i64 n) (.bool true)).run Try.prog wr = _ at hr
        have hQ1 : Hid ((cap = 1 → QAt W1 mb g (.slice (some ⟨g, off, none⟩) q.length 0) q) ∧ (¬ cap = 1 → QAt W1 mb g (.slice (some ⟨g, off + 1, none⟩) q.length (cap - 1)) q)) := by
          have e : W1.heap[g]? = wr.heap[g]? := (hk1.heap hq2 (by simpa using hgm)).trans hq2.symm
          exact ⟨fun h => (HQQ.out.1 h).kept e, fun h => (HQQ.out.2 h).kept e⟩
        have HK : Hid (Keeps [] w W1) := by
          have := HMB.out
          exact hk.trans' hk1 (fun x hx hlt => by simp at hx; omega)
        have HS := Lib.hid hS
        have HB := Lib.hid hb
        clear hq hm hf hk hq1 hq2 hq4 hq5 hq6 hmm hb hW1 hS hk1 HQQ
        go_wp2_with fail
        all_goals
          clear hlk hr hn0 hq3 hc1 hql hnm
          go_loopg [29, 6] 3 (fun (k : Nat) (u u' : Value) (wr : World) => ∃ (j g' : Nat) (qq : List Int), k = 3 - j ∧ j ≤ 3 ∧ u = .int .i64 (j : Int) ∧ QAt wr mb g' u' qq ∧ qq = q ++ nextsOf n (E3.take j) ∧ SetAt encI wr mb (m ++ [n]) ∧ Keeps [] w wr)
          case atStart =>
            refine ⟨0, g, q, rfl, by omega, rfl, ?_, by simp [nextsOf], HS.out, HK.out⟩
            first | exact hQ1.out.1 (by assumption) | exact hQ1.out.2 (by assumption)
          case round =>
            obtain ⟨j, g', qq, hkj, hj3, rfl, hq, hqq, hm, hk⟩ := hrel
            rcases Nat.lt_or_ge j 3 with hj | hj
            · obtain ⟨a, b, hab, htk⟩ := E3_take j hj
              obtain ⟨ca, cb⟩ := HC.out j a b hab _ hk
              have b1 : decide ((j : Int) < 3) = true := decide_eq_true (by omega)
              have b2 : (j : Int) < 3 := by omega
              have hqw := Lib.hid hq
              clear hq
              go_wp2_with fail
              obtain ⟨W2, hW2⟩ : ∃ W2, wr.alloc (.cells #[.int .i64 a, .int .i64 b] 42) = W2 := ⟨_, rfl⟩
              have hbx : W2.heap[wr.heap.size]? = some (.cells #[.int .i64 a, .int .i64 b] 42 (0, 0)) := by rw [← hW2]; exact heap_alloc_new _ _
              have hka : Keeps [] wr W2 := by rw [← hW2]; exact (Keeps.refl [] wr).alloc _
              have hq2 : QAt W2 mb g' u6 qq := hqw.out.kept (hka.block _ hqw.out.lt (by simp))
              have hm2 : SetAt encI W2 mb (m ++ [n]) := hm.later hka.below
              have hk2 : Keeps [] w W2 := hk.trans hka
              rw [hW2]
              clear hW2 hka hm hk hqw ca cb
              generalize wr.heap.size = bx at hbx ⊢
              have HJ : Hid (gk = 3 - j ∧ j < 3 ∧ qq = q ++ nextsOf n (E3.take j) ∧ E3.take (j + 1) = E3.take j ++ [(a, b)]) := ⟨hkj, hj, hqq, htk⟩
              have hqlen : qq.length ≤ 200 := by
                have h1 := nextsOf_len n (E3.take j)
                have h2 := HB.out
                have h3 : (E3.take j).length ≤ 3 := by rw [List.length_take]; exact Nat.min_le_right _ _
                rw [hqq, List.length_append]; omega
              have HQL := Lib.hid hqlen
              clear hkj hj3 hj hqq htk b1 b2 hab hqlen
              go_loopg [33, 6] 2 (fun (k : Nat) (u u' : Value) (wr : World) => ∃ (g2 : Nat) (q2 : List Int), QAt wr mb g2 u' q2 ∧ SetAt encI wr mb (m ++ [n]) ∧ Keeps [] w wr ∧ wr.heap[bx]? = some (.cells #[.int .i64 a, .int .i64 b] 42 (0, 0)) ∧
                ((k = 2 ∧ u = .int .i64 0 ∧ q2 = qq) ∨ (k = 1 ∧ u = .int .i64 1 ∧ q2 = qq ++ (if a = n then [b] else [])) ∨ (k = 0 ∧ u = .int .i64 2 ∧ q2 = qq ++ pairOf n a b)))
              case atStart => exact ⟨g', qq, hq2, hm2, hk2, hbx, .inl ⟨rfl, rfl, rfl⟩⟩
              case round =>
                clear hq2 hm2 hk2 hbx
                obtain ⟨g2, q2, hq, hm, hk, hbx, hu⟩ := hrel
                have d0 : wr.cell? ⟨bx, 0, none⟩ = some (.int .i64 a) := by rw [cell_blk hbx]; rfl
                have d1 : wr.cell? ⟨bx, 1, none⟩ = some (.int .i64 b) := by rw [cell_blk hbx]; rfl
                have hmbl : mb < wr.heap.size := by obtain ⟨es, clock, h1, -⟩ := hm.ex; exact lt_of_heap h1
                have hqe : ∀ y, ∀ w3, (wr.alloc (.cells #[.int .i64 y] 3)).grownBy w3 (some g2) → SetAt encI w3 mb (m ++ [n]) ∧ Keeps [] w w3 ∧ w3.heap[bx]? = some (.cells #[.int .i64 a, .int .i64 b] 42 (0, 0)) := by
                  intro y w3 hg3
                  obtain ⟨off, cap, cur, -, hbg, hgb, -⟩ := hq.ex
                  have hne1 : mb ≠ g2 := fun e => by
                    obtain ⟨es, clock, h1, -⟩ := hm.ex
                    rw [e, hgb] at h1; cases h1
                  have hne2 : bx ≠ g2 := fun e => by rw [e, hgb] at hbx; cases hbx
                  have hgw := HMB.out
                  have hkk : Keeps [g2] wr w3 := ((Keeps.refl [g2] wr).alloc _).grown hg3 (fun k e => by cases e; exact .inl (by simp))
                  refine ⟨?_, hk.trans' hkk (fun x hx hlt => by simp at hx; omega), hkk.heap hbx (by simpa using hne2)⟩
                  obtain ⟨es, clock, h1, h2⟩ := hm.ex
                  exact ⟨es, clock, hkk.heap h1 (by simpa using hne1), h2⟩
                have hqa : ∀ y, QAt (wr.alloc (.cells #[.int .i64 y] 3)) mb g2 u6 q2 := fun y => hq.kept (heap_alloc_lt _ _ _ hq.lt)
                have HH : Hid (QAt wr mb g2 u6 q2 ∧ SetAt encI wr mb (m ++ [n]) ∧ Keeps [] w wr ∧ wr.heap[bx]? = some (.cells #[.int .i64 a, .int .i64 b] 42 (0, 0))) := ⟨hq, hm, hk, hbx⟩
                have hyc : ∀ y, (wr.alloc (.cells #[.int .i64 y] 3)).cell? ⟨wr.heap.size, 0, none⟩ = some (.int .i64 y) := fun y => by rw [cell_blk (heap_alloc_new wr _)]; rfl
                have HQE := Lib.hid hqe
                have HQA := Lib.hid hqa
                have HYC := Lib.hid hyc
                clear hq hm hk hbx hqe hqa hyc
                rcases hu with ⟨rfl, rfl, rfl⟩ | ⟨rfl, rfl, hq2⟩ | ⟨rfl, rfl, hq2⟩
                · by_cases ha : a = n
                  · subst ha
                    go_wp2_with (at_builtin; refine wpList_append_q rfl _ _ rfl rfl (HQA.out b) (by have := HQL.out; omega) (by simp; omega) ⟨wr.heap.size, 0, none⟩ 1 b rfl (HYC.out b) ?_; intro g3 v3 w3 hq3 hg3)
                    go_roundg 1
                    case measure => omega
                    case rel =>
                      obtain ⟨r1, r2, r3⟩ := HQE.out b w3 hg3
                      exact ⟨g3, _, hq3, r1, r2, r3, .inr (.inl ⟨rfl, rfl, by simp⟩)⟩
                  · go_wp2_with fail
                    go_roundg 1
                    case measure => omega
                    case rel =>
                      obtain ⟨r0, r1, r2, r3⟩ := HH.out
                      exact ⟨g2, _, r0, r1, r2, r3, .inr (.inl ⟨rfl, rfl, by rw [if_neg ha]; simp⟩)⟩
                · have hql2 : q2.length ≤ 900 := by
                    have := HQL.out
                    rw [hq2]; split <;> simp <;> omega
                  have HQ2 := Lib.hid hq2
                  have HQL2 := Lib.hid hql2
                  clear hq2 hql2
                  by_cases hb' : b = n
                  · subst hb'
                    go_wp2_with (at_builtin; refine wpList_append_q rfl _ _ rfl rfl (HQA.out a) (by have := HQL2.out; omega) (by simp; omega) ⟨wr.heap.size, 0, none⟩ 1 a rfl (HYC.out a) ?_; intro g3 v3 w3 hq3 hg3)
                    go_roundg 0
                    case measure => omega
                    case rel =>
                      obtain ⟨r1, r2, r3⟩ := HQE.out a w3 hg3
                      exact ⟨g3, _, hq3, r1, r2, r3, .inr (.inr ⟨rfl, rfl, by rw [HQ2.out]; unfold pairOf; rw [if_pos rfl, List.append_assoc]⟩)⟩
                  · go_wp2_with fail
                    go_roundg 0
                    case measure => omega
                    case rel =>
                      obtain ⟨r0, r1, r2, r3⟩ := HH.out
                      exact ⟨g2, _, r0, r1, r2, r3, .inr (.inr ⟨rfl, rfl, by rw [HQ2.out]; unfold pairOf; rw [if_neg hb']; simp⟩)⟩
                · have hw : wrap64 ((j : Int) + 1) = ((j + 1 : Nat) : Int) := by have := HJ.out.2.1; simp [wrap64]; omega
                  go_wp2_with fail
                  go_roundg (3 - (j + 1))
                  case measure => have := HJ.out.1; have := HJ.out.2.1; omega
                  case rel =>
                    obtain ⟨r0, r1, r2, r3⟩ := HH.out
                    have h := HJ.out
                    refine ⟨j + 1, g2, q2, rfl, by omega, congrArg (Value.int .i64) hw, r0, ?_, r1, r2⟩
                    rw [hq2, h.2.2.1, h.2.2.2, nextsOf_snoc, List.append_assoc]
            · have b1 : decide ((j : Int) < 3) = false := decide_eq_false (by omega)
              have b2 : ¬ (j : Int) < 3 := by omega
              have hj' : j = 3 := by omega
              go_wp2_with fail
              go_roundg gr
              case measure => omega
              case rel =>
                subst hj'
                refine ⟨m ++ [n], qq, g', hq, hm, by rw [hqq]; exact HF.out, hk, ?_⟩
                have h1 := nextsOf_len n E3
                have h2 := HB.out
                have h3 : E3.length = 3 := rfl
                rw [hqq, List.length_append]
                have e : E3.take 3 = E3 := rfl
                rw [e]; omega
end Go.Proofs.Ytepnbfpclhincaa

namespace Go.Proofs.Ytepnbfpclhincaa
open Go.RowKit

theorem emptyTab (w : World) : TabAt ((w.alloc (.map #[] 0)).alloc (.cells #[.map (some w.heap.size)] 38)) (w.heap.size + 1) w.heap.size [] := by
  refine ⟨?_, ⟨#[], 0, ?_, rfl, by simp, by simp, by simp⟩, List.nodup_nil, by simp, by simp⟩
  · rw [← size_alloc w (.map #[] 0)]; exact heap_alloc_new _ _
  · exact (heap_alloc_lt _ _ _ (by simp)).trans (heap_alloc_new _ _)

set_option maxRecDepth 100000 in
set_option maxHeartbeats 2000000 in
theorem New_nil (w : World) : Calls Try.prog 4 #[.slice none 0 0] w fun e w' => e = .returned (.tuple #[.pointer (some ⟨w.heap.size + 1, 0, none⟩), .int .i64 0]) ∧ TabAt w' (w.heap.size + 1) w.heap.size [] ∧ Keeps [] w w' := by
  have hmk := run_makeMap (P := Try.prog) 28 w
  go_enter Try.func4, Try.ntmps4
  go_wp2_with fail
  have hT := Lib.hid (emptyTab w)
  have hK : Hid (Keeps [] w ((w.alloc (.map #[] 0)).alloc (.cells #[.map (some w.heap.size)] 38))) := ((Keeps.refl [] w).alloc _).alloc _
  generalize (w.alloc (.map #[] 0)).alloc (.cells #[.map (some w.heap.size)] 38) = W at hT hK ⊢
  clear hmk
  go_loopg [13] 0 (fun (k : Nat) (u : Value) (wr : World) => u = .int .i64 0 ∧ wr = W)
  case atStart => exact ⟨rfl, rfl⟩
  case round =>
    obtain ⟨rfl, rfl⟩ := hrel
    go_wp2_with fail
    go_ret2
    exact ⟨rfl, hT.out, hK.out⟩

set_option maxRecDepth 100000 in
set_option maxHeartbeats 2000000 in
theorem New_one (w : World) (g : Nat) (c : Int) (s : ByteArray) (k : GKey) (hk : encK k = .agg #[.int .i64 c, .string s]) (hgd : addCode [] k = 0) (hkl : k.2.length ≤ maxLen) (hb : w.heap[g]? = some (.cells #[.int .i64 c, .string s] 32 (0, 0))) :
    Calls Try.prog 4 #[.slice (some ⟨g, 0, none⟩) 1 1] w fun e w' => e = .returned (.tuple #[.pointer (some ⟨w.heap.size + 1, 0, none⟩), .int .i64 0]) ∧ TabAt w' (w.heap.size + 1) w.heap.size [k] ∧ Keeps [] w w' := by
  have hmk := run_makeMap (P := Try.prog) 28 w
  have HGL : Hid (g < w.heap.size) := lt_of_heap hb
  have HB := Lib.hid hb
  clear hb
  go_enter Try.func4, Try.ntmps4
  go_wp2_with fail
  have hT := Lib.hid (emptyTab w)
  have hK : Hid (Keeps [] w ((w.alloc (.map #[] 0)).alloc (.cells #[.map (some w.heap.size)] 38))) := ((Keeps.refl [] w).alloc _).alloc _
  generalize (w.alloc (.map #[] 0)).alloc (.cells #[.map (some w.heap.size)] 38) = W at hT hK ⊢
  clear hmk
  obtain ⟨m, hm⟩ : ∃ m, w.heap.size = m := ⟨_, rfl⟩
  have HM := Lib.hid hm
  rw [hm] at hT ⊢
  clear hm
  go_loopg [13] 1 (fun (k' : Nat) (u : Value) (wr : World) => (k' = 1 ∧ u = .int .i64 0 ∧ wr = W) ∨ (k' = 0 ∧ u = .int .i64 1 ∧ TabAt wr (m + 1) m [k] ∧ Keeps [] w wr))
  case atStart => exact .inl ⟨rfl, rfl, rfl⟩
  case round =>
    rcases hrel with ⟨rfl, rfl, rfl⟩ | ⟨rfl, rfl, hT2, hK2⟩
    · have hb2 := hK.out.heap HB.out (by simp)
      have c0 : wr.cell? ⟨g, 0, none⟩ = some (.int .i64 c) := by rw [cell_blk hb2]; rfl
      have c1 : wr.cell? ⟨g, 1, none⟩ = some (.string s) := by rw [cell_blk hb2]; rfl
      have hT2 := hT.out.keeps (F := []) ((Keeps.refl [] wr).alloc (.cells #[.int .i64 c, .string s] 32)) (by simp) (by simp)
      have hA := Add_any _ _ _ _ k hT2 hkl
      rw [hgd, hk] at hA
      have e : addTo [] k = [k] := by unfold addTo; rw [if_pos hgd]; rfl
      rw [e] at hA
      have HA := Lib.hid hA
      clear hb2 hT2 hA
      go_wp2_with (go_at_call 6; refine HA.out.mono ?_; rintro e w1 ⟨rfl, r1, r2⟩)
      go_roundg 0
      case measure => omega
      case rel =>
        refine .inr ⟨rfl, rfl, r1, (hK.out.alloc _).trans' r2 ?_⟩
        intro x hx hlt
        have := HM.out
        simp at hx; omega
    · go_wp2_with fail
      go_ret2
      have h := HM.out
      exact ⟨by rw [h]; rfl, by rw [h]; exact hT2, hK2⟩
end Go.Proofs.Ytepnbfpclhincaa

namespace Go.Proofs.Ytepnbfpclhincaa
open Go.RowKit

def payK : GKey := (1, [112, 97, 121])
set_option maxRecDepth 100000 in
set_option maxHeartbeats 4000000 in
theorem Wakes_any (w : World) : Calls Try.prog 5 #[] w fun e w' => e = .returned (.bool true) ∧ Keeps [] w w' := by
  have hek : encK payK = .agg #[.int .i64 1, .string { data := #[112, 97, 121] }] := rfl
  have hN := New_one (w.alloc (.cells #[.int .i64 1, .string { data := #[112, 97, 121] }] 32)) w.heap.size 1 { data := #[112, 97, 121] } payK hek (by decide) (by decide) (heap_alloc_new _ _)
  have hK1 : Hid (Keeps [] w (w.alloc (.cells #[.int .i64 1, .string { data := #[112, 97, 121] }] 32))) := (Keeps.refl [] w).alloc _
  obtain ⟨p, hp⟩ : ∃ p, (w.alloc (.cells #[.int .i64 1, .string { data := #[112, 97, 121] }] 32)).heap.size = p := ⟨_, rfl⟩
  rw [hp] at hN
  clear hp
  go_enter Try.func5, Try.ntmps5
  go_wp2_with (go_at_call 4; refine hN.mono ?_; rintro e w1 ⟨rfl, hT, hk1⟩)
  have hH := Has_any w1 (p + 1) p [payK] payK hT
  rw [hek] at hH
  have hm : memB payK [payK] = true := by decide
  rw [hm] at hH
  have HT := Lib.hid hT
  have HK := Lib.hid (hK1.out.trans hk1)
  clear hT hk1 hN hm
  have hL : ∀ w2, Keeps [] w1 w2 → Calls Try.prog 7 #[.pointer (some ⟨p + 1, 0, none⟩)] w2 fun e w' => ∃ g cap, e = .returned (.slice (some ⟨g, 0, none⟩) 1 cap) ∧ Keeps [] w2 w' := by
    intro w2 hk
    refine (List_any w2 (p + 1) p [payK] (HT.out.keeps hk (by simp) (by simp))).mono ?_
    rintro e w' ⟨v, l, rfl, hP, -, hR, hk'⟩
    have hl : l.length = 1 := hP.length_eq
    rcases hR with ⟨rfl, rfl⟩ | ⟨g, cap, rfl, -⟩
    · simp at hl
    · exact ⟨g, cap, by rw [hl], hk'⟩
  have hR := fun w2 => Reach_any (World.alloc w2 (.cells #[.int .i64 2, .int .i64 1, .int .i64 3, .int .i64 4, .int .i64 4, .int .i64 2] 42)) w2.heap.size (heap_alloc_new _ _)
  have HL := Lib.hid hL
  have HR := Lib.hid hR
  clear hL hR
  go_wp2_with (first
    | (go_at_call 9; refine hH.mono ?_; rintro e w2 ⟨rfl, hk2⟩)
    | (go_at_call 7; refine (HL.out _ ‹Keeps [] w1 _›).mono ?_; rintro e w3 ⟨g, cap, rfl, hk3⟩)
    | (go_at_call 10; refine (HR.out _).mono ?_; rintro e w4 ⟨g', cap', rfl, hk4⟩))
  go_ret
  exact ⟨rfl, HK.out.trans (hk2.trans (hk3.trans (((Keeps.refl [] _).alloc _).trans hk4)))⟩
end Go.Proofs.Ytepnbfpclhincaa
