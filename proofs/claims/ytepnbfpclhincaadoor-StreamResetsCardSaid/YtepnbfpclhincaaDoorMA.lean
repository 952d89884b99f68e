/-
  Own words about memory: what a call leaves as it was, rows of cells that are known whole.
  Plain functions on lists of bytes: numbers as bytes, check sums, frames.
-/
import Derived.WalkKit
import Derived.WalkSpells
import Derived.WalkLawsBesides
import Derived.Lib.FrozenHead
import Derived.Lib.OthersKept
import Derived.Lib.Hide
import Derived.Laws.BytesArg
import Derived.Lib.BufferWrite
import Derived.Lib.Walk
import Derived.Test.YtepnbfpclhincaaDoorProg
import Derived.Deep.RegionHeld3
import Derived.BigQuiet
import Derived.Deep.QuietTactic
import Derived.Deep.DeepCutAuto
import Derived.KernelRfl
import Derived.OpenShut
import Derived.Laws.CopyOwn
set_option linter.unusedVariables false
set_option linter.unusedSimpArgs false
namespace Go.Proofs.YtepnbfpclhincaaDoor
open Go.RowKit

/-- Every block but those of F is as it was. -/
structure Keeps (F : List Nat) (w w' : World) : Prop where
  os : w'.os = w.os
  tape : w'.tape = w.tape
  output : w'.output = w.output
  size : w.heap.size ≤ w'.heap.size
  block : ∀ k, k < w.heap.size → k ∉ F → w'.heap[k]? = w.heap[k]?

/-- New footprint: of the old one, or new. -/
def Fresh (w : World) (F F' : List Nat) : Prop := ∀ k, k ∈ F' → k ∈ F ∨ w.heap.size ≤ k

theorem Keeps.refl (F : List Nat) (w : World) : Keeps F w w := ⟨rfl, rfl, rfl, Nat.le_refl _, fun _ _ _ => rfl⟩

theorem Keeps.trans' {F G : List Nat} {a b c : World} (h : Keeps F a b) (k : Keeps G b c) (hs : ∀ x, x ∈ G → x < a.heap.size → x ∈ F) : Keeps F a c :=
  ⟨k.os.trans h.os, k.tape.trans h.tape, k.output.trans h.output, Nat.le_trans h.size k.size,
   fun i hi hn => (k.block i (Nat.lt_of_lt_of_le hi h.size) (fun hg => hn (hs i hg hi))).trans (h.block i hi hn)⟩

theorem Keeps.trans {F : List Nat} {a b c : World} (h : Keeps F a b) (k : Keeps F b c) : Keeps F a c := h.trans' k fun _ hx _ => hx

theorem Keeps.transF {F G : List Nat} {a b c : World} (h : Keeps F a b) (k : Keeps G b c) (hs : Fresh a F G) : Keeps F a c :=
  h.trans' k fun x hx hl => (hs x hx).resolve_right (by omega)

theorem Keeps.mono {F G : List Nat} {a b : World} (h : Keeps F a b) (hs : ∀ x, x ∈ F → x < a.heap.size → x ∈ G) : Keeps G a b :=
  ⟨h.os, h.tape, h.output, h.size, fun i hi hn => h.block i hi fun hf => hn (hs i hf hi)⟩

theorem Keeps.nil {F : List Nat} {a b : World} (h : Keeps [] a b) : Keeps F a b := h.mono (fun _ h _ => by cases h)

theorem Keeps.trans0 {F : List Nat} {a b c : World} (h : Keeps F a b) (k : Keeps [] b c) : Keeps F a c := h.trans k.nil

theorem Fresh.refl (w : World) (F : List Nat) : Fresh w F F := fun _ h => .inl h
theorem Fresh.trans {a b : World} {F G H : List Nat} (h : Fresh a F G) (k : Fresh b G H) (hs : a.heap.size ≤ b.heap.size) : Fresh a F H := fun x hx => by
  rcases k x hx with hg | hb
  · exact h x hg
  · exact .inr (by omega)

/-- Only F was written; what is F' behind it is of F, or new. -/
def Moves (F : List Nat) (w : World) (F' : List Nat) (w' : World) : Prop := Keeps F w w' ∧ Fresh w F F'
theorem Moves.refl (F : List Nat) (w : World) : Moves F w F w := ⟨Keeps.refl _ _, Fresh.refl _ _⟩
theorem Moves.trans {F G H : List Nat} {a b c : World} (h : Moves F a G b) (k : Moves G b H c) : Moves F a H c := ⟨h.1.transF k.1 h.2, h.2.trans k.2 h.1.size⟩
theorem Moves.quiet {F G : List Nat} {a b c : World} (h : Moves F a G b) (k : Keeps [] b c) : Moves F a G c := ⟨h.1.trans0 k, h.2⟩
theorem Moves.after {F G : List Nat} {a b c : World} (k : Keeps [] a b) (h : Moves F b G c) (hl : ∀ x, x ∈ F → x < a.heap.size) : Moves F a G c :=
  ⟨k.nil.trans h.1, fun x hx => (h.2 x hx).imp id (fun hb => by have := k.size; omega)⟩

theorem Keeps.of_below {w w' : World} (h : Below w.heap.size w w') : Keeps [] w w' :=
  ⟨h.os, h.tape, h.output, h.size, fun k hk _ => h.block k hk⟩
theorem Keeps.below {w w' : World} (h : Keeps [] w w') : Below w.heap.size w w' :=
  ⟨h.os, h.tape, h.output, h.size, fun k hk => h.block k hk (by simp)⟩

theorem Keeps.drew {F : List Nat} {a w : World} (h : Keeps F a w) : Keeps F a w.drew := ⟨h.os, h.tape, h.output, h.size, h.block⟩
theorem Keeps.of_drew {F : List Nat} {a w : World} (h : Keeps F a.drew w) : Keeps F a w := ⟨h.os, h.tape, h.output, h.size, h.block⟩

theorem heap_alloc_lt (w : World) (o : Obj) (k : Nat) (h : k < w.heap.size) : (w.alloc o).heap[k]? = w.heap[k]? := Below.heap_alloc w o k h
theorem size_alloc (w : World) (o : Obj) : (w.alloc o).heap.size = w.heap.size + 1 := by simp

theorem Keeps.alloc {F : List Nat} {a w : World} (h : Keeps F a w) (o : Obj) : Keeps F a (w.alloc o) :=
  h.trans ⟨rfl, rfl, rfl, by simp, fun k hk _ => Below.heap_alloc _ _ _ hk⟩

theorem Keeps.setCell {F : List Nat} {a w : World} (h : Keeps F a w) (p : Addr) (u : Value) (hp : p.block ∈ F ∨ a.heap.size ≤ p.block) : Keeps F a (w.setCell p u) :=
  h.trans' (G := [p.block]) ⟨rfl, rfl, rfl, by simp [World.setCell], fun k _ hn => Below.heap_setCell _ _ _ _ (by simpa using hn)⟩
    (fun x hx hl => by simp at hx; subst hx; exact hp.resolve_right (by omega))

theorem Keeps.setRow {F : List Nat} {a w : World} (h : Keeps F a w) (g : Nat) (c : Array Value) (hp : g ∈ F ∨ a.heap.size ≤ g) : Keeps F a (w.setRow g c) :=
  h.trans' (G := [g]) ⟨rfl, rfl, rfl, by simp, fun k _ hn => setRow_other _ _ _ _ (by simpa using hn)⟩
    (fun x hx hl => by simp at hx; subst hx; exact hp.resolve_right (by omega))

theorem Keeps.grown {F : List Nat} {a w w' : World} (h : Keeps F a w) {row : Option Nat} (hg : w.grownBy w' row) (hp : ∀ k, row = some k → k ∈ F ∨ a.heap.size ≤ k) : Keeps F a w' :=
  h.trans' (G := row.toList) ⟨hg.os, hg.tape, hg.output, hg.size, fun k hk hn => hg.block k hk (fun e => hn (by simp [← e]))⟩
    (fun x hx hl => by simp at hx; exact (hp x hx).resolve_right (by omega))

theorem Keeps.heap {F : List Nat} {w w' : World} (h : Keeps F w w') {b : Nat} {o : Obj} (hb : w.heap[b]? = some o) (hn : b ∉ F) : w'.heap[b]? = some o := by
  rw [h.block b (Array.getElem?_eq_some_iff.1 hb).1 hn]; exact hb

theorem Keeps.cell {F : List Nat} {w w' : World} (h : Keeps F w w') {a : Addr} {v : Value} (hc : w.cell? a = some v) (hn : a.block ∉ F) : w'.cell? a = some v := by
  rw [World.cell?_of_block (w := w) (h.block a.block (World.block_lt_of_cell? w a hc) hn)]; exact hc
theorem Keeps.free {F : List Nat} {w w' : World} (h : Keeps F w w') {a : Addr} {b : Bool} (hc : w.frozen? a = b) (hl : a.block < w.heap.size) (hn : a.block ∉ F) : w'.frozen? a = b := by
  rw [World.frozen?_of_block (w := w) (h.block a.block hl hn)]; exact hc

theorem lt_of_heap {w : World} {b : Nat} {o : Obj} (hb : w.heap[b]? = some o) : b < w.heap.size := (Array.getElem?_eq_some_iff.1 hb).1

/-- The block of a slice. -/
def own (v : Value) : List Nat := v.ownBlock.toList

theorem own_nil : own (.slice none 0 0) = [] := rfl
theorem own_some (a : Addr) (n c : Nat) : own (.slice (some a) n c) = [a.block] := rfl

theorem ownsRow_keeps {F : List Nat} {w w' : World} (h : Keeps F w w') {B : Nat} {e : TypeId} {size : Nat} {v : Value} {n : Nat} {xs : List Value}
    (ho : w.ownsRow B e size v n xs) (hn : ∀ k, k ∈ own v → k ∉ F) : w'.ownsRow B e size v n xs := by
  refine ⟨ho.1, ?_⟩
  rcases ho.2 with hx | ⟨g, cap, cur, rfl, hb, hg, r⟩
  · exact .inl hx
  · exact .inr ⟨g, cap, cur, rfl, hb, h.heap hg (hn g (by simp [own, Value.ownBlock])), r⟩

theorem ownsRow_lt {w : World} {B : Nat} {e : TypeId} {size : Nat} {v : Value} {n : Nat} {xs : List Value} (h : w.ownsRow B e size v n xs) : ∀ k, k ∈ own v → k < w.heap.size := by
  intro k hk
  exact (h.lt k (by simpa [own] using hk)).2

/-- What a slice that owns its row looks like. -/
theorem ownsRow_form {w : World} {B : Nat} {e : TypeId} {size : Nat} {v : Value} {n : Nat} {xs : List Value} (h : w.ownsRow B e size v n xs) :
    ∃ a cap, v = .slice a n cap := by
  rcases h.2 with ⟨rfl, rfl⟩ | ⟨g, cap, cur, rfl, _⟩
  · exact ⟨_, _, rfl⟩
  · exact ⟨_, _, rfl⟩

/-- Where there is an element there is a block, and its cells read. -/
theorem ownsRow_at {w : World} {B : Nat} {e : TypeId} {size : Nat} {v : Value} {n : Nat} {xs : List Value} (h : w.ownsRow B e size v n xs) (hn : 0 < n) :
    ∃ g cap, v = .slice (some ⟨g, 0, none⟩) n cap ∧ n ≤ cap ∧ cap ≤ maxLen ∧ g < w.heap.size ∧ (∀ j u, xs[j]? = some u → w.cell? ⟨g, j, none⟩ = some u) ∧ (∀ j, w.frozen? ⟨g, j, none⟩ = false) := by
  rcases h.2 with ⟨rfl, rfl⟩ | ⟨g, cap, cur, rfl, hb, hg, h1, h2, h3, h4⟩
  · omega
  · refine ⟨g, cap, rfl, h1, h2, lt_of_heap hg, fun j u hj => ?_, fun j => ?_⟩
    · rw [cell_of_row w g j cur e (0, 0) hg]
      rw [← h4, List.getElem?_take] at hj
      split at hj
      · simpa using hj
      · cases hj
    · simp only [World.frozen?, hg]; simp

/-- Cells of a block known whole. -/
theorem cell_blk {w : World} {b : Nat} {cur : Array Value} {t : TypeId} {fz : Nat × Nat} (h : w.heap[b]? = some (.cells cur t fz)) (j : Nat) : w.cell? ⟨b, j, none⟩ = cur[j]? := cell_of_row w b j cur t fz h
theorem free_blk {w : World} {b : Nat} {cur : Array Value} {t : TypeId} (h : w.heap[b]? = some (.cells cur t (0, 0))) (j : Nat) : w.frozen? ⟨b, j, none⟩ = false := by
  simp only [World.frozen?, h]; simp
theorem setCell_blk {w : World} {b : Nat} {cur : Array Value} {t : TypeId} {fz : Nat × Nat} (h : w.heap[b]? = some (.cells cur t fz)) (j : Nat) (u : Value) :
    (w.setCell ⟨b, j, none⟩ u).heap[b]? = some (.cells (cur.setIfInBounds j u) t fz) := by
  simp [World.setCell, Array.getElem?_modify, h]
theorem setCell_blk_ne {w : World} {b c : Nat} (j : Nat) (u : Value) (h : c ≠ b) : (w.setCell ⟨b, j, none⟩ u).heap[c]? = w.heap[c]? := Below.heap_setCell _ _ _ _ h
theorem size_setCell (w : World) (a : Addr) (u : Value) : (w.setCell a u).heap.size = w.heap.size := by simp [World.setCell]

/-- A store to an element of a row. -/
theorem ownsRow_set {w : World} {B : Nat} {e : TypeId} {size : Nat} {cap n g : Nat} {xs : List Value} (h : w.ownsRow B e size (.slice (some ⟨g, 0, none⟩) n cap) n xs) (j : Nat) (u : Value) (hj : j < xs.length) :
    (w.setCell ⟨g, j, none⟩ u).ownsRow B e size (.slice (some ⟨g, 0, none⟩) n cap) n (xs.set j u) := by
  obtain ⟨h1, h2⟩ := h
  refine ⟨by simpa using h1, ?_⟩
  rcases h2 with ⟨h2, _⟩ | ⟨g', cap', cur, hv, hb, hg, r1, r2, r3, r4⟩
  · cases h2
  · injection hv with hv1 hv2 hv3
    injection hv1 with hv1
    injection hv1 with hv1
    subst hv1; subst hv3
    refine .inr ⟨g, cap, cur.setIfInBounds j u, rfl, hb, setCell_blk hg j u, r1, r2, by simpa using r3, ?_⟩
    rw [← r4]
    simp only [Array.toList_setIfInBounds]
    rw [List.take_set]

theorem getElem?_lt {α : Type} {l : List α} {i : Nat} {x : α} (h : l[i]? = some x) : i < l.length := (List.getElem?_eq_some_iff.1 h).1

theorem ret_of {a b : Value} (h : a = b) : Ending.returned a = Ending.returned b := by rw [h]

theorem ret2_of {a a' b b' : Value} (h : a = a') (k : b = b') : Ending.returned (.tuple #[a, b]) = .returned (.tuple #[a', b']) := by rw [h, k]
theorem ret3_of {a a' b b' c c' : Value} (h : a = a') (k : b = b') (l : c = c') : Ending.returned (.tuple #[a, b, c]) = .returned (.tuple #[a', b', c']) := by rw [h, k, l]
theorem str_of {s : ByteArray} {l : List UInt8} (h : s.data.toList = l) : Value.string s = Value.string ⟨l.toArray⟩ := by subst h; simp
theorem int_of {k : IntKind} {a b : Int} (h : a = b) : Value.int k a = Value.int k b := by rw [h]

theorem cells_add (g j : Nat) : (⟨g, 0, none⟩ : Addr).add j = ⟨g, j, none⟩ := by unfold Addr.add; split <;> simp_all

/-- 'string(b)' of a row of bytes that is owned. -/
theorem run_string_own {P : Program} (w : World) (src dst e : TypeId) (hs : P.underlying src = some (.slice e)) (he : P.underlying e = some (.int .u8)) (hd : P.underlying dst = some .string)
    {B : Nat} {v : Value} {l : List UInt8} (h : w.ownsRow B e 1 v l.length (l.map fun b => Value.int .u8 b.toNat)) : (convert src dst v).run P w = .ok (.string ⟨l.toArray⟩) w := by
  rcases h.2 with ⟨rfl, h0⟩ | ⟨g, cap, cur, rfl, hb, hg, h1, h2, h3, h4⟩
  · have : l = [] := List.eq_nil_of_length_eq_zero h0
    subst this
    exact run_convert_bytes_nil w src e hs he _ _ dst hd
  · refine run_convert_bytes_back w src dst e _ cap l hs he hd fun j hj => ?_
    rw [cells_add, cell_of_row w g j cur e (0, 0) hg]
    have := congrArg (fun x => x[j]?) h4
    simp only [List.getElem?_take, List.getElem?_map] at this
    rw [if_pos (by omega), List.getElem?_eq_getElem hj] at this
    simpa using this

/-- A row that is owned, wherever it lies. -/
abbrev Own (w : World) (e : TypeId) (size : Nat) (v : Value) (n : Nat) (xs : List Value) : Prop := w.ownsRow 0 e size v n xs
/-- Its block is one of a later time. -/
def New (w : World) (v : Value) : Prop := ∀ k, k ∈ own v → w.heap.size ≤ k
theorem New.nil (w : World) : New w (.slice none 0 0) := fun _ h => by cases h

theorem ownsRow_base {w : World} {B C : Nat} {e : TypeId} {size : Nat} {v : Value} {n : Nat} {xs : List Value} (h : w.ownsRow B e size v n xs) (hc : ∀ k, k ∈ own v → C ≤ k) : w.ownsRow C e size v n xs := by
  refine ⟨h.1, ?_⟩
  rcases h.2 with hx | ⟨g, cap, cur, rfl, hb, r⟩
  · exact .inl hx
  · exact .inr ⟨g, cap, cur, rfl, hc g (by simp [own, Value.ownBlock]), r⟩

theorem run_app {P : Program} (w : World) (t ty e : TypeId) (z : Value) (size bytes : Nat) (ht : P.underlying t = some (.slice e)) (hinfo : (P.info? e).map (fun i => (i.zero, i.size, i.bytes)) = some (some z, size, bytes))
    (hzs : z.cells.size = size) (hsz : 0 < size) (v : Value) (n : Nat) (xs : List Value) (hown : Own w e size v n xs)
    (a : Addr) (m c : Nat) (news : List Value) (hl : news.length = m * size) (hnews : ∀ j u, news[j]? = some u → w.cell? (a.add j) = some u) (h1 : ∀ u ∈ news, u.oneCell' = true)
    (h63 : n + m ≤ maxLen) (hbytes : (n + m) * bytes ≤ 140737488355328) :
    ∃ v' w', (Builtin.append_ #[t, t] ty #[v, .slice (some a) m c]).run P w = .ok v' w' ∧ Own w' e size v' (n + m) (xs ++ news) ∧ w.grownBy w' v.ownBlock ∧
      (∀ k, k ∈ own v' → k ∈ own v ∨ w.heap.size ≤ k) := by
  obtain ⟨i, hi, hz, hsize, hby⟩ := info_parts hinfo
  rcases hown.2 with ⟨rfl, rfl⟩ | ⟨g, cap, cur, rfl, hbg, hg, hnc, hcm, hcs, htake⟩
  · have hx : xs = [] := List.eq_nil_of_length_eq_zero (by simpa using hown.1)
    subst hx
    obtain ⟨v', w', hr, ho, hg, _⟩ := run_append_own (P := P) w w.heap.size t ty e i z size bytes ht hi hz hsize hby hzs hsz (.slice none 0 0) 0 [] (World.ownsRow_nil _ _ _ _) a m c news hl hnews h1 h63 hbytes (Nat.le_refl _)
    exact ⟨v', w', hr, ownsRow_base ho (fun _ _ => Nat.zero_le _), hg, fun k hk => .inr ((ho.lt k (by simpa [own] using hk)).1)⟩
  · obtain ⟨v', w', hr, ho, hgr, _⟩ := run_append_own (P := P) w 0 t ty e i z size bytes ht hi hz hsize hby hzs hsz (.slice (some ⟨g, 0, none⟩) n cap) n xs hown a m c news hl hnews h1 h63 hbytes (Nat.zero_le _)
    refine ⟨v', w', hr, ho, hgr, fun k hk => ?_⟩
    have hsmall : n + m ≤ 9223372036854775807 := by simp only [maxLen] at h63; omega
    by_cases hroom : n + m ≤ cap
    · have hfit : n * i.size + news.length ≤ cur.size := by rw [hl, hcs, hsize, ← Nat.add_mul]; exact Nat.mul_le_mul_right _ hroom
      have hr2 := run_append_room (P := P) w t ty e i ht hi g n cap cur hg a m c news (by rw [hl, hsize]) hnews h1 hroom hfit
      rw [hr2] at hr
      injection hr with e1 e2
      subst e1
      exact .inl hk
    · have holds : ∀ j u, xs[j]? = some u → w.cell? ((⟨g, 0, none⟩ : Addr).add j) = some u := hown.cells (g := g) rfl
      have hr2 := run_append_grow (P := P) w t ty e i z ht hi hz ⟨g, 0, none⟩ n cap xs (by rw [hown.1, hsize]) holds a m c news (by rw [hl, hsize]) hnews (by omega) (by omega) (growslice_fits (by omega) (by rw [hby]; exact hbytes))
      rw [hr2] at hr
      injection hr with e1 e2
      subst e1
      simp [own, Value.ownBlock] at hk
      exact .inr (by omega)

/-- 'append(v, x)', one element, which the walk has laid in a block of its own: as a step. -/
theorem step_app1 {P : Program} {ops : Array Oper} {o : Oper} {a : Act} {K : Act → World → Prop} {Q : Exit → Act → World → Prop} {E : Prop} {wr : World} (hgd : o.guard = none) {s x : Operand} {t : TypeId}
    (ho : o.op = .call { callee := .builtin .append, args := #[s, x], argTypes := #[t, t] }) {e : TypeId} {z : Value} {size bytes : Nat} (ht : P.underlying t = some (.slice e))
    (hinfo : (P.info? e).map (fun i => (i.zero, i.size, i.bytes)) = some (some z, size, bytes)) (hzs : z.cells.size = size) (hsz : 0 < size)
    {v : Value} {n : Nat} {xs : List Value} (hs : a.eval s = v) (hown : Own wr e size v n xs) {news : List Value} (hx : a.eval x = .slice (some ⟨wr.heap.size, 0, none⟩) 1 1) (hl : news.length = size) (h1 : ∀ u ∈ news, u.oneCell' = true)
    (h63 : n < maxLen) (hbytes : (n + 1) * bytes ≤ 140737488355328)
    (h : ∀ v' w', Own w' e size v' (n + 1) (xs ++ news) → Keeps (own v) wr w' → (∀ k, k ∈ own v' → k ∈ own v ∨ wr.heap.size ≤ k) → K (a.put o.dst v') w') :
    if Region.wanted o (yielded ops a.tmps) = true then Oper.wp P o a (wr.alloc (.cells news.toArray e)) K Q else E := by
  have hw : Region.wanted o (yielded ops a.tmps) = true := by simp [Region.wanted, hgd]
  rw [if_pos hw]
  have hka : Keeps [] wr (wr.alloc (.cells news.toArray e)) := (Keeps.refl _ _).alloc _
  have hown1 : Own (wr.alloc (.cells news.toArray e)) e size v n xs := ownsRow_keeps hka hown (by simp)
  obtain ⟨v', w', hr, h2, h3, h4⟩ := run_app (P := P) (wr.alloc (.cells news.toArray e)) t o.type e z size bytes ht hinfo hzs hsz v n xs hown1 ⟨wr.heap.size, 0, none⟩ 1 1 news (by simpa using hl)
    (fun j u hj => by rw [cells_add, World.cell?_alloc_at _ _ _ _ rfl]; simpa using hj) h1 (by omega) hbytes
  unfold Oper.wp execOp
  simp only [ho, resolve, invoke, builtin, Sem.run_bind, Sem.run_pure, Result.andThen_ok, List.map_toArray, List.map_cons, List.map_nil, hs, hx, hr]
  refine h v' w' h2 (hka.nil.grown h3 fun k hk => .inl ?_) fun k hk => ?_
  · simp [own, hk]
  · rcases h4 k hk with h5 | h5
    · exact .inl h5
    · simp at h5; exact .inr (by omega)

theorem step_app1n {P : Program} {ops : Array Oper} {o : Oper} {a : Act} {K : Act → World → Prop} {Q : Exit → Act → World → Prop} {E : Prop} {wr : World} (hgd : o.guard = none) {s x : Operand} {t : TypeId}
    (ho : o.op = .call { callee := .builtin .append, args := #[s, x], argTypes := #[t, t] }) {e : TypeId} {z : Value} {size bytes : Nat} (ht : P.underlying t = some (.slice e))
    (hinfo : (P.info? e).map (fun i => (i.zero, i.size, i.bytes)) = some (some z, size, bytes)) (hzs : z.cells.size = size) (hsz : 0 < size)
    {v : Value} {n : Nat} {xs : List Value} (hs : a.eval s = v) (hown : Own wr e size v n xs) {news : List Value} {nb : Nat} (hx : a.eval x = .slice (some ⟨nb, 0, none⟩) 1 1) (hnb : wr.heap.size = nb) (hl : news.length = size) (h1 : ∀ u ∈ news, u.oneCell' = true)
    (h63 : n < maxLen) (hbytes : (n + 1) * bytes ≤ 140737488355328)
    (h : ∀ v' w', Own w' e size v' (n + 1) (xs ++ news) → Keeps (own v) wr w' → (∀ k, k ∈ own v' → k ∈ own v ∨ wr.heap.size ≤ k) → K (a.put o.dst v') w') :
    if Region.wanted o (yielded ops a.tmps) = true then Oper.wp P o a (wr.alloc (.cells news.toArray e)) K Q else E := by
  subst hnb
  exact step_app1 hgd ho ht hinfo hzs hsz hs hown hx hl h1 h63 hbytes h

theorem wpList_app1 {P : Program} {ops : Array Oper} {rest : List Oper} {o : Oper} {a : Act} {Q : Exit → Act → World → Prop} {wr : World} (hgd : o.guard = none) {s x : Operand} {t : TypeId}
    (ho : o.op = .call { callee := .builtin .append, args := #[s, x], argTypes := #[t, t] }) {e : TypeId} {z : Value} {size bytes : Nat} (ht : P.underlying t = some (.slice e))
    (hinfo : (P.info? e).map (fun i => (i.zero, i.size, i.bytes)) = some (some z, size, bytes)) (hzs : z.cells.size = size) (hsz : 0 < size)
    {v : Value} {n : Nat} {xs : List Value} (hs : a.eval s = v) (hown : Own wr e size v n xs) {news : List Value} (hx : a.eval x = .slice (some ⟨wr.heap.size, 0, none⟩) 1 1) (hl : news.length = size) (h1 : ∀ u ∈ news, u.oneCell' = true)
    (h63 : n < maxLen) (hbytes : (n + 1) * bytes ≤ 140737488355328)
    (h : ∀ v' w', Own w' e size v' (n + 1) (xs ++ news) → Keeps (own v) wr w' → (∀ k, k ∈ own v' → k ∈ own v ∨ wr.heap.size ≤ k) → wpList P ops Q rest (a.put o.dst v') w') :
    wpList P ops Q (o :: rest) a (wr.alloc (.cells news.toArray e)) :=
  wpList_step fun _ hK => step_app1 hgd ho ht hinfo hzs hsz hs hown hx hl h1 h63 hbytes fun v' w' h2 h3 h4 => hK _ _ (h v' w' h2 h3 h4)

theorem wp_alloc1 {P : Program} {c : Code} {Q : Exit → Act → World → Prop} {a : Act} {w : World} {o1 : Obj}
    (h : ∀ W, Keeps [] w W → W.heap[w.heap.size]? = some o1 → W.heap.size = w.heap.size + 1 → Code.wp P c Q a W) : Code.wp P c Q a (w.alloc o1) :=
  h _ ((Keeps.refl _ _).alloc _) (heap_alloc_new _ _) (by simp)
theorem wp_alloc2 {P : Program} {c : Code} {Q : Exit → Act → World → Prop} {a : Act} {w : World} {o1 o2 : Obj}
    (h : ∀ W, Keeps [] w W → W.heap[w.heap.size]? = some o1 → W.heap[w.heap.size + 1]? = some o2 → W.heap.size = w.heap.size + 2 → Code.wp P c Q a W) : Code.wp P c Q a ((w.alloc o1).alloc o2) :=
  h _ (((Keeps.refl _ _).alloc _).alloc _) (by rw [heap_alloc_lt _ _ _ (by simp)]; exact heap_alloc_new _ _) (by have := heap_alloc_new (w.alloc o1) o2; simpa using this) (by simp)

theorem calls_alloc1 {P : Program} {f : FuncId} {args : Array Value} {R : Ending → World → Prop} {w : World} {o1 : Obj}
    (h : ∀ W, Keeps [] w W → W.heap[w.heap.size]? = some o1 → W.heap.size = w.heap.size + 1 → Calls P f args W R) : Calls P f args (w.alloc o1) R :=
  h _ ((Keeps.refl _ _).alloc _) (heap_alloc_new _ _) (by simp)

/-- 'copy(b[:], s)' as a step of a region that draws. -/
theorem step_copy_str {P : Program} {ops : Array Oper} {o : Oper} {a : Act} {w : World} {K : Act → World → Prop} {Q : Exit → Act → World → Prop} {E : Prop}
    (hg : o.guard = none) {d x : Operand} {dT sT : TypeId} (hop : o.op = Op.call { callee := Callee.builtin Builtin.copy, args := #[d, x], argTypes := #[dT, sT] })
    {elem : TypeId} (hu : P.underlying dT = some (.slice elem)) (hz : (P.info? elem).map (·.size) = some 1)
    {g dLen dCap : Nat} (hd : a.eval d = .slice (some ⟨g, 0, none⟩) dLen dCap) {s : ByteArray} (hx : a.eval x = .string s) (hle : s.size ≤ dLen)
    {cur : Array Value} {t : TypeId} (hb : w.heap[g]? = some (.cells cur t (0, 0))) (hfit : s.size ≤ cur.size)
    (hK : ∀ w', w'.heap[g]? = some (.cells (Lib.byteCells s.data.toList ++ cur.toList.drop s.size).toArray t (0, 0)) → Keeps [g] w w' → K (a.put o.dst (goInt s.size)) w') :
    if Region.wanted o (yielded ops a.tmps) = true then Oper.wp P o a w K Q else E := by
  have hw : Region.wanted o (yielded ops a.tmps) = true := by simp [Region.wanted, hg]
  rw [if_pos hw]
  have hrun := Lib.run_copy_row_string (P := P) w dT sT o.type elem g 0 dLen dCap s cur t hu hz hb hle (by omega)
  unfold Oper.wp
  simp only [execOp, hop, resolve, invoke, builtin, Sem.run_bind, Sem.run_pure, Result.andThen_ok, List.map_toArray, List.map_cons, List.map_nil, hd, hx, hrun]
  refine hK _ ?_ ((Keeps.refl _ _).setRow _ _ (.inl (by simp)))
  rw [setRow_heap w g _ _ t _ hb]
  simp

end Go.Proofs.YtepnbfpclhincaaDoor

namespace Go.Proofs.YtepnbfpclhincaaDoor.Pl

/-- A number in so many bytes, the highest first. -/
def putL : Nat → Nat → List UInt8
  | 0, _ => []
  | w + 1, n => UInt8.ofNat (n / 256 ^ w) :: putL w n

@[simp] theorem putL_length (w n : Nat) : (putL w n).length = w := by induction w with
  | zero => rfl
  | succ w ih => simp [putL, ih]

/-- The number that bytes are. -/
def getL (l : List UInt8) : Nat := l.foldl (fun a b => a * 256 + b.toNat) 0

theorem foldl_get (l : List UInt8) (a : Nat) : l.foldl (fun a b => a * 256 + b.toNat) a = a * 256 ^ l.length + getL l := by
  induction l generalizing a with
  | nil => simp [getL]
  | cons b l ih =>
    simp only [getL, List.foldl_cons, List.length_cons, Nat.pow_succ]
    rw [ih, ih (0 * 256 + b.toNat)]
    simp [Nat.add_mul, Nat.mul_assoc, Nat.mul_comm 256, Nat.add_assoc]

theorem getL_cons (b : UInt8) (l : List UInt8) : getL (b :: l) = b.toNat * 256 ^ l.length + getL l := by
  show l.foldl _ (0 * 256 + b.toNat) = _
  rw [foldl_get]; simp

theorem getL_snoc (l : List UInt8) (b : UInt8) : getL (l ++ [b]) = getL l * 256 + b.toNat := by
  simp [getL, List.foldl_append]

theorem getL_lt (l : List UInt8) : getL l < 256 ^ l.length := by
  induction l with
  | nil => simp [getL]
  | cons b l ih =>
    rw [getL_cons, List.length_cons, Nat.pow_succ]
    have hb := b.toNat_lt
    have h1 : b.toNat * 256 ^ l.length ≤ 255 * 256 ^ l.length := Nat.mul_le_mul_right _ (by omega)
    omega

theorem getL_putL (w n : Nat) : getL (putL w n) = n % 256 ^ w := by
  induction w with
  | zero => simp [putL, getL, Nat.mod_one]
  | succ w ih =>
    rw [putL, getL_cons, putL_length, ih]
    simp only [UInt8.toNat_ofNat']
    have h := @Nat.mod_pow_succ n 256 w
    have h2 : n / 256 ^ w % 2 ^ 8 = n / 256 ^ w % 256 := rfl
    rw [h2, h, Nat.mul_comm, Nat.add_comm]

theorem putL_mod (w n : Nat) : putL w (n % 256 ^ w) = putL w n := by
  induction w generalizing n with
  | zero => rfl
  | succ w ih =>
    simp only [putL]
    have h1 : putL w (n % 256 ^ (w + 1)) = putL w n := by
      rw [← ih (n % 256 ^ (w + 1)), Nat.mod_mod_of_dvd _ ⟨256, by rw [Nat.pow_succ]⟩, ih]
    have h2 : UInt8.ofNat (n % 256 ^ (w + 1) / 256 ^ w) = UInt8.ofNat (n / 256 ^ w) := by
      apply UInt8.toNat_inj.1
      simp only [UInt8.toNat_ofNat']
      have : n % 256 ^ (w + 1) / 256 ^ w = n / 256 ^ w % 256 := by
        rw [Nat.pow_succ, Nat.mod_mul_right_div_self]
      rw [this]
      show n / 256 ^ w % 256 % 256 = _ % 256
      simp
    rw [h1, h2]

theorem putL_getL (l : List UInt8) : putL l.length (getL l) = l := by
  induction l with
  | nil => rfl
  | cons b l ih =>
    rw [List.length_cons, putL]
    have hlt := getL_lt l
    have hp : 0 < 256 ^ l.length := Nat.pow_pos (by omega)
    have h1 : getL (b :: l) / 256 ^ l.length = b.toNat := by
      rw [getL_cons, Nat.mul_comm, Nat.mul_add_div hp, Nat.div_eq_of_lt hlt]; omega
    have h2 : getL (b :: l) % 256 ^ l.length = getL l := by
      rw [getL_cons, Nat.mul_comm, Nat.mul_add_mod, Nat.mod_eq_of_lt hlt]
    rw [h1, ← putL_mod, h2, ih]
    simp

theorem putL_inj {w a b : Nat} (ha : a < 256 ^ w) (hb : b < 256 ^ w) (h : putL w a = putL w b) : a = b := by
  have := congrArg getL h
  rw [getL_putL, getL_putL, Nat.mod_eq_of_lt ha, Nat.mod_eq_of_lt hb] at this
  exact this

end Go.Proofs.YtepnbfpclhincaaDoor.Pl

namespace Go.Proofs.YtepnbfpclhincaaDoor
open Go.RowKit

theorem byte_of (n m : Nat) : ((UInt8.ofNat (n / 256 ^ m)).toNat : Int) = (n : Int) / 2 ^ (8 * m) % 256 := by
  have h : (2 : Nat) ^ (8 * m) = 256 ^ m := Nat.pow_mul 2 8 m
  have h1 : (UInt8.ofNat (n / 256 ^ m)).toNat = n / 2 ^ (8 * m) % 256 := by rw [h]; exact UInt8.toNat_ofNat'
  rw [h1, Int.natCast_emod, Int.natCast_ediv, Int.natCast_pow]; rfl

theorem infoU8 : (Tryd.prog.info? 5).map (fun i => (i.zero, i.size, i.bytes)) = some (some (.int .u8 0), 1, 1) := by kernel_rfl

set_option maxRecDepth 100000 in
set_option maxHeartbeats 400000 in
theorem Put_any (wd : Int) (k n : Nat) (hk : k ≤ 8) (hwd : max 0 (min wd 8) = k) (w : World) :
    Calls Tryd.prog 53 #[.int .i64 wd, .int .u64 n] w fun e w' => e = .returned (.string ⟨(Pl.putL k n).toArray⟩) ∧ Keeps [] w w' := by
  go_enter Tryd.func53, Tryd.ntmps53
  go_wp2
  clear hwd
  go_loopw [5, 6] (fun v i wr => ∃ j : Int, -1 ≤ j ∧ j < 8 ∧ i = .int .i64 j ∧ ∃ xs : List UInt8, Own wr 5 1 v xs.length (xs.map fun b => Value.int .u8 b.toNat) ∧ New w v ∧ xs.length + j + 1 = k ∧ xs ++ Pl.putL (j + 1).toNat n = Pl.putL k n ∧ Keeps [] w wr) (fun _ i _ => (intOf i + 1).toNat)
  case atStart => exact ⟨_, by omega, by omega, rfl, [], World.ownsRow_nil _ _ _ _, New.nil _, by simp, by simp, Keeps.refl _ _⟩
  case round =>
    obtain ⟨j, hj0, hj8, rfl, xs, hown, hnew, hlen, hput, hb⟩ := hrel
    have HL := Lib.hid hlen; have HP := Lib.hid hput; clear hlen hput
    have hle : xs.length ≤ 8 := by have := HL.out; omega
    by_cases h0 : 0 ≤ j
    · obtain ⟨m, rfl⟩ := Int.eq_ofNat_of_zero_le h0
      go_wp2_with (at_builtin; go_loud (refine wpList_app1 (by rfl) (by rfl) Tryd.underlying80 infoU8 rfl (by decide) (by rfl) hown (by rfl) (by rfl) ?c1 ?c2 ?c3 ?c4))
      case c1 => simp [Value.oneCell']
      case c2 => unfold maxLen; omega
      case c3 => omega
      case c4 =>
        intro v' w' ho hk hf
        go_wp2
        go_roundw
        case rel => 
          refine ⟨_, by omega, by omega, rfl, xs ++ [UInt8.ofNat (n / 256 ^ m)], ?_, ?_, ?_, ?_, ?_⟩
          · have e := byte_of n m; simp only [List.length_append, List.length_singleton, List.map_append, List.map_cons, List.map_nil, e]; exact ho
          · intro x hx
            rcases hf x hx with h | h
            · exact hnew x h
            · have := hb.size; omega
          · have := HL.out; simp; omega
          · have := HP.out
            rw [show ((m : Int) + 1).toNat = m + 1 by omega] at this
            rw [show ((m : Int) - 1 + 1).toNat = m by omega]
            rw [← this, Pl.putL]; simp
          · exact hb.trans' hk fun x hx hl => absurd (hnew x hx) (by omega)
        case measure => simp [intOf]
    · have hrun := run_string_own (P := Tryd.prog) wr 80 9 5 Tryd.underlying80 Tryd.underlying5 Tryd.underlying9 hown
      go_wp2
      go_ret
      refine ⟨ret_of ?_, hb⟩
      have := HP.out; rw [show (j + 1).toNat = 0 by omega] at this; simp only [Pl.putL, List.append_nil] at this
      rw [this]; rfl

theorem PutI (wd : Int) (n : Nat) (h0 : 0 ≤ wd) (h8 : wd ≤ 8) (w : World) :
    Calls Tryd.prog 53 #[.int .i64 wd, .int .u64 n] w fun e w' => e = .returned (.string ⟨(Pl.putL wd.toNat n).toArray⟩) ∧ Keeps [] w w' :=
  Put_any wd wd.toNat n (by omega) (by omega) w

/-- The first k of the bytes from a place on. -/
def sub (s : ByteArray) (at_ k : Nat) : List UInt8 := (s.data.toList.drop at_).take k

theorem sub_snoc (s : ByteArray) (at_ k : Nat) (h : at_ + k < s.size) : sub s at_ (k + 1) = sub s at_ k ++ [s[at_ + k]] := by
  unfold sub
  have h' : k < (s.data.toList.drop at_).length := by
    rw [List.length_drop]; show k < s.data.size - at_; have : s.data.size = s.size := rfl; omega
  rw [List.take_succ_eq_append_getElem h', List.getElem_drop]
  rfl
theorem sub_length (s : ByteArray) (at_ k : Nat) (h : at_ + k ≤ s.size) : (sub s at_ k).length = k := by
  unfold sub
  rw [List.length_take, List.length_drop]
  have : s.data.toList.length = s.size := by rw [Array.length_toList]; rfl
  omega

theorem or_step (a b : Nat) (ha : a < 72057594037927936) (hb : b < 256) : bits .or .u64 (IntKind.u64.wrap (↑a * 256)) (IntKind.u64.wrap ↑b) = ((a * 256 + b : Nat) : Int) := by
  have h1 : IntKind.u64.wrap ((a : Int) * 256) = ((a * 256 : Nat) : Int) := by
    simp [IntKind.wrap, IntKind.bits, IntKind.signed]; omega
  have h2 : IntKind.u64.wrap (b : Int) = ((b : Nat) : Int) := by
    simp [IntKind.wrap, IntKind.bits, IntKind.signed]; omega
  rw [h1, h2, bits_or_u64_nat _ _ (by omega) (by omega)]
  have := Nat.two_pow_add_eq_or_of_lt (i := 8) (b := b) (by simpa using hb) a
  rw [show a * 256 = 2 ^ 8 * a by rw [Nat.mul_comm]]
  rw [this]

theorem getL_sub_lt (s : ByteArray) (at_ k : Nat) (h : at_ + k ≤ s.size) (hk : k < 8) : Pl.getL (sub s at_ k) < 72057594037927936 := by
  have h1 := Pl.getL_lt (sub s at_ k)
  rw [sub_length s at_ k h] at h1
  have h2 : 256 ^ k ≤ 256 ^ 7 := Nat.pow_le_pow_right (by omega) (by omega)
  have h3 : (256 : Nat) ^ 7 = 72057594037927936 := by decide
  omega

theorem ret_int {k : IntKind} {a b : Int} (h : a = b) : Ending.returned (.int k a) = .returned (.int k b) := by rw [h]

set_option maxHeartbeats 400000 in
theorem Get_ok (s : ByteArray) (at_ wd : Nat) (h1 : 1 ≤ wd) (h8 : wd ≤ 8) (hle : at_ + wd ≤ s.size) (hs : s.size ≤ 1152921504606846976) (w : World) :
    Calls Tryd.prog 48 #[.string s, .int .i64 at_, .int .i64 wd] w fun e w' =>
      e = .returned (.tuple #[.int .u64 (Pl.getL (sub s at_ wd)), .int .i64 (at_ + wd : Nat), .int .i64 0]) ∧ w = w' := by
  have t1 : decide ((wd : Int) < 1) = false := decide_eq_false (by omega)
  have t2 : decide (8 < (wd : Int)) = false := decide_eq_false (by omega)
  have t3 : decide ((at_ : Int) < 0) = false := decide_eq_false (by omega)
  have t4 : decide (s.size < at_) = false := decide_eq_false (by omega)
  have t5 : decide ((s.size : Int) - at_ < wd) = false := decide_eq_false (by omega)
  go_enter Tryd.func48, Tryd.ntmps48
  go_wp2
  go_loop [9, 10, 36] (fun n _ i => ∃ k : Nat, k ≤ wd ∧ i = .int .i64 k ∧ n = .int .u64 (Pl.getL (sub s at_ k))) (fun _ _ i => (wd - (intOf i).toNat))
  case atStart => exact ⟨0, by omega, rfl, by simp [sub, Pl.getL]⟩
  case round =>
    obtain ⟨k, hk, rfl, rfl⟩ := hrel
    by_cases hlt : k < wd
    · have hb := getL_sub_lt s at_ k (by omega) (by omega)
      have hb2 := (s[at_ + k]'(by omega)).toNat_lt
      have E := or_step (Pl.getL (sub s at_ k)) (s[at_ + k]'(by omega)).toNat hb hb2
      have E2 := Lib.hid (sub_snoc s at_ k (by omega))
      clear hb hb2
      go_wp2
      go_round
      case rel => exact ⟨k + 1, by omega, by go_num, by rw [E2.out, Pl.getL_snoc]; go_num⟩
      case measure => simp [intOf]; omega
    · obtain rfl : k = wd := by omega
      go_wp2
      go_ret3
      exact ⟨rfl, rfl⟩

set_option maxHeartbeats 400000 in
theorem Get_short (s : ByteArray) (at_ wd : Nat) (h1 : 1 ≤ wd) (h8 : wd ≤ 8) (ha : at_ ≤ s.size) (hle : s.size < at_ + wd) (hs : s.size ≤ 1152921504606846976) (w : World) :
    Calls Tryd.prog 48 #[.string s, .int .i64 at_, .int .i64 wd] w fun e w' =>
      e = .returned (.tuple #[.int .u64 0, .int .i64 0, .int .i64 3]) ∧ w = w' := by
  have t1 : decide ((wd : Int) < 1) = false := decide_eq_false (by omega)
  have t2 : decide (8 < (wd : Int)) = false := decide_eq_false (by omega)
  have t3 : decide ((at_ : Int) < 0) = false := decide_eq_false (by omega)
  have t4 : decide (s.size < at_) = false := decide_eq_false (by omega)
  have t5 : decide ((s.size : Int) - at_ < wd) = true := decide_eq_true (by omega)
  go_enter Tryd.func48, Tryd.ntmps48
  go_wp2
  go_ret3
  exact ⟨rfl, rfl⟩
end Go.Proofs.YtepnbfpclhincaaDoor

namespace Go.Proofs.YtepnbfpclhincaaDoor
open Go.RowKit

def crcBit (c : Int) : Int := bits .xor .u32 (c / 2) (bits .and .u32 2197175160 (-bits .and .u32 c 1 % 4294967296))
def crcIn (c : Int) (b : UInt8) : Int := bits .xor .u32 c (b.toNat : Int)
def crcBits : Nat → Int → Int
  | 0, c => c
  | n + 1, c => crcBit (crcBits n c)
def crcL (l : List UInt8) : Int := l.foldl (fun c b => crcBits 8 (crcIn c b)) 4294967295
/-- The check sum of bytes. -/
def sumL (l : List UInt8) : Int := bits .xor .u32 IntKind.u32.max (crcL l)
def U32 (c : Int) : Prop := 0 ≤ c ∧ c < 4294967296

theorem bits_U32 (op : BinOp) (a b : Int) : U32 (bits op .u32 a b) := by
  have := bounds_u32 (wf_bits op .u32 a b)
  exact ⟨by omega, by omega⟩
theorem crcBits_U32 (n : Nat) (c : Int) (h : U32 c) : U32 (crcBits n c) := by
  cases n with
  | zero => exact h
  | succ n => unfold crcBits crcBit; exact bits_U32 _ _ _
theorem crcL_snoc (l : List UInt8) (b : UInt8) : crcL (l ++ [b]) = crcBits 8 (crcIn (crcL l) b) := by
  simp [crcL, List.foldl_append]
theorem crcL_U32 (l : List UInt8) : U32 (crcL l) := by
  rcases List.eq_nil_or_concat l with rfl | ⟨l', b, rfl⟩
  · exact ⟨by decide, by decide⟩
  · rw [List.concat_eq_append, crcL_snoc]; exact crcBits_U32 _ _ (by unfold crcIn; exact bits_U32 _ _ _)
theorem sumL_U32 (l : List UInt8) : U32 (sumL l) := bits_U32 _ _ _
theorem take_snoc (s : ByteArray) (k : Nat) (h : k < s.size) : s.data.toList.take (k + 1) = s.data.toList.take k ++ [s[k]] := by
  rw [List.take_succ_eq_append_getElem (by simpa using h)]; rfl

set_option maxHeartbeats 400000 in
theorem Sum_any (s : ByteArray) (hs : s.size ≤ 1152921504606846976) (w : World) :
    Calls Tryd.prog 54 #[.string s] w fun e w' => e = .returned (.int .u32 (sumL s.data.toList)) ∧ w = w' := by
  go_enter Tryd.func54, Tryd.ntmps54
  go_wp2
  go_loop [3, 4, 7, 16] (fun c _ i _ => ∃ k : Nat, k ≤ s.size ∧ i = .int .i64 k ∧ c = .int .u32 (crcL (s.data.toList.take k))) (fun _ _ i _ => (s.size - (intOf i).toNat))
  case atStart => exact ⟨0, by omega, rfl, by simp [crcL]⟩
  case round =>
    obtain ⟨k, hk, rfl, rfl⟩ := hrel
    by_cases hlt : k < s.size
    · obtain ⟨hq0, hq1⟩ := crcL_U32 (s.data.toList.take k)
      have hb : s[k].toNat < 256 := s[k].toNat_lt
      go_wp2
      go_loop [3, 16] (fun c j => ∃ m : Nat, m ≤ 8 ∧ j = .int .i64 m ∧ c = .int .u32 (crcBits m (crcIn (crcL (s.data.toList.take k)) s[k]))) (fun _ j => (8 - (intOf j).toNat))
      case atStart => exact ⟨0, by omega, rfl, rfl⟩
      case round =>
        obtain ⟨m, hm, rfl, rfl⟩ := hrel
        obtain ⟨hr0, hr1⟩ := crcBits_U32 m (crcIn (crcL (s.data.toList.take k)) s[k]) (by unfold crcIn; exact bits_U32 _ _ _)
        by_cases hlt2 : m < 8
        · go_wp2
          exact ⟨⟨m + 1, by omega, by go_num, rfl⟩, by simp [intOf]; omega⟩
        · obtain rfl : m = 8 := by omega
          have E := Lib.hid (take_snoc s k hlt)
          go_wp2
          exact ⟨⟨k + 1, by omega, by go_num, by rw [E.out, crcL_snoc]⟩, by simp [intOf]; omega⟩
    · obtain ⟨hq0, hq1⟩ := crcL_U32 (s.data.toList.take k)
      go_wp2
      go_ret
      obtain rfl : k = s.size := by omega
      exact ⟨by rw [show List.take s.size s.data.toList = s.data.toList from List.take_of_length_le (by simp)]; rfl, rfl⟩

/-- A body's frame. -/
def frameL (b : List UInt8) : List UInt8 := Pl.putL 2 b.length ++ Pl.putL 4 (sumL (Pl.putL 2 b.length ++ b)).toNat ++ b
theorem frameL_length (b : List UInt8) : (frameL b).length = b.length + 6 := by simp [frameL]; omega

theorem size_mk (l : List UInt8) : (ByteArray.mk l.toArray).size = l.length := by simp [ByteArray.size]
theorem bytes_eta (s : ByteArray) : (ByteArray.mk s.data.toList.toArray) = s := by simp
theorem toList_length (s : ByteArray) : s.data.toList.length = s.size := by rw [Array.length_toList]; rfl
theorem append_mk2 (l k : List UInt8) : (ByteArray.mk l.toArray) ++ (ByteArray.mk k.toArray) = ByteArray.mk (l ++ k).toArray := by
  apply ByteArray.ext; simp
theorem extract_sub (s : ByteArray) (a k : Nat) : s.extract a (a + k) = ByteArray.mk (sub s a k).toArray := by
  apply ByteArray.ext; simp only [ByteArray.data_extract]; rw [← Array.toList_inj]; simp [sub, List.extract_eq_take_drop]
theorem append_mk (l : List UInt8) (s : ByteArray) : (ByteArray.mk l.toArray) ++ s = ByteArray.mk (l ++ s.data.toList).toArray := by
  apply ByteArray.ext; simp

theorem notEmpty (s : ByteArray) (h : 0 < s.size) : s.toList.isEmpty = false := by
  rw [ByteArray.toList_eq, List.isEmpty_eq_false_iff]; intro e; have := toList_length s; rw [e] at this; simp at this; omega

theorem FPut_empty (w : World) : Calls Tryd.prog 33 #[.string ⟨#[]⟩] w fun e w' => e = .returned (.tuple #[.string ⟨#[]⟩, .int .i64 2]) ∧ w = w' := by
  go_enter Tryd.func33, Tryd.ntmps33
  go_wp2
  go_ret2
  exact ⟨rfl, rfl⟩
theorem FPut_long (s : ByteArray) (h : 4096 < s.size) (hs : s.size ≤ 1152921504606846976) (w : World) : Calls Tryd.prog 33 #[.string s] w fun e w' => e = .returned (.tuple #[.string ⟨#[]⟩, .int .i64 5]) ∧ w = w' := by
  have h0 := notEmpty s (by omega)
  go_enter Tryd.func33, Tryd.ntmps33
  go_wp2
  go_ret2
  exact ⟨rfl, rfl⟩
theorem FPut_ok (s : ByteArray) (h1 : 1 ≤ s.size) (h : s.size ≤ 4096) (w : World) : Calls Tryd.prog 33 #[.string s] w fun e w' => e = .returned (.tuple #[.string ⟨(frameL s.data.toList).toArray⟩, .int .i64 0]) ∧ Keeps [] w w' := by
  have h0 := notEmpty s (by omega)
  go_enter Tryd.func33, Tryd.ntmps33
  go_wp2_with fail
  refine (Put_any 2 2 s.size (by omega) (by decide) _).mono ?_
  rintro e w1 ⟨rfl, hk1⟩
  go_wp2_with fail
  rw [append_mk]
  refine (Sum_any _ (by rw [size_mk]; simp; omega) _).mono ?_
  rintro e w2 ⟨rfl, rfl⟩
  obtain ⟨hc0, hc1⟩ := sumL_U32 (Pl.putL 2 s.size ++ s.data.toList)
  obtain ⟨c, hc⟩ := Int.eq_ofNat_of_zero_le hc0
  simp only []
  rw [hc] at hc0 hc1 ⊢
  have HC := Lib.hid hc; clear hc
  go_wp2_with fail
  refine (Put_any 4 4 c (by omega) (by decide) _).mono ?_
  rintro e w3 ⟨rfl, hk3⟩
  go_wp2
  go_ret2
  refine ⟨ret2_of (str_of ?_) rfl, hk1.trans hk3⟩
  unfold frameL
  rw [toList_length, HC.out]
  simp

/-- What 'Get' tells of the bytes from a place on: the body, or an error. -/
def getFrame (l : List UInt8) : Except Int (List UInt8) :=
  if l.length < 2 then .error 3
  else
    let n := Pl.getL (l.take 2)
    if n = 0 then .error 13
    else if 4096 < n then .error 5
    else if l.length < 6 + n then .error 3
    else
      let body := (l.drop 6).take n
      if Pl.getL ((l.drop 2).take 4) % 4294967296 ≠ (sumL (l.take 2 ++ body)).toNat then .error 6 else .ok body

theorem getFrame_short (s : ByteArray) (at_ : Nat) (h2 : s.size - at_ < 2) : getFrame (s.data.toList.drop at_) = .error 3 := by
  unfold getFrame; rw [if_pos (by rw [List.length_drop, toList_length]; exact h2)]
theorem getFrame_eq (s : ByteArray) (at_ N : Nat) (h2 : ¬ s.size - at_ < 2) (hN : Pl.getL (sub s at_ 2) = N) :
    getFrame (s.data.toList.drop at_) = if N = 0 then .error 13 else if 4096 < N then .error 5 else if s.size - at_ < 6 + N then .error 3 else
      if Pl.getL (sub s (at_ + 2) 4) ≠ (sumL (sub s at_ 2 ++ sub s (at_ + 6) N)).toNat then .error 6 else .ok (sub s (at_ + 6) N) := by
  have hl : (s.data.toList.drop at_).length = s.size - at_ := by rw [List.length_drop, toList_length]
  unfold getFrame
  rw [hl, if_neg h2]
  unfold sub at hN ⊢
  simp only [List.drop_drop, hN]
  by_cases h : s.size - at_ < 6 + N
  · simp [h]
  · have hlt : Pl.getL (List.take 4 (List.drop (at_ + 2) s.data.toList)) % 4294967296 = Pl.getL (List.take 4 (List.drop (at_ + 2) s.data.toList)) := by
      refine Nat.mod_eq_of_lt ?_
      have := Pl.getL_lt (List.take 4 (List.drop (at_ + 2) s.data.toList))
      have h4 : (List.take 4 (List.drop (at_ + 2) s.data.toList)).length ≤ 4 := List.length_take_le _ _
      exact Nat.lt_of_lt_of_le this (Nat.le_trans (Nat.pow_le_pow_right (by omega) h4) (by decide))
    rw [hlt]

def GetPost (s : ByteArray) (at_ : Nat) (w : World) (e : Ending) (w' : World) : Prop :=
  w = w' ∧ match getFrame (s.data.toList.drop at_) with
  | .error c => c ≠ 0 ∧ e = .returned (.tuple #[.string ⟨#[]⟩, .int .i64 0, .int .i64 c])
  | .ok b => e = .returned (.tuple #[.string ⟨b.toArray⟩, .int .i64 (at_ + 6 + b.length : Nat), .int .i64 0])

theorem GetPost.err {s : ByteArray} {at_ : Nat} {w : World} {c : Int} (h : getFrame (s.data.toList.drop at_) = .error c) (hc : c ≠ 0) : GetPost s at_ w (.returned (.tuple #[.string ⟨#[]⟩, .int .i64 0, .int .i64 c])) w := by
  refine ⟨rfl, ?_⟩; rw [h]; exact ⟨hc, rfl⟩
theorem GetPost.ok {s : ByteArray} {at_ : Nat} {w : World} {b : List UInt8} {e : Ending} (h : getFrame (s.data.toList.drop at_) = .ok b) (he : e = .returned (.tuple #[.string ⟨b.toArray⟩, .int .i64 (at_ + 6 + b.length : Nat), .int .i64 0])) : GetPost s at_ w e w := by
  refine ⟨rfl, ?_⟩; rw [h]; exact he

set_option maxHeartbeats 400000 in
theorem FGet_any (s : ByteArray) (at_ : Nat) (ha : at_ ≤ s.size) (hs : s.size ≤ 1152921504606846976) (w : World) :
    Calls Tryd.prog 49 #[.string s, .int .i64 at_] w (GetPost s at_ w) := by
  by_cases h2 : s.size - at_ < 2
  · have HG := Lib.hid (getFrame_short s at_ h2)
    go_enter Tryd.func49, Tryd.ntmps49
    go_wp2_with fail
    refine (Get_short s at_ 2 (by omega) (by omega) ha (by omega) hs _).mono ?_
    rintro e w1 ⟨rfl, rfl⟩
    go_wp2
    go_ret3
    exact GetPost.err HG.out (by decide)
  · have hn := Pl.getL_lt (sub s at_ 2)
    rw [sub_length s at_ 2 (by omega)] at hn
    generalize hN : Pl.getL (sub s at_ 2) = N at hn
    have HG := Lib.hid (getFrame_eq s at_ N h2 hN)
    have HN := Lib.hid hN; clear hN
    go_enter Tryd.func49, Tryd.ntmps49
    go_wp2_with fail
    refine (Get_ok s at_ 2 (by omega) (by omega) (by omega) hs _).mono ?_
    rintro e w1 ⟨rfl, rfl⟩
    rw [HN.out]
    by_cases h0 : N = 0
    · subst h0
      go_wp2_with fail
      go_ret3
      exact GetPost.err (by rw [HG.out]; simp) (by decide)
    have b0 : ((N : Int) == 0) = false := beq_eq_false_iff_ne.2 (by omega)
    by_cases h1 : 4096 < N
    · go_wp2_with fail
      go_ret3
      exact GetPost.err (by rw [HG.out, if_neg h0, if_pos h1]) (by decide)
    by_cases h3 : s.size - at_ < 6 + N
    · have b3 : decide ((s.size : Int) - at_ < 6 + N) = true := decide_eq_true (by omega)
      go_wp2_with fail
      go_ret3
      exact GetPost.err (by rw [HG.out, if_neg h0, if_neg h1, if_pos h3]) (by decide)
    have b3 : decide ((s.size : Int) - at_ < 6 + N) = false := decide_eq_false (by omega)
    go_wp2_with fail
    have hm := Pl.getL_lt (sub s (at_ + 2) 4)
    rw [sub_length s (at_ + 2) 4 (by omega)] at hm
    generalize hM : Pl.getL (sub s (at_ + 2) 4) = M at hm
    have HM := Lib.hid hM; clear hM
    have hm' : M < 4294967296 := hm
    refine (Get_ok s (at_ + 2) 4 (by omega) (by omega) (by omega) hs _).mono ?_
    rintro e w1 ⟨rfl, rfl⟩
    rw [HM.out]
    go_wp2_with fail
    rw [extract_sub s at_ 2, show at_ + 2 + 4 = at_ + 6 by omega, extract_sub s (at_ + 6) N, append_mk2]
    refine (Sum_any _ (by rw [size_mk]; simp [sub_length s at_ 2 (by omega), sub_length s (at_ + 6) N (by omega)]; omega) _).mono ?_
    rintro e w2 ⟨rfl, rfl⟩
    obtain ⟨hc0, hc1⟩ := sumL_U32 (sub s at_ 2 ++ sub s (at_ + 6) N)
    obtain ⟨c, hc⟩ := Int.eq_ofNat_of_zero_le hc0
    simp only []
    rw [hc] at hc0 hc1 ⊢
    have HC := Lib.hid hc; clear hc
    by_cases he : M = c
    · have be : ((M : Int) != c) = false := by simp [he]
      go_wp2_with fail
      go_ret3
      have hl := sub_length s (at_ + 6) N (by omega)
      refine GetPost.ok (b := sub s (at_ + 6) N) (by rw [HG.out, if_neg h0, if_neg h1, if_neg h3, HM.out, HC.out, if_neg (by simpa using he)]) (ret3_of rfl ?_ rfl)
      rw [hl]
      exact int_of (by omega)
    · have be : ((M : Int) != c) = true := by rw [bne_iff_ne]; omega
      go_wp2_with fail
      go_ret3
      exact GetPost.err (by rw [HG.out, if_neg h0, if_neg h1, if_neg h3, HM.out, HC.out, if_pos (by simpa using he)]) (by decide)
end Go.Proofs.YtepnbfpclhincaaDoor

namespace Go.Proofs.YtepnbfpclhincaaDoor
open Go.RowKit

theorem getFrame_ok {l b : List UInt8} (h : getFrame l = .ok b) : 6 + b.length ≤ l.length ∧ 1 ≤ b.length ∧ b.length ≤ 4096 ∧ b = (l.drop 6).take b.length ∧ Pl.getL (l.take 2) = b.length := by
  unfold getFrame at h
  split at h
  · cases h
  · rename_i h2
    simp only at h
    split at h
    · cases h
    · rename_i h0
      split at h
      · cases h
      · rename_i h1
        split at h
        · cases h
        · rename_i h3
          split at h
          · cases h
          · injection h with h
            have hl : b.length = Pl.getL (l.take 2) := by
              rw [← h, List.length_take, List.length_drop]; omega
            refine ⟨by omega, by omega, by omega, ?_, hl.symm⟩
            rw [hl]; exact h.symm

/-- The bodies of the frames that bytes begin with, and where they end. -/
def allL (l : List UInt8) : List (List UInt8) × Nat :=
  match h : getFrame l with
  | .error _ => ([], 0)
  | .ok b => (b :: (allL (l.drop (6 + b.length))).1, 6 + b.length + (allL (l.drop (6 + b.length))).2)
termination_by l.length
decreasing_by all_goals (have := getFrame_ok h; simp only [List.length_drop]; omega)

theorem allL_err {l : List UInt8} {c : Int} (h : getFrame l = .error c) : allL l = ([], 0) := by
  rw [allL]; split
  · rfl
  · rename_i b hb; rw [h] at hb; cases hb
theorem allL_ok {l b : List UInt8} (h : getFrame l = .ok b) : allL l = (b :: (allL (l.drop (6 + b.length))).1, 6 + b.length + (allL (l.drop (6 + b.length))).2) := by
  rw [allL]; split
  · rename_i c hc; rw [h] at hc; cases hc
  · rename_i b' hb; rw [h] at hb; injection hb with hb; subst hb; rfl

/-- Texts as values. -/
def strV (b : List UInt8) : Value := .string ⟨b.toArray⟩

/-- A slice of texts that is owned. -/
def Texts (w : World) (v : Value) (l : List (List UInt8)) : Prop := Own w 9 1 v l.length (l.map strV)

theorem infoStr : (Tryd.prog.info? 9).map (fun i => (i.zero, i.size, i.bytes)) = some (some (.string ⟨#[]⟩), 1, 16) := by kernel_rfl

def AllPost (s : ByteArray) (w : World) (e : Ending) (w' : World) : Prop :=
  ∃ v, e = .returned (.tuple #[v, .int .i64 (allL s.data.toList).2]) ∧ Texts w' v (allL s.data.toList).1 ∧ New w v ∧ Keeps [] w w'

set_option maxHeartbeats 400000 in
theorem FAll_any (s : ByteArray) (hs : s.size ≤ 16777216) (w : World) :
    Calls Tryd.prog 27 #[.string s] w (AllPost s w) := by
  go_enter Tryd.func27, Tryd.ntmps27
  go_wp2
  go_loopw [4, 5] (fun v i wr => ∃ p : Nat, p ≤ s.size ∧ i = .int .i64 p ∧ ∃ xs, Texts wr v xs ∧ New w v ∧ Keeps [] w wr ∧ 7 * xs.length ≤ p ∧ xs ++ (allL (s.data.toList.drop p)).1 = (allL s.data.toList).1 ∧ p + (allL (s.data.toList.drop p)).2 = (allL s.data.toList).2) (fun _ i _ => s.size - (intOf i).toNat)
  case atStart => exact ⟨0, by omega, rfl, [], World.ownsRow_nil _ _ _ _, New.nil _, Keeps.refl _ _, by simp, by simp, by simp⟩
  case round =>
    obtain ⟨p, hp, rfl, xs, htx, hnew, hk, hxl, hx1, hx2⟩ := hrel
    have H1 := Lib.hid hx1; have H2 := Lib.hid hx2; clear hx1 hx2
    go_wp2_with fail
    refine (FGet_any s p hp (by omega) _).mono ?_
    rintro e w1 ⟨rfl, hg⟩
    cases hr : getFrame (s.data.toList.drop p) with
    | error c =>
      rw [hr] at hg
      obtain ⟨hc, rfl⟩ := hg
      have HR := Lib.hid hr; clear hr
      have bc : (c != 0) = true := by rw [bne_iff_ne]; exact hc
      go_wp2_with fail
      go_ret2
      have h1 := H1.out; have h2 := H2.out
      rw [allL_err HR.out] at h1 h2
      simp only [List.append_nil, Nat.add_zero] at h1 h2
      refine ⟨_, ret2_of rfl (int_of ?_), ?_, hnew, hk⟩
      · rw [h2]
      · rw [← h1]; exact htx
    | ok b =>
      rw [hr] at hg
      subst hg
      have hb := getFrame_ok hr
      have HR := Lib.hid hr; clear hr
      obtain ⟨hb1, hb2, hb3, -, -⟩ := hb
      rw [List.length_drop, toList_length] at hb1
      go_wp2_with (at_builtin; refine wpList_app1 (by rfl) (by rfl) Tryd.underlying23 infoStr rfl (by decide) (by rfl) htx (by rfl) (by rfl) ?c1 ?c2 ?c3 ?c4)
      case c1 => simp [Value.oneCell']
      case c2 => unfold maxLen; omega
      case c3 => omega
      case c4 =>
        intro v' w' ho hk' hf
        go_wp2
        go_roundw
        case rel =>
          have h1 := H1.out; have h2 := H2.out
          rw [allL_ok HR.out] at h1 h2
          refine ⟨p + 6 + b.length, by omega, by rfl, xs ++ [b], ?_, ?_, ?_, by simp; omega, ?_, ?_⟩
          · have := ho; unfold Texts strV at *; simpa using this
          · intro x hx
            rcases hf x hx with h | h
            · exact hnew x h
            · have := hk.size; omega
          · exact hk.trans' hk' fun x hx hl => absurd (hnew x hx) (by omega)
          · rw [← h1]; simp [List.drop_drop, Nat.add_assoc]
          · rw [← h2]; simp [List.drop_drop, Nat.add_assoc]
        case measure => simp [intOf]; omega
end Go.Proofs.YtepnbfpclhincaaDoor

namespace Go.Proofs.YtepnbfpclhincaaDoor
open Go.RowKit

theorem good_yes (g i : Int) (h1 : 1 ≤ g) (h2 : g ≤ 281474976710655) (h3 : 0 ≤ i) (h4 : i ≤ 65535) (w : World) :
    Calls Tryd.prog 55 #[.int .i64 g, .int .i64 i] w fun e w' => e = .returned (.bool true) ∧ w = w' := by
  go_enter Tryd.func55, Tryd.ntmps55
  go_wp2
  go_ret
  exact ⟨ret_of (by simp), rfl⟩

/-- A cell's sector. -/
def cellL (g i : Nat) (d : List UInt8) : List UInt8 := Pl.putL 6 g ++ Pl.putL 2 i ++ Pl.putL 1 d.length ++ d ++ List.replicate (55 - d.length) 0

set_option maxRecDepth 100000 in
set_option maxHeartbeats 1000000 in
theorem Make_ok (g i : Nat) (s : ByteArray) (h1 : 1 ≤ g) (h2 : g ≤ 281474976710655) (h4 : i ≤ 65535) (h5 : s.size ≤ 55) (w : World) :
    Calls Tryd.prog 56 #[.agg #[.int .i64 g, .int .i64 i, .string s]] w fun e w' => e = .returned (.tuple #[.string ⟨(cellL g i s.data.toList).toArray⟩, .int .i64 0]) ∧ Keeps [] w w' := by
  go_enter Tryd.func56, Tryd.ntmps56
  go_wp2_with (go_at_call 55; refine (good_yes _ _ (by omega) (by omega) (by omega) (by omega) _).mono ?_; rintro e w' ⟨rfl, rfl⟩)
  refine wp_alloc2 ?_
  intro W hW hbox harr hWs
  have S_of : ∀ w', Keeps [w.heap.size + 1] W w' → (w'.cell? ⟨w.heap.size, 0, none⟩ = some (.int .i64 g) ∧ w'.cell? ⟨w.heap.size, 1, none⟩ = some (.int .i64 i) ∧ w'.cell? ⟨w.heap.size, 2, none⟩ = some (.string s) ∧ Keeps [w.heap.size + 1] W w') := fun w' hk =>
    ⟨hk.cell (by rw [cell_blk hbox]; rfl) (by simp), hk.cell (by rw [cell_blk hbox]; rfl) (by simp), hk.cell (by rw [cell_blk hbox]; rfl) (by simp), hk⟩
  have HS := Lib.hid S_of
  have HA : Hid (W.heap[w.heap.size + 1]? = some (.cells (List.replicate 64 (Value.int .u8 0)).toArray 125 (0, 0))) := harr
  clear S_of hbox harr
  have hq : ¬ (9223372036854775807 < 9 + s.size) := by omega
  go_region_held3 (fun w' => w'.cell? ⟨w.heap.size, 0, none⟩ = some (.int .i64 g) ∧ w'.cell? ⟨w.heap.size, 1, none⟩ = some (.int .i64 i) ∧ w'.cell? ⟨w.heap.size, 2, none⟩ = some (.string s) ∧ Keeps [w.heap.size + 1] W w')
    ((first | assumption | exact HS.out _ (by first | exact (Keeps.refl _ _).drew | exact Keeps.trans (‹_ ∧ _ ∧ _ ∧ Keeps [w.heap.size + 1] W _›).2.2.2 (Keeps.nil (by assumption)) | exact Keeps.trans (‹_ ∧ _ ∧ _ ∧ Keeps [w.heap.size + 1] W _›).2.2.2 (by assumption))))
    (first
     | (go_at_call 53; refine (PutI _ _ (by omega) (by omega) _).mono ?_; rintro e w' ⟨rfl, hk⟩)
     | (refine step_copy_str rfl rfl Tryd.underlying80 (by kernel_rfl) (g := w.heap.size + 1) rfl rfl ?_ (Keeps.heap (Keeps.trans (Keeps.trans (Keeps.trans ((Keeps.refl _ _).drew) (by assumption)) (by assumption)) (by assumption)) HA.out (by simp)) ?_ ?_; (simp [ByteArray.size_append, size_mk]; omega); (simp [ByteArray.size_append, size_mk]; omega); intro w' hb' hk'))
  rename_i hheld
  have HB : Hid (w'.heap[w.heap.size + 1]? = some (.cells ((cellL g i s.data.toList).map fun b => Value.int .u8 b.toNat).toArray 125 (0, 0))) := by
    refine hb'.trans ?_
    rw [Nat.mod_eq_of_lt (by omega), Nat.mod_eq_of_lt (by omega), Nat.mod_eq_of_lt (by omega)]
    have e : (ByteArray.mk (Pl.putL 6 g).toArray ++ ByteArray.mk (Pl.putL 2 i).toArray ++ ByteArray.mk (Pl.putL 1 s.size).toArray ++ s) = ByteArray.mk (Pl.putL 6 g ++ Pl.putL 2 i ++ Pl.putL 1 s.size ++ s.data.toList).toArray := by
      rw [append_mk2, append_mk2, append_mk]
    rw [e, size_mk (Pl.putL 6 g ++ Pl.putL 2 i ++ Pl.putL 1 s.size ++ s.data.toList)]
    have hl : (Pl.putL 6 g ++ Pl.putL 2 i ++ Pl.putL 1 s.size ++ s.data.toList).length = 9 + s.size := by simp; omega
    rw [hl, show (List.replicate 64 (Value.int IntKind.u8 0)).toArray.toList = List.replicate 64 (Value.int IntKind.u8 0) from rfl, List.drop_replicate, show 64 - (9 + s.size) = 55 - s.size by omega]
    simp [cellL, Lib.byteCells, toList_length]
  have hlen : (cellL g i s.data.toList).length = 64 := by simp [cellL, toList_length]; omega
  have hrun := run_convert_bytes_back (P := Tryd.prog) w' 80 9 5 ⟨w.heap.size + 1, 0, none⟩ 64 (cellL g i s.data.toList) Tryd.underlying80 Tryd.underlying5 Tryd.underlying9 (fun j hj => by
    rw [cells_add, cell_blk HB.out]; simp [hj])
  rw [hlen] at hrun
  have hkk := (hheld.2.2.2)
  clear hheld hb' hk' hlen
  go_wp2
  go_ret2
  exact ⟨ret2_of rfl rfl, hW.trans' hkk (fun x hx hl => absurd hl (by simp at hx; omega))⟩
end Go.Proofs.YtepnbfpclhincaaDoor
