/-
  Own words about memory: what a call leaves as it was, rows of cells that are known whole.
  Maps that are sets: what the blocks hold, and what the operations do.
  The keys of grants.
  Which texts are names.
  A table of grants: Add, Drop, Has.
-/
import Derived.WalkKit
import Derived.WalkSpells
import Derived.WalkLawsBesides
import Derived.Lib.FrozenHead
import Derived.Lib.OthersKept
import Derived.Lib.Hide
import Derived.Laws.BytesArg
import Derived.Lib.BufferWrite
import Derived.Test.YtepnbfpclhincaaProg
import Derived.Laws.StructEq
import Derived.KernelRfl
import Derived.MapKept
import Derived.RangeFuncRecord
import Derived.ChangeKeysEq
import Derived.WideKeyRuns
import Derived.Deep.LoopGhost
import Derived.BigQuiet
import Derived.Deep.QuietTactic
import Derived.Deep.DeepCutAuto
import Derived.Deep.RegionHeld3
import Derived.Deep.RegionLaw
set_option linter.unusedVariables false
set_option linter.unusedSimpArgs false
namespace Go.Proofs.Ytepnbfpclhincaa
open Go.RowKit

/-- Every block but those of F is as it was. -/
structure Keeps (F : List Nat) (w w' : World) : Prop where
  os : w'.os = w.os
  tape : w'.tape = w.tape
  output : w'.output = w.output
  size : w.heap.size ≤ w'.heap.size
  block : ∀ k, k < w.heap.size → k ∉ F → w'.heap[k]? = w.heap[k]?

/-- New footprint: of the old one, or new. -/
def Fresh (w : World) (F F' : List Nat) : Prop := ∀ k, k ∈ F' → k ∈ F ∨ w.heap.size ≤ k

theorem Keeps.refl (F : List Nat) (w : World) : Keeps F w w := ⟨rfl, rfl, rfl, Nat.le_refl _, fun _ _ _ => rfl⟩

theorem Keeps.trans' {F G : List Nat} {a b c : World} (h : Keeps F a b) (k : Keeps G b c) (hs : ∀ x, x ∈ G → x < a.heap.size → x ∈ F) : Keeps F a c :=
  ⟨k.os.trans h.os, k.tape.trans h.tape, k.output.trans h.output, Nat.le_trans h.size k.size,
   fun i hi hn => (k.block i (Nat.lt_of_lt_of_le hi h.size) (fun hg => hn (hs i hg hi))).trans (h.block i hi hn)⟩

theorem Keeps.trans {F : List Nat} {a b c : World} (h : Keeps F a b) (k : Keeps F b c) : Keeps F a c := h.trans' k fun _ hx _ => hx

theorem Keeps.transF {F G : List Nat} {a b c : World} (h : Keeps F a b) (k : Keeps G b c) (hs : Fresh a F G) : Keeps F a c :=
  h.trans' k fun x hx hl => (hs x hx).resolve_right (by omega)

theorem Keeps.mono {F G : List Nat} {a b : World} (h : Keeps F a b) (hs : ∀ x, x ∈ F → x < a.heap.size → x ∈ G) : Keeps G a b :=
  ⟨h.os, h.tape, h.output, h.size, fun i hi hn => h.block i hi fun hf => hn (hs i hf hi)⟩

theorem Keeps.nil {F : List Nat} {a b : World} (h : Keeps [] a b) : Keeps F a b := h.mono (fun _ h _ => by cases h)

theorem Keeps.trans0 {F : List Nat} {a b c : World} (h : Keeps F a b) (k : Keeps [] b c) : Keeps F a c := h.trans k.nil

theorem Fresh.refl (w : World) (F : List Nat) : Fresh w F F := fun _ h => .inl h
theorem Fresh.trans {a b : World} {F G H : List Nat} (h : Fresh a F G) (k : Fresh b G H) (hs : a.heap.size ≤ b.heap.size) : Fresh a F H := fun x hx => by
  rcases k x hx with hg | hb
  · exact h x hg
  · exact .inr (by omega)

/-- Only F was written; what is F' behind it is of F, or new. -/
def Moves (F : List Nat) (w : World) (F' : List Nat) (w' : World) : Prop := Keeps F w w' ∧ Fresh w F F'
theorem Moves.refl (F : List Nat) (w : World) : Moves F w F w := ⟨Keeps.refl _ _, Fresh.refl _ _⟩
theorem Moves.trans {F G H : List Nat} {a b c : World} (h : Moves F a G b) (k : Moves G b H c) : Moves F a H c := ⟨h.1.transF k.1 h.2, h.2.trans k.2 h.1.size⟩
theorem Moves.quiet {F G : List Nat} {a b c : World} (h : Moves F a G b) (k : Keeps [] b c) : Moves F a G c := ⟨h.1.trans0 k, h.2⟩
theorem Moves.after {F G : List Nat} {a b c : World} (k : Keeps [] a b) (h : Moves F b G c) (hl : ∀ x, x ∈ F → x < a.heap.size) : Moves F a G c :=
  ⟨k.nil.trans h.1, fun x hx => (h.2 x hx).imp id (fun hb => by have := k.size; omega)⟩

theorem Keeps.of_below {w w' : World} (h : Below w.heap.size w w') : Keeps [] w w' :=
  ⟨h.os, h.tape, h.output, h.size, fun k hk _ => h.block k hk⟩
theorem Keeps.below {w w' : World} (h : Keeps [] w w') : Below w.heap.size w w' :=
  ⟨h.os, h.tape, h.output, h.size, fun k hk => h.block k hk (by simp)⟩

theorem Keeps.drew {F : List Nat} {a w : World} (h : Keeps F a w) : Keeps F a w.drew := ⟨h.os, h.tape, h.output, h.size, h.block⟩
theorem Keeps.of_drew {F : List Nat} {a w : World} (h : Keeps F a.drew w) : Keeps F a w := ⟨h.os, h.tape, h.output, h.size, h.block⟩

theorem heap_alloc_lt (w : World) (o : Obj) (k : Nat) (h : k < w.heap.size) : (w.alloc o).heap[k]? = w.heap[k]? := Below.heap_alloc w o k h
theorem size_alloc (w : World) (o : Obj) : (w.alloc o).heap.size = w.heap.size + 1 := by simp

theorem Keeps.alloc {F : List Nat} {a w : World} (h : Keeps F a w) (o : Obj) : Keeps F a (w.alloc o) :=
  h.trans ⟨rfl, rfl, rfl, by simp, fun k hk _ => Below.heap_alloc _ _ _ hk⟩

theorem Keeps.setCell {F : List Nat} {a w : World} (h : Keeps F a w) (p : Addr) (u : Value) (hp : p.block ∈ F ∨ a.heap.size ≤ p.block) : Keeps F a (w.setCell p u) :=
  h.trans' (G := [p.block]) ⟨rfl, rfl, rfl, by simp [World.setCell], fun k _ hn => Below.heap_setCell _ _ _ _ (by simpa using hn)⟩
    (fun x hx hl => by simp at hx; subst hx; exact hp.resolve_right (by omega))

theorem Keeps.setRow {F : List Nat} {a w : World} (h : Keeps F a w) (g : Nat) (c : Array Value) (hp : g ∈ F ∨ a.heap.size ≤ g) : Keeps F a (w.setRow g c) :=
  h.trans' (G := [g]) ⟨rfl, rfl, rfl, by simp, fun k _ hn => setRow_other _ _ _ _ (by simpa using hn)⟩
    (fun x hx hl => by simp at hx; subst hx; exact hp.resolve_right (by omega))

theorem Keeps.grown {F : List Nat} {a w w' : World} (h : Keeps F a w) {row : Option Nat} (hg : w.grownBy w' row) (hp : ∀ k, row = some k → k ∈ F ∨ a.heap.size ≤ k) : Keeps F a w' :=
  h.trans' (G := row.toList) ⟨hg.os, hg.tape, hg.output, hg.size, fun k hk hn => hg.block k hk (fun e => hn (by simp [← e]))⟩
    (fun x hx hl => by simp at hx; exact (hp x hx).resolve_right (by omega))

theorem Keeps.heap {F : List Nat} {w w' : World} (h : Keeps F w w') {b : Nat} {o : Obj} (hb : w.heap[b]? = some o) (hn : b ∉ F) : w'.heap[b]? = some o := by
  rw [h.block b (Array.getElem?_eq_some_iff.1 hb).1 hn]; exact hb

theorem Keeps.cell {F : List Nat} {w w' : World} (h : Keeps F w w') {a : Addr} {v : Value} (hc : w.cell? a = some v) (hn : a.block ∉ F) : w'.cell? a = some v := by
  rw [World.cell?_of_block (w := w) (h.block a.block (World.block_lt_of_cell? w a hc) hn)]; exact hc
theorem Keeps.free {F : List Nat} {w w' : World} (h : Keeps F w w') {a : Addr} {b : Bool} (hc : w.frozen? a = b) (hl : a.block < w.heap.size) (hn : a.block ∉ F) : w'.frozen? a = b := by
  rw [World.frozen?_of_block (w := w) (h.block a.block hl hn)]; exact hc

theorem lt_of_heap {w : World} {b : Nat} {o : Obj} (hb : w.heap[b]? = some o) : b < w.heap.size := (Array.getElem?_eq_some_iff.1 hb).1

/-- The block of a slice. -/
def own (v : Value) : List Nat := v.ownBlock.toList

theorem own_nil : own (.slice none 0 0) = [] := rfl
theorem own_some (a : Addr) (n c : Nat) : own (.slice (some a) n c) = [a.block] := rfl

theorem ownsRow_keeps {F : List Nat} {w w' : World} (h : Keeps F w w') {B : Nat} {e : TypeId} {size : Nat} {v : Value} {n : Nat} {xs : List Value}
    (ho : w.ownsRow B e size v n xs) (hn : ∀ k, k ∈ own v → k ∉ F) : w'.ownsRow B e size v n xs := by
  refine ⟨ho.1, ?_⟩
  rcases ho.2 with hx | ⟨g, cap, cur, rfl, hb, hg, r⟩
  · exact .inl hx
  · exact .inr ⟨g, cap, cur, rfl, hb, h.heap hg (hn g (by simp [own, Value.ownBlock])), r⟩

theorem ownsRow_lt {w : World} {B : Nat} {e : TypeId} {size : Nat} {v : Value} {n : Nat} {xs : List Value} (h : w.ownsRow B e size v n xs) : ∀ k, k ∈ own v → k < w.heap.size := by
  intro k hk
  exact (h.lt k (by simpa [own] using hk)).2

/-- What a slice that owns its row looks like. -/
theorem ownsRow_form {w : World} {B : Nat} {e : TypeId} {size : Nat} {v : Value} {n : Nat} {xs : List Value} (h : w.ownsRow B e size v n xs) :
    ∃ a cap, v = .slice a n cap := by
  rcases h.2 with ⟨rfl, rfl⟩ | ⟨g, cap, cur, rfl, _⟩
  · exact ⟨_, _, rfl⟩
  · exact ⟨_, _, rfl⟩

/-- Where there is an element there is a block, and its cells read. -/
theorem ownsRow_at {w : World} {B : Nat} {e : TypeId} {size : Nat} {v : Value} {n : Nat} {xs : List Value} (h : w.ownsRow B e size v n xs) (hn : 0 < n) :
    ∃ g cap, v = .slice (some ⟨g, 0, none⟩) n cap ∧ n ≤ cap ∧ cap ≤ maxLen ∧ g < w.heap.size ∧ (∀ j u, xs[j]? = some u → w.cell? ⟨g, j, none⟩ = some u) ∧ (∀ j, w.frozen? ⟨g, j, none⟩ = false) := by
  rcases h.2 with ⟨rfl, rfl⟩ | ⟨g, cap, cur, rfl, hb, hg, h1, h2, h3, h4⟩
  · omega
  · refine ⟨g, cap, rfl, h1, h2, lt_of_heap hg, fun j u hj => ?_, fun j => ?_⟩
    · rw [cell_of_row w g j cur e (0, 0) hg]
      rw [← h4, List.getElem?_take] at hj
      split at hj
      · simpa using hj
      · cases hj
    · simp only [World.frozen?, hg]; simp

/-- Cells of a block known whole. -/
theorem cell_blk {w : World} {b : Nat} {cur : Array Value} {t : TypeId} {fz : Nat × Nat} (h : w.heap[b]? = some (.cells cur t fz)) (j : Nat) : w.cell? ⟨b, j, none⟩ = cur[j]? := cell_of_row w b j cur t fz h
theorem free_blk {w : World} {b : Nat} {cur : Array Value} {t : TypeId} (h : w.heap[b]? = some (.cells cur t (0, 0))) (j : Nat) : w.frozen? ⟨b, j, none⟩ = false := by
  simp only [World.frozen?, h]; simp
theorem setCell_blk {w : World} {b : Nat} {cur : Array Value} {t : TypeId} {fz : Nat × Nat} (h : w.heap[b]? = some (.cells cur t fz)) (j : Nat) (u : Value) :
    (w.setCell ⟨b, j, none⟩ u).heap[b]? = some (.cells (cur.setIfInBounds j u) t fz) := by
  simp [World.setCell, Array.getElem?_modify, h]
theorem setCell_blk_ne {w : World} {b c : Nat} (j : Nat) (u : Value) (h : c ≠ b) : (w.setCell ⟨b, j, none⟩ u).heap[c]? = w.heap[c]? := Below.heap_setCell _ _ _ _ h
theorem size_setCell (w : World) (a : Addr) (u : Value) : (w.setCell a u).heap.size = w.heap.size := by simp [World.setCell]

/-- A store to an element of a row. -/
theorem ownsRow_set {w : World} {B : Nat} {e : TypeId} {size : Nat} {cap n g : Nat} {xs : List Value} (h : w.ownsRow B e size (.slice (some ⟨g, 0, none⟩) n cap) n xs) (j : Nat) (u : Value) (hj : j < xs.length) :
    (w.setCell ⟨g, j, none⟩ u).ownsRow B e size (.slice (some ⟨g, 0, none⟩) n cap) n (xs.set j u) := by
  obtain ⟨h1, h2⟩ := h
  refine ⟨by simpa using h1, ?_⟩
  rcases h2 with ⟨h2, _⟩ | ⟨g', cap', cur, hv, hb, hg, r1, r2, r3, r4⟩
  · cases h2
  · injection hv with hv1 hv2 hv3
    injection hv1 with hv1
    injection hv1 with hv1
    subst hv1; subst hv3
    refine .inr ⟨g, cap, cur.setIfInBounds j u, rfl, hb, setCell_blk hg j u, r1, r2, by simpa using r3, ?_⟩
    rw [← r4]
    simp only [Array.toList_setIfInBounds]
    rw [List.take_set]

theorem getElem?_lt {α : Type} {l : List α} {i : Nat} {x : α} (h : l[i]? = some x) : i < l.length := (List.getElem?_eq_some_iff.1 h).1

theorem ret_of {a b : Value} (h : a = b) : Ending.returned a = Ending.returned b := by rw [h]

theorem ret2_of {a a' b b' : Value} (h : a = a') (k : b = b') : Ending.returned (.tuple #[a, b]) = .returned (.tuple #[a', b']) := by rw [h, k]
theorem ret3_of {a a' b b' c c' : Value} (h : a = a') (k : b = b') (l : c = c') : Ending.returned (.tuple #[a, b, c]) = .returned (.tuple #[a', b', c']) := by rw [h, k, l]
theorem str_of {s : ByteArray} {l : List UInt8} (h : s.data.toList = l) : Value.string s = Value.string ⟨l.toArray⟩ := by subst h; simp
theorem int_of {k : IntKind} {a b : Int} (h : a = b) : Value.int k a = Value.int k b := by rw [h]

theorem cells_add (g j : Nat) : (⟨g, 0, none⟩ : Addr).add j = ⟨g, j, none⟩ := by unfold Addr.add; split <;> simp_all

/-- 'string(b)' of a row of bytes that is owned. -/
theorem run_string_own {P : Program} (w : World) (src dst e : TypeId) (hs : P.underlying src = some (.slice e)) (he : P.underlying e = some (.int .u8)) (hd : P.underlying dst = some .string)
    {B : Nat} {v : Value} {l : List UInt8} (h : w.ownsRow B e 1 v l.length (l.map fun b => Value.int .u8 b.toNat)) : (convert src dst v).run P w = .ok (.string ⟨l.toArray⟩) w := by
  rcases h.2 with ⟨rfl, h0⟩ | ⟨g, cap, cur, rfl, hb, hg, h1, h2, h3, h4⟩
  · have : l = [] := List.eq_nil_of_length_eq_zero h0
    subst this
    exact run_convert_bytes_nil w src e hs he _ _ dst hd
  · refine run_convert_bytes_back w src dst e _ cap l hs he hd fun j hj => ?_
    rw [cells_add, cell_of_row w g j cur e (0, 0) hg]
    have := congrArg (fun x => x[j]?) h4
    simp only [List.getElem?_take, List.getElem?_map] at this
    rw [if_pos (by omega), List.getElem?_eq_getElem hj] at this
    simpa using this

/-- A row that is owned, wherever it lies. -/
abbrev Own (w : World) (e : TypeId) (size : Nat) (v : Value) (n : Nat) (xs : List Value) : Prop := w.ownsRow 0 e size v n xs
/-- Its block is one of a later time. -/
def New (w : World) (v : Value) : Prop := ∀ k, k ∈ own v → w.heap.size ≤ k
theorem New.nil (w : World) : New w (.slice none 0 0) := fun _ h => by cases h

theorem ownsRow_base {w : World} {B C : Nat} {e : TypeId} {size : Nat} {v : Value} {n : Nat} {xs : List Value} (h : w.ownsRow B e size v n xs) (hc : ∀ k, k ∈ own v → C ≤ k) : w.ownsRow C e size v n xs := by
  refine ⟨h.1, ?_⟩
  rcases h.2 with hx | ⟨g, cap, cur, rfl, hb, r⟩
  · exact .inl hx
  · exact .inr ⟨g, cap, cur, rfl, hc g (by simp [own, Value.ownBlock]), r⟩

theorem run_app {P : Program} (w : World) (t ty e : TypeId) (z : Value) (size bytes : Nat) (ht : P.underlying t = some (.slice e)) (hinfo : (P.info? e).map (fun i => (i.zero, i.size, i.bytes)) = some (some z, size, bytes))
    (hzs : z.cells.size = size) (hsz : 0 < size) (v : Value) (n : Nat) (xs : List Value) (hown : Own w e size v n xs)
    (a : Addr) (m c : Nat) (news : List Value) (hl : news.length = m * size) (hnews : ∀ j u, news[j]? = some u → w.cell? (a.add j) = some u) (h1 : ∀ u ∈ news, u.oneCell' = true)
    (h63 : n + m ≤ maxLen) (hbytes : (n + m) * bytes ≤ 140737488355328) :
    ∃ v' w', (Builtin.append_ #[t, t] ty #[v, .slice (some a) m c]).run P w = .ok v' w' ∧ Own w' e size v' (n + m) (xs ++ news) ∧ w.grownBy w' v.ownBlock ∧
      (∀ k, k ∈ own v' → k ∈ own v ∨ w.heap.size ≤ k) := by
  obtain ⟨i, hi, hz, hsize, hby⟩ := info_parts hinfo
  rcases hown.2 with ⟨rfl, rfl⟩ | ⟨g, cap, cur, rfl, hbg, hg, hnc, hcm, hcs, htake⟩
  · have hx : xs = [] := List.eq_nil_of_length_eq_zero (by simpa using hown.1)
    subst hx
    obtain ⟨v', w', hr, ho, hg, _⟩ := run_append_own (P := P) w w.heap.size t ty e i z size bytes ht hi hz hsize hby hzs hsz (.slice none 0 0) 0 [] (World.ownsRow_nil _ _ _ _) a m c news hl hnews h1 h63 hbytes (Nat.le_refl _)
    exact ⟨v', w', hr, ownsRow_base ho (fun _ _ => Nat.zero_le _), hg, fun k hk => .inr ((ho.lt k (by simpa [own] using hk)).1)⟩
  · obtain ⟨v', w', hr, ho, hgr, _⟩ := run_append_own (P := P) w 0 t ty e i z size bytes ht hi hz hsize hby hzs hsz (.slice (some ⟨g, 0, none⟩) n cap) n xs hown a m c news hl hnews h1 h63 hbytes (Nat.zero_le _)
    refine ⟨v', w', hr, ho, hgr, fun k hk => ?_⟩
    have hsmall : n + m ≤ 9223372036854775807 := by simp only [maxLen] at h63; omega
    by_cases hroom : n + m ≤ cap
    · have hfit : n * i.size + news.length ≤ cur.size := by rw [hl, hcs, hsize, ← Nat.add_mul]; exact Nat.mul_le_mul_right _ hroom
      have hr2 := run_append_room (P := P) w t ty e i ht hi g n cap cur hg a m c news (by rw [hl, hsize]) hnews h1 hroom hfit
      rw [hr2] at hr
      injection hr with e1 e2
      subst e1
      exact .inl hk
    · have holds : ∀ j u, xs[j]? = some u → w.cell? ((⟨g, 0, none⟩ : Addr).add j) = some u := hown.cells (g := g) rfl
      have hr2 := run_append_grow (P := P) w t ty e i z ht hi hz ⟨g, 0, none⟩ n cap xs (by rw [hown.1, hsize]) holds a m c news (by rw [hl, hsize]) hnews (by omega) (by omega) (growslice_fits (by omega) (by rw [hby]; exact hbytes))
      rw [hr2] at hr
      injection hr with e1 e2
      subst e1
      simp [own, Value.ownBlock] at hk
      exact .inr (by omega)

/-- 'append(v, x)', one element, which the walk has laid in a block of its own: as a step. -/
theorem step_app1 {P : Program} {ops : Array Oper} {o : Oper} {a : Act} {K : Act → World → Prop} {Q : Exit → Act → World → Prop} {E : Prop} {wr : World} (hgd : o.guard = none) {s x : Operand} {t : TypeId}
    (ho : o.op = .call { callee := .builtin .append, args := #[s, x], argTypes := #[t, t] }) {e : TypeId} {z : Value} {size bytes : Nat} (ht : P.underlying t = some (.slice e))
    (hinfo : (P.info? e).map (fun i => (i.zero, i.size, i.bytes)) = some (some z, size, bytes)) (hzs : z.cells.size = size) (hsz : 0 < size)
    {v : Value} {n : Nat} {xs : List Value} (hs : a.eval s = v) (hown : Own wr e size v n xs) {news : List Value} (hx : a.eval x = .slice (some ⟨wr.heap.size, 0, none⟩) 1 1) (hl : news.length = size) (h1 : ∀ u ∈ news, u.oneCell' = true)
    (h63 : n < maxLen) (hbytes : (n + 1) * bytes ≤ 140737488355328)
    (h : ∀ v' w', Own w' e size v' (n + 1) (xs ++ news) → Keeps (own v) wr w' → (∀ k, k ∈ own v' → k ∈ own v ∨ wr.heap.size ≤ k) → K (a.put o.dst v') w') :
    if Region.wanted o (yielded ops a.tmps) = true then Oper.wp P o a (wr.alloc (.cells news.toArray e)) K Q else E := by
  have hw : Region.wanted o (yielded ops a.tmps) = true := by simp [Region.wanted, hgd]
  rw [if_pos hw]
  have hka : Keeps [] wr (wr.alloc (.cells news.toArray e)) := (Keeps.refl _ _).alloc _
  have hown1 : Own (wr.alloc (.cells news.toArray e)) e size v n xs := ownsRow_keeps hka hown (by simp)
  obtain ⟨v', w', hr, h2, h3, h4⟩ := run_app (P := P) (wr.alloc (.cells news.toArray e)) t o.type e z size bytes ht hinfo hzs hsz v n xs hown1 ⟨wr.heap.size, 0, none⟩ 1 1 news (by simpa using hl)
    (fun j u hj => by rw [cells_add, World.cell?_alloc_at _ _ _ _ rfl]; simpa using hj) h1 (by omega) hbytes
  unfold Oper.wp execOp
  simp only [ho, resolve, invoke, builtin, Sem.run_bind, Sem.run_pure, Result.andThen_ok, List.map_toArray, List.map_cons, List.map_nil, hs, hx, hr]
  refine h v' w' h2 (hka.nil.grown h3 fun k hk => .inl ?_) fun k hk => ?_
  · simp [own, hk]
  · rcases h4 k hk with h5 | h5
    · exact .inl h5
    · simp at h5; exact .inr (by omega)

theorem step_app1n {P : Program} {ops : Array Oper} {o : Oper} {a : Act} {K : Act → World → Prop} {Q : Exit → Act → World → Prop} {E : Prop} {wr : World} (hgd : o.guard = none) {s x : Operand} {t : TypeId}
    (ho : o.op = .call { callee := .builtin .append, args := #[s, x], argTypes := #[t, t] }) {e : TypeId} {z : Value} {size bytes : Nat} (ht : P.underlying t = some (.slice e))
    (hinfo : (P.info? e).map (fun i => (i.zero, i.size, i.bytes)) = some (some z, size, bytes)) (hzs : z.cells.size = size) (hsz : 0 < size)
    {v : Value} {n : Nat} {xs : List Value} (hs : a.eval s = v) (hown : Own wr e size v n xs) {news : List Value} {nb : Nat} (hx : a.eval x = .slice (some ⟨nb, 0, none⟩) 1 1) (hnb : wr.heap.size = nb) (hl : news.length = size) (h1 : ∀ u ∈ news, u.oneCell' = true)
    (h63 : n < maxLen) (hbytes : (n + 1) * bytes ≤ 140737488355328)
    (h : ∀ v' w', Own w' e size v' (n + 1) (xs ++ news) → Keeps (own v) wr w' → (∀ k, k ∈ own v' → k ∈ own v ∨ wr.heap.size ≤ k) → K (a.put o.dst v') w') :
    if Region.wanted o (yielded ops a.tmps) = true then Oper.wp P o a (wr.alloc (.cells news.toArray e)) K Q else E := by
  subst hnb
  exact step_app1 hgd ho ht hinfo hzs hsz hs hown hx hl h1 h63 hbytes h

theorem wpList_app1 {P : Program} {ops : Array Oper} {rest : List Oper} {o : Oper} {a : Act} {Q : Exit → Act → World → Prop} {wr : World} (hgd : o.guard = none) {s x : Operand} {t : TypeId}
    (ho : o.op = .call { callee := .builtin .append, args := #[s, x], argTypes := #[t, t] }) {e : TypeId} {z : Value} {size bytes : Nat} (ht : P.underlying t = some (.slice e))
    (hinfo : (P.info? e).map (fun i => (i.zero, i.size, i.bytes)) = some (some z, size, bytes)) (hzs : z.cells.size = size) (hsz : 0 < size)
    {v : Value} {n : Nat} {xs : List Value} (hs : a.eval s = v) (hown : Own wr e size v n xs) {news : List Value} (hx : a.eval x = .slice (some ⟨wr.heap.size, 0, none⟩) 1 1) (hl : news.length = size) (h1 : ∀ u ∈ news, u.oneCell' = true)
    (h63 : n < maxLen) (hbytes : (n + 1) * bytes ≤ 140737488355328)
    (h : ∀ v' w', Own w' e size v' (n + 1) (xs ++ news) → Keeps (own v) wr w' → (∀ k, k ∈ own v' → k ∈ own v ∨ wr.heap.size ≤ k) → wpList P ops Q rest (a.put o.dst v') w') :
    wpList P ops Q (o :: rest) a (wr.alloc (.cells news.toArray e)) :=
  wpList_step fun _ hK => step_app1 hgd ho ht hinfo hzs hsz hs hown hx hl h1 h63 hbytes fun v' w' h2 h3 h4 => hK _ _ (h v' w' h2 h3 h4)

theorem wp_alloc1 {P : Program} {c : Code} {Q : Exit → Act → World → Prop} {a : Act} {w : World} {o1 : Obj}
    (h : ∀ W, Keeps [] w W → W.heap[w.heap.size]? = some o1 → W.heap.size = w.heap.size + 1 → Code.wp P c Q a W) : Code.wp P c Q a (w.alloc o1) :=
  h _ ((Keeps.refl _ _).alloc _) (heap_alloc_new _ _) (by simp)
theorem wp_alloc2 {P : Program} {c : Code} {Q : Exit → Act → World → Prop} {a : Act} {w : World} {o1 o2 : Obj}
    (h : ∀ W, Keeps [] w W → W.heap[w.heap.size]? = some o1 → W.heap[w.heap.size + 1]? = some o2 → W.heap.size = w.heap.size + 2 → Code.wp P c Q a W) : Code.wp P c Q a ((w.alloc o1).alloc o2) :=
  h _ (((Keeps.refl _ _).alloc _).alloc _) (by rw [heap_alloc_lt _ _ _ (by simp)]; exact heap_alloc_new _ _) (by have := heap_alloc_new (w.alloc o1) o2; simpa using this) (by simp)

theorem calls_alloc1 {P : Program} {f : FuncId} {args : Array Value} {R : Ending → World → Prop} {w : World} {o1 : Obj}
    (h : ∀ W, Keeps [] w W → W.heap[w.heap.size]? = some o1 → W.heap.size = w.heap.size + 1 → Calls P f args W R) : Calls P f args (w.alloc o1) R :=
  h _ ((Keeps.refl _ _).alloc _) (heap_alloc_new _ _) (by simp)

/-- 'copy(b[:], s)' as a step of a region that draws. -/
theorem step_copy_str {P : Program} {ops : Array Oper} {o : Oper} {a : Act} {w : World} {K : Act → World → Prop} {Q : Exit → Act → World → Prop} {E : Prop}
    (hg : o.guard = none) {d x : Operand} {dT sT : TypeId} (hop : o.op = Op.call { callee := Callee.builtin Builtin.copy, args := #[d, x], argTypes := #[dT, sT] })
    {elem : TypeId} (hu : P.underlying dT = some (.slice elem)) (hz : (P.info? elem).map (·.size) = some 1)
    {g dLen dCap : Nat} (hd : a.eval d = .slice (some ⟨g, 0, none⟩) dLen dCap) {s : ByteArray} (hx : a.eval x = .string s) (hle : s.size ≤ dLen)
    {cur : Array Value} {t : TypeId} (hb : w.heap[g]? = some (.cells cur t (0, 0))) (hfit : s.size ≤ cur.size)
    (hK : ∀ w', w'.heap[g]? = some (.cells (Lib.byteCells s.data.toList ++ cur.toList.drop s.size).toArray t (0, 0)) → Keeps [g] w w' → K (a.put o.dst (goInt s.size)) w') :
    if Region.wanted o (yielded ops a.tmps) = true then Oper.wp P o a w K Q else E := by
  have hw : Region.wanted o (yielded ops a.tmps) = true := by simp [Region.wanted, hg]
  rw [if_pos hw]
  have hrun := Lib.run_copy_row_string (P := P) w dT sT o.type elem g 0 dLen dCap s cur t hu hz hb hle (by omega)
  unfold Oper.wp
  simp only [execOp, hop, resolve, invoke, builtin, Sem.run_bind, Sem.run_pure, Result.andThen_ok, List.map_toArray, List.map_cons, List.map_nil, hd, hx, hrun]
  refine hK _ ?_ ((Keeps.refl _ _).setRow _ _ (.inl (by simp)))
  rw [setRow_heap w g _ _ t _ hb]
  simp

end Go.Proofs.Ytepnbfpclhincaa

namespace Go.Proofs.Ytepnbfpclhincaa
open Go.RowKit

set_option linter.unusedSectionVars false
section
variable {α : Type} [DecidableEq α]

def findAt (x : α) : List α → Nat → Option Nat
  | [], _ => none
  | y :: L, i => if x = y then some i else findAt x L (i + 1)
theorem findAt_none {x : α} : ∀ {L : List α} {i : Nat}, x ∉ L → findAt x L i = none
  | [], _, _ => rfl
  | y :: L, i, h => by
    rw [findAt, if_neg (fun e => h (by rw [e]; exact List.mem_cons_self ..))]
    exact findAt_none (fun hx => h (List.mem_cons_of_mem _ hx))
theorem findAt_some {x : α} : ∀ {L : List α} {i : Nat}, x ∈ L → ∃ j, findAt x L i = some (i + j) ∧ L[j]? = some x
  | y :: L, i, h => by
    by_cases e : x = y
    · exact ⟨0, by rw [findAt, if_pos e]; rfl, by rw [e]; rfl⟩
    · obtain ⟨j, h1, h2⟩ := findAt_some (i := i + 1) ((List.mem_cons.1 h).resolve_left e)
      exact ⟨j + 1, by rw [findAt, if_neg e, h1]; congr 1; omega, by simpa using h2⟩

def memB (x : α) (L : List α) : Bool := decide (x ∈ L)
theorem memB_true {x : α} {L : List α} : memB x L = true ↔ x ∈ L := by unfold memB; exact decide_eq_true_iff
theorem memB_false {x : α} {L : List α} : memB x L = false ↔ x ∉ L := by unfold memB; exact decide_eq_false_iff_not

/-- What the keys of a type have to be. -/
structure KeyOk (P : Program) (t : TypeId) (enc : α → Value) : Prop where
  inj : ∀ x y, enc x = enc y → x = y
  check : ∀ (b : Bool) (x : α) (w : World), (Instr.checkKey b 10000 t (enc x)).run P w = .ok () w
  find : ∀ (x : α) (es : List MapEntry) (L : List α) (w : World), es.map (·.key) = L.map enc → (∀ e ∈ es, e.val = .bool true) → (Instr.findKey t (enc x) es).run P w = .ok ((findAt x L 0).map fun i => (i, .bool true)) w

theorem findAsking_run {P : Program} {t : TypeId} {enc : α → Value} {w : World} (heq : ∀ x y : α, (Op.equal t (enc x) (enc y)).run P w = .ok (decide (x = y)) w) (x : α) :
    ∀ (es : List MapEntry) (L : List α) (i : Nat), es.map (·.key) = L.map enc → (∀ e ∈ es, e.val = .bool true) → (Instr.findAsking t (enc x) es i).run P w = .ok ((findAt x L i).map fun i => (i, .bool true)) w := by
  intro es
  induction es with
  | nil =>
    intro L i h _
    cases L with
    | nil => simp [Instr.findAsking, findAt]
    | cons y L => simp at h
  | cons e es ih =>
    intro L i h hv
    cases L with
    | nil => simp at h
    | cons y L =>
      simp only [List.map_cons, List.cons.injEq] at h
      have hv0 := hv e (List.mem_cons_self ..)
      have := ih L (i + 1) h.2 (fun e he => hv e (List.mem_cons_of_mem _ he))
      by_cases hxy : x = y
      · simp [Instr.findAsking, h.1, heq, findAt, hxy, hv0, Result.andThen]
      · simp [Instr.findAsking, h.1, heq, findAt, hxy, this, Result.andThen]

/-- A map of this block has these keys, each with true. -/
structure SetAt (enc : α → Value) (w : World) (b : Nat) (L : List α) : Prop where
  ex : ∃ es clock, w.heap[b]? = some (.map es clock) ∧ es.toList.map (·.key) = L.map enc ∧ (∀ e ∈ es.toList, e.val = .bool true) ∧ (es.toList.map (·.born)).Pairwise (· < ·) ∧ (∀ e ∈ es.toList, e.born < clock)
theorem SetAt.lt {enc : α → Value} {w : World} {b : Nat} {L : List α} (h : SetAt enc w b L) : b < w.heap.size := by
  obtain ⟨es, clock, hb, -⟩ := h.ex; exact lt_of_heap hb
theorem SetAt.keeps {enc : α → Value} {w w' : World} {b : Nat} {L : List α} {F : List Nat} (h : SetAt enc w b L) (k : Keeps F w w') (hb : b ∉ F) : SetAt enc w' b L := by
  obtain ⟨es, clock, hx, h1⟩ := h.ex
  exact ⟨es, clock, k.heap hx hb, h1⟩
theorem SetAt.drewN {enc : α → Value} {w : World} {b : Nat} {L : List α} (h : SetAt enc w b L) (n : Nat) : SetAt enc (w.drewN n) b L := ⟨h.ex⟩

theorem run_getMap {P : Program} {w : World} {b : Nat} {es : Array MapEntry} {c : Nat} (h : w.heap[b]? = some (.map es c)) : (getObj b).run P w = .ok (.map es c) w := by
  simp [getObj, Sem.run, h]
theorem run_setMap {P : Program} {w : World} {b : Nat} {es : Array MapEntry} {c : Nat} (h : w.heap[b]? = some (.map es c)) (o : Obj) : (setObj b o).run P w = .ok () (w.putObj b o) := by
  simp [setObj, Sem.run, h, World.putObj]

theorem SetAt.lookup {P : Program} {t te T : TypeId} {enc : α → Value} {w : World} {b : Nat} {L : List α} (h : SetAt enc w b L) (K : KeyOk P t enc) (hT : P.underlying T = some (.map t te)) (hz : (zeroValue te).run P w = .ok (.bool false) w) (x : α) :
    (Instr.lookup T (.map (some b)) (enc x) false).run P w = .ok (.bool (memB x L)) w := by
  obtain ⟨es, clock, hb, hk, hv, -⟩ := h.ex
  have hc := K.check es.isEmpty x w
  have hf := K.find x es.toList L w hk hv
  by_cases hx : x ∈ L
  · obtain ⟨j, h1, -⟩ := findAt_some (i := 0) hx
    rw [h1] at hf
    simp only [Instr.lookup]
    simp [run_underlying hT, run_getMap hb, hc, hf, memB_true.2 hx, Result.andThen]
  · rw [findAt_none hx] at hf
    simp only [Instr.lookup]
    simp [run_underlying hT, run_getMap hb, hc, hf, memB_false.2 hx, hz, Result.andThen]

theorem SetAt.len {P : Program} {t te T : TypeId} {enc : α → Value} {w : World} {b : Nat} {L : List α} (h : SetAt enc w b L) (hT : P.underlying T = some (.map t te)) (ty : TypeId) :
    (Builtin.len_ #[T] ty #[.map (some b)]).run P w = .ok (.int .i64 L.length) w := by
  obtain ⟨es, clock, hb, hk, -⟩ := h.ex
  have hs : es.size = L.length := by have := congrArg List.length hk; simpa using this
  rw [← hs]
  simp [Builtin.len_, run_underlying hT, run_getMap hb, Result.andThen, goInt]

theorem Keeps.putObj {F : List Nat} (w : World) (b : Nat) (o : Obj) (hb : b ∈ F) : Keeps F w (w.putObj b o) :=
  ⟨rfl, rfl, rfl, by simp, fun k _ hk => World.putObj_heap_other (fun e => hk (by rw [e]; exact hb))⟩

/-- One key more. -/
theorem SetAt.update {P : Program} {t te T : TypeId} {enc : α → Value} {w : World} {b : Nat} {L : List α} (h : SetAt enc w b L) (K : KeyOk P t enc) (hT : P.underlying T = some (.map t te)) (x : α) (hx : x ∉ L) :
    ∃ o, (Instr.mapUpdate T (.map (some b)) (enc x) (.bool true)).run P w = .ok () (w.putObj b o) ∧ SetAt enc (w.putObj b o) b (L ++ [x]) ∧ Keeps [b] w (w.putObj b o) := by
  obtain ⟨es, clock, hb, hk, hv, hp, hc⟩ := h.ex
  have hck := K.check false x w
  have hf := K.find x es.toList L w hk hv
  rw [findAt_none hx] at hf
  refine ⟨.map (es.push { key := enc x, val := .bool true, born := clock }) (clock + 1), ?_, ⟨_, _, World.putObj_heap_same (lt_of_heap hb), ?_, ?_, ?_, ?_⟩, Keeps.putObj w b _ (by simp)⟩
  · simp only [Instr.mapUpdate]
    simp [run_underlying hT, run_getMap hb, hck, hf, Result.andThen, run_setMap hb]
  · simp [hk]
  · intro e he; simp only [Array.toList_push, List.mem_append, List.mem_singleton] at he
    rcases he with he | rfl
    · exact hv e he
    · rfl
  · simp only [Array.toList_push, List.map_append, List.map_cons, List.map_nil]
    refine List.pairwise_append.2 ⟨hp, by simp, fun a ha b hb => ?_⟩
    obtain ⟨e, he, rfl⟩ := List.mem_map.1 ha
    simp at hb; subst hb
    exact hc e he
  · intro e he; simp only [Array.toList_push, List.mem_append, List.mem_singleton] at he
    rcases he with he | rfl
    · have := hc e he; omega
    · simp

theorem map_eraseIdx' {β γ : Type} (f : β → γ) : ∀ (l : List β) (j : Nat), (l.eraseIdx j).map f = (l.map f).eraseIdx j
  | [], _ => by simp
  | _ :: _, 0 => by simp
  | x :: l, j + 1 => by simp [map_eraseIdx' f l j]
theorem erase_at {x : α} : ∀ {L : List α} {j : Nat}, L.Nodup → L[j]? = some x → L.erase x = L.eraseIdx j
  | y :: L, 0, _, h => by simp at h; subst h; simp
  | y :: L, j + 1, hn, h => by
    obtain ⟨h1, h2⟩ := List.nodup_cons.1 hn
    have hm : x ∈ L := List.mem_of_getElem? (by simpa using h)
    have hne : y ≠ x := fun e => h1 (by rw [e]; exact hm)
    rw [List.erase_cons_tail (by simpa using hne), erase_at h2 (by simpa using h)]
    rfl

def eraseA (L : List α) (x : α) : List α := L.erase x
theorem eraseA_not {L : List α} {x : α} (h : x ∉ L) : eraseA L x = L := List.erase_of_not_mem h
theorem eraseA_mem {L : List α} {x y : α} (h : y ∈ eraseA L x) : y ∈ L := List.mem_of_mem_erase h
theorem eraseA_nodup {L : List α} (h : L.Nodup) (x : α) : (eraseA L x).Nodup := h.erase _
theorem eraseA_le (L : List α) (x : α) : (eraseA L x).length ≤ L.length := List.length_erase_le
theorem eraseA_perm {L : List α} {x : α} (h : x ∈ L) : L.Perm (eraseA L x ++ [x]) := (List.perm_cons_erase h).trans (List.perm_append_comm (l₁ := [x]))
theorem eraseA_out {L : List α} (h : L.Nodup) (x : α) : x ∉ eraseA L x := h.not_mem_erase

/-- One key fewer. -/
theorem SetAt.delete {P : Program} {t te T : TypeId} {enc : α → Value} {w : World} {b : Nat} {L : List α} (h : SetAt enc w b L) (K : KeyOk P t enc) (hT : P.underlying T = some (.map t te)) (x : α) (hx : x ∈ L) (hn : L.Nodup) (ty u : TypeId) :
    ∃ o, (Builtin.delete_ #[T, u] ty #[.map (some b), enc x]).run P w = .ok (.tuple #[]) (w.putObj b o) ∧ SetAt enc (w.putObj b o) b (eraseA L x) ∧ Keeps [b] w (w.putObj b o) := by
  obtain ⟨es, clock, hb, hk, hv, hp, hc⟩ := h.ex
  have hck := K.check es.isEmpty x w
  have hf := K.find x es.toList L w hk hv
  obtain ⟨j, h1, h2⟩ := findAt_some (i := 0) hx
  rw [h1, Nat.zero_add] at hf
  have hlen : es.toList.length = L.length := by have := congrArg List.length hk; simpa using this
  have hj : j < es.toList.length := by rw [hlen]; exact getElem?_lt h2
  have hE : (es.eraseIdxIfInBounds j).toList = es.toList.eraseIdx j := by simp [Array.eraseIdxIfInBounds]; split <;> simp_all
  have hL : eraseA L x = L.eraseIdx j := erase_at hn h2
  refine ⟨.map (es.eraseIdxIfInBounds j) clock, ?_, ⟨_, _, World.putObj_heap_same (lt_of_heap hb), ?_, ?_, ?_, ?_⟩, Keeps.putObj w b _ (by simp)⟩
  · simp only [Builtin.delete_]
    simp [run_underlying hT, run_getMap hb, hck, hf, Result.andThen, run_setMap hb]
  · rw [hE, hL, map_eraseIdx', hk, map_eraseIdx']
  · rw [hE]; exact fun e he => hv e (List.mem_of_mem_eraseIdx he)
  · rw [hE, map_eraseIdx']; exact hp.sublist (List.eraseIdx_sublist _ _)
  · rw [hE]; exact fun e he => hc e (List.mem_of_mem_eraseIdx he)
end
end Go.Proofs.Ytepnbfpclhincaa

namespace Go.Proofs.Ytepnbfpclhincaa
open Go.RowKit

abbrev GKey := Int × List UInt8
def encK (x : GKey) : Value := .agg #[.int .i64 x.1, .string ⟨x.2.toArray⟩]
theorem encK_inj (x y : GKey) (h : encK x = encK y) : x = y := by
  unfold encK at h
  simp at h
  exact Prod.ext h.1 h.2

theorem partK0 (x : GKey) (w : World) : (part 3 #[.int .i64 x.1, .string ⟨x.2.toArray⟩] 0).run Try.prog w = .ok (.int .i64 x.1) w :=
  run_part_plain w (by kernel_rfl) rfl
theorem partK1 (x : GKey) (w : World) : (part 9 #[.int .i64 x.1, .string ⟨x.2.toArray⟩] 1).run Try.prog w = .ok (.string ⟨x.2.toArray⟩) w :=
  run_part_plain w (by kernel_rfl) rfl
theorem checkK (b : Bool) (x : GKey) (w : World) : (Instr.checkKey b 10000 32 (encK x)).run Try.prog w = .ok () w := by
  have h0 : ∀ n, (Instr.checkKey b (n + 1) 3 (.int .i64 x.1)).run Try.prog w = .ok () w := fun n => by simp [Instr.checkKey, run_underlying Try.underlying3]
  have h1 : ∀ n, (Instr.checkKey b (n + 1) 9 (.string ⟨x.2.toArray⟩)).run Try.prog w = .ok () w := fun n => by simp [Instr.checkKey, run_underlying Try.underlying9]
  rw [show (10000 : Nat) = 9998 + 1 + 1 from rfl]
  unfold encK
  rw [Instr.checkKey]
  simp [run_underlying Try.underlying32, partK0, partK1, h0, h1, Result.andThen]
theorem equalK (x y : GKey) (w : World) : (Op.equal 32 (encK x) (encK y)).run Try.prog w = .ok (decide (x = y)) w := by
  unfold Op.equal Op.maxDepth encK
  rw [run_equalIn_agg w 9999 32 _ _ Try.underlying32 (by kernel_rfl)]
  have hi : ∀ n, (Op.equalIn (n + 1) 3 (.int .i64 x.1) (.int .i64 y.1)).run Try.prog w = .ok (x.1 == y.1) w := fun n => run_equalIn_int w n _ _ _ _ _ Try.underlying3
  have hs : ∀ n, (Op.equalIn (n + 1) 9 (.string ⟨x.2.toArray⟩) (.string ⟨y.2.toArray⟩)).run Try.prog w = .ok (x.2 == y.2) w := fun n => by
    rw [run_equalIn_string w n _ _ _ Try.underlying9, ByteArray.toList_eq, ByteArray.toList_eq]
  simp [Op.eqFields, Program.fieldsOf, Try.underlying32, partK0, partK1, hi 9998, hs 9998, Result.andThen]
  by_cases h1 : x.1 = y.1
  · by_cases h2 : x.2 = y.2
    · rw [if_pos h1, if_pos h2, decide_eq_true (Prod.ext h1 h2)]
    · rw [if_pos h1, if_neg h2, decide_eq_false (fun e => h2 (by rw [e]))]
  · rw [if_neg h1, decide_eq_false (fun e => h1 (by rw [e]))]
theorem keyK : KeyOk Try.prog 32 encK := by
  refine ⟨encK_inj, checkK, fun x es L w h hv => ?_⟩
  have hnow : Instr.findNow (.struct (Try.prog.fieldsOf 32)) (encK x) es 0 = if es = [] then some none else none := by
    cases es <;> simp [Instr.findNow, Instr.sameNow, encK]
  have hu := Try.underlying32
  by_cases he : es = []
  · subst he
    cases L with
    | nil => simp [Instr.findKey, run_underlying hu, Instr.findNow, findAt, Result.andThen]
    | cons y L => simp at h
  · have hf := findAsking_run (t := 32) (w := w) (fun x y => equalK x y w) x es L 0 h hv
    cases es with
    | nil => exact absurd rfl he
    | cons e es =>
      simp only [Instr.findKey]
      simp [run_underlying hu, Instr.findNow, Instr.sameNow, hf, Result.andThen]

theorem checkI (b : Bool) (x : Int) (w : World) : (Instr.checkKey b 10000 3 (.int .i64 x)).run Try.prog w = .ok () w := by
  rw [show (10000 : Nat) = 9999 + 1 from rfl, Instr.checkKey]
  simp [run_underlying Try.underlying3]
def encI (x : Int) : Value := .int .i64 x
theorem findNow_int (x : Int) : ∀ (es : List MapEntry) (L : List Int) (i : Nat), es.map (·.key) = L.map encI → (∀ e ∈ es, e.val = .bool true) → Instr.findNow (.int .i64) (encI x) es i = some ((findAt x L i).map fun i => (i, .bool true)) := by
  intro es
  induction es with
  | nil => intro L i h _; cases L with
    | nil => rfl
    | cons y L => simp at h
  | cons e es ih =>
    intro L i h hv
    cases L with
    | nil => simp at h
    | cons y L =>
      simp only [List.map_cons, List.cons.injEq] at h
      have hv0 := hv e (List.mem_cons_self ..)
      have := ih L (i + 1) h.2 (fun e he => hv e (List.mem_cons_of_mem _ he))
      by_cases hxy : x = y
      · simp [Instr.findNow, h.1, encI, Instr.sameNow, findAt, hxy, hv0]
      · have hb : (x == y) = false := beq_eq_false_iff_ne.2 hxy
        unfold encI at this
        simp [Instr.findNow, h.1, encI, Instr.sameNow, findAt, hxy, hb, this]
theorem keyI : KeyOk Try.prog 3 encI := by
  refine ⟨fun x y h => by unfold encI at h; injection h, checkI, fun x es L w h hv => ?_⟩
  simp only [Instr.findKey]
  simp [run_underlying Try.underlying3, findNow_int x es L 0 h hv, Result.andThen]
theorem zeroB (w : World) : (zeroValue 4).run Try.prog w = .ok (.bool false) w := Try.zeroValue4 w
end Go.Proofs.Ytepnbfpclhincaa

namespace Go.Proofs.Ytepnbfpclhincaa
open Go.RowKit

theorem toList_len (s : ByteArray) : s.data.toList.length = s.size := by rw [Array.length_toList]; rfl
def okB (b : UInt8) : Bool := (decide (97 ≤ b.toNat) && decide (b.toNat ≤ 122)) || (decide (48 ≤ b.toNat) && decide (b.toNat ≤ 57))
def namedL (l : List UInt8) : Bool := l.all okB && !l.isEmpty && decide (l.length ≤ 16)

theorem decode_high (s : ByteArray) (p : Nat) (h : p < s.size) (hb : 128 ≤ (s[p]'h).toNat) : 128 ≤ (Utf8.decode s p).1 := by
  have e0 : (s.get! (p + 0)).toNat = (s[p]'h).toNat := by
    rw [Nat.add_zero]
    have : s.get! p = s[p]'h := by simp [ByteArray.get!, h]; rfl
    rw [this]
  unfold Utf8.decode
  simp only [e0]
  rw [if_neg (by omega)]
  repeat' split
  all_goals (first | (simp [Utf8.runeError]; done) | (simp_all; done) | (simp_all; omega))

/-- Which bytes of a rune are none of a name's. -/
theorem okB_rune (s : ByteArray) (p : Nat) (h : p < s.size) : (okB (s[p]'h) = true ∧ Utf8.decode s p = ((s[p]'h).toNat, 1)) ∨ (okB (s[p]'h) = false ∧ ((((Utf8.decode s p).1 : Int) < 97 ∨ 122 < ((Utf8.decode s p).1 : Int)) ∧ (((Utf8.decode s p).1 : Int) < 48 ∨ 57 < ((Utf8.decode s p).1 : Int)))) := by
  by_cases hb : 128 ≤ (s[p]'h).toNat
  · have := decode_high s p h hb
    refine .inr ⟨?_, .inr (by omega), .inr (by omega)⟩
    unfold okB
    rw [decide_eq_false (show ¬ (s[p]'h).toNat ≤ 122 by omega), decide_eq_false (show ¬ (s[p]'h).toNat ≤ 57 by omega)]
    simp
  · have hd := decode_ascii s p h (by omega)
    cases ho : okB (s[p]'h) with
    | true => exact .inl ⟨rfl, hd⟩
    | false =>
      refine .inr ⟨rfl, ?_⟩
      rw [hd]
      unfold okB at ho
      simp only [Bool.or_eq_false_iff, Bool.and_eq_false_iff, decide_eq_false_iff_not] at ho
      dsimp only
      omega

set_option maxRecDepth 100000 in
set_option maxHeartbeats 1000000 in
theorem Named_any (s : ByteArray) (hs : s.size ≤ maxLen) (w : World) : Calls Try.prog 11 #[.string s] w fun e w' => e = .returned (.bool (namedL s.data.toList)) ∧ Keeps [] w w' := by
  unfold maxLen at hs
  go_enter Try.func11, Try.ntmps11
  go_wp2_with fail
  go_loopg [4] s.size (fun g _ wr => ∃ p : Nat, p ≤ s.size ∧ g = s.size - p ∧ wr.heap[w.heap.size]? = some (.stringIter s p) ∧ Keeps [] w wr ∧ (s.data.toList.take p).all okB = true)
  case atStart => exact ⟨0, by omega, rfl, heap_alloc_new w _, (Keeps.refl [] w).alloc _, by simp⟩
  case round =>
    obtain ⟨p, hp, hg, hit, hk, hall⟩ := hrel
    have HG := Lib.hid hg
    have HA := Lib.hid (And.intro hk hall)
    clear hg hk hall
    by_cases hlt : p < s.size
    · have hlt' : p < s.data.toList.length := by rw [toList_len]; exact hlt
      have hsn : s.data.toList.take (p + 1) = s.data.toList.take p ++ [s[p]'hlt] := by
        rw [List.take_succ_eq_append_getElem hlt']; rfl
      have hnx := fun ty => Lib.run_next_any_at (P := Try.prog) wr w.heap.size s p ty hit hlt
      rcases okB_rune s p hlt with ⟨ho, hd⟩ | ⟨ho, hd⟩
      · have hkn : Keeps [] w (wr.iterAt w.heap.size s (p + 1)) := by
          have := HA.out.1
          exact .of_below (Lib.below_iterAt this.below (Nat.le_refl _) s (p + 1))
        have hin := Lib.iterAt_heap wr w.heap.size s p (p + 1) hit
        have HN : Hid (∃ q : Nat, q ≤ s.size ∧ s.size - (p + 1) = s.size - q ∧ (wr.iterAt w.heap.size s (p + 1)).heap[w.heap.size]? = some (.stringIter s q) ∧ Keeps [] w (wr.iterAt w.heap.size s (p + 1)) ∧ (s.data.toList.take q).all okB = true) :=
          ⟨p + 1, by omega, rfl, hin, hkn, by rw [hsn, List.all_append, HA.out.2]; simp [ho]⟩
        rw [hd] at hnx
        unfold okB at ho
        generalize (s[p]'hlt).toNat = c at ho hnx
        have ho' : (97 ≤ c ∧ c ≤ 122) ∨ (48 ≤ c ∧ c ≤ 57) := by simpa using ho
        clear ho hd hsn hkn hin hit
        dsimp only at hnx
        rcases ho' with ⟨h1, h2⟩ | ⟨h1, h2⟩
        · have b1 : decide ((c : Int) < 97) = false := decide_eq_false (by omega)
          have b2 : decide ((122 : Int) < c) = false := decide_eq_false (by omega)
          have b3 : ¬ c < 97 := by omega
          have b4 : ¬ 122 < c := by omega
          go_wp2_with fail
          go_roundg (s.size - (p + 1))
          case measure => have := HG.out; omega
          case rel => exact HN.out
        · have b1 : decide ((c : Int) < 97) = true := decide_eq_true (by omega)
          have b2 : decide ((c : Int) < 48) = false := decide_eq_false (by omega)
          have b5 : decide ((57 : Int) < c) = false := decide_eq_false (by omega)
          have b3 : c < 97 := by omega
          have b4 : ¬ c < 48 := by omega
          have b6 : ¬ 57 < c := by omega
          go_wp2_with fail
          go_roundg (s.size - (p + 1))
          case measure => have := HG.out; omega
          case rel => exact HN.out
      · have hkn : Hid (Keeps [] w (wr.iterAt w.heap.size s (p + (Utf8.decode s p).2))) := by
          have := HA.out.1
          exact .of_below (Lib.below_iterAt this.below (Nat.le_refl _) s _)
        have hno : Hid (namedL s.data.toList = false) := by
          show namedL s.data.toList = false
          have : s.data.toList.all okB = false := by
            rw [List.all_eq_false]
            exact ⟨s[p]'hlt, by rw [show s[p]'hlt = s.data.toList[p]'hlt' from rfl]; exact List.getElem_mem hlt', by rw [ho]; simp⟩
          unfold namedL; rw [this]; rfl
        generalize (Utf8.decode s p).1 = c at hnx hd
        generalize p + (Utf8.decode s p).2 = q at hnx hkn
        clear hsn hit ho HA HG
        by_cases h1 : c < 97
        · by_cases h2 : c < 48
          · have b1 : decide ((c : Int) < 97) = true := decide_eq_true (by omega)
            have b2 : decide ((c : Int) < 48) = true := decide_eq_true (by omega)
            go_wp2_with fail
            go_ret
            exact ⟨by rw [hno.out]; rfl, hkn.out⟩
          · have b1 : decide ((c : Int) < 97) = true := decide_eq_true (by omega)
            have b2 : decide ((c : Int) < 48) = false := decide_eq_false (by omega)
            have h3 : 57 < c := by omega
            have b3 : decide ((57 : Int) < c) = true := decide_eq_true (by omega)
            go_wp2_with fail
            go_ret
            exact ⟨by rw [hno.out]; rfl, hkn.out⟩
        · have h2 : 122 < c := by omega
          have h3 : ¬ c < 48 := by omega
          have h4 : 57 < c := by omega
          have b1 : decide ((c : Int) < 97) = false := decide_eq_false (by omega)
          have b2 : decide ((122 : Int) < c) = true := decide_eq_true (by omega)
          have b3 : decide ((c : Int) < 48) = false := decide_eq_false (by omega)
          have b4 : decide ((57 : Int) < c) = true := decide_eq_true (by omega)
          go_wp2_with fail
          go_ret
          exact ⟨by rw [hno.out]; rfl, hkn.out⟩
    · have hnx := fun ty => Lib.run_next_end_at (P := Try.prog) wr w.heap.size s p ty hit hlt
      have hps : p = s.size := by omega
      have hall : Hid (s.data.toList.all okB = true ∧ Keeps [] w wr) := ⟨by
        have := HA.out.2
        rwa [List.take_of_length_le (by rw [toList_len]; omega)] at this, HA.out.1⟩
      clear hit HA HG hps
      by_cases h0 : s.size = 0
      · obtain rfl : s = ⟨#[]⟩ := by
          cases s with
          | mk d => congr 1; exact Array.eq_empty_of_size_eq_zero h0
        clear h0 hlt hp hs
        go_wp2_with fail
        go_ret
        exact ⟨by rfl, hall.out.2⟩
      · have hn1 : s.toList.isEmpty = false := by
          rw [ByteArray.toList_eq, List.isEmpty_eq_false_iff]; intro e; have := toList_len s; rw [e] at this; simp at this; omega
        have hn2 : (s.toList == (ByteArray.mk #[]).toList) = false := by
          rw [beq_eq_false_iff_ne, ByteArray.toList_eq, ByteArray.toList_eq]
          intro e
          have := congrArg List.length e
          rw [toList_len] at this
          exact h0 this
        by_cases h16 : s.size ≤ 16
        · have HE : Hid (namedL s.data.toList = true) := by
            show namedL s.data.toList = true
            unfold namedL
            rw [hall.out.1, decide_eq_true (show s.data.toList.length ≤ 16 by rw [toList_len]; exact h16)]
            rw [ByteArray.toList_eq] at hn1
            rw [hn1]; rfl
          have b1 : decide ((s.size : Int) ≤ 16) = true := decide_eq_true (by omega)
          clear hlt hp hs
          go_wp2_with fail
          go_ret
          exact ⟨by rw [HE.out]; rfl, hall.out.2⟩
        · have HE : Hid (namedL s.data.toList = false) := by
            show namedL s.data.toList = false
            unfold namedL
            rw [decide_eq_false (show ¬ s.data.toList.length ≤ 16 by rw [toList_len]; exact h16)]
            simp
          have b1 : decide ((s.size : Int) ≤ 16) = false := decide_eq_false (by omega)
          clear hlt hp hs
          go_wp2_with fail
          go_ret
          exact ⟨by rw [HE.out]; rfl, hall.out.2⟩
end Go.Proofs.Ytepnbfpclhincaa

namespace Go.Proofs.Ytepnbfpclhincaa
open Go.RowKit

/-- A grant that may stand in a table. -/
def goodK (k : GKey) : Prop := 0 ≤ k.1 ∧ k.1 < 8 ∧ namedL k.2 = true
structure TabAt (w : World) (p b : Nat) (L : List GKey) : Prop where
  head : w.heap[p]? = some (.cells #[.map (some b)] 38 (0, 0))
  set : SetAt encK w b L
  nodup : L.Nodup
  good : ∀ x ∈ L, goodK x
  len : L.length ≤ 16
theorem TabAt.keeps {w w' : World} {p b : Nat} {L : List GKey} {F : List Nat} (h : TabAt w p b L) (k : Keeps F w w') (hp : p ∉ F) (hb : b ∉ F) : TabAt w' p b L :=
  ⟨k.heap h.head hp, h.set.keeps k hb, h.nodup, h.good, h.len⟩
theorem TabAt.ne {w : World} {p b : Nat} {L : List GKey} (h : TabAt w p b L) : p ≠ b := fun e => by
  obtain ⟨es, clock, hb, -⟩ := h.set.ex
  have := h.head; rw [e, hb] at this; cases this
def addCode (L : List GKey) (k : GKey) : Int := if k.1 < 0 ∨ 8 ≤ k.1 then 2 else if namedL k.2 = false then 30 else if k ∈ L then 34 else if 16 ≤ L.length then 35 else 0
def addTo (L : List GKey) (k : GKey) : List GKey := if addCode L k = 0 then L ++ [k] else L

theorem Keeps.drewN {F : List Nat} (w : World) (n : Nat) : Keeps F w (w.drewN n) := ⟨rfl, rfl, rfl, Nat.le_refl _, fun _ _ _ => rfl⟩
theorem underMap : Try.prog.underlying 28 = some (.map 32 4) := Try.underlying28

set_option maxRecDepth 100000 in
set_option maxHeartbeats 2000000 in
theorem Add_any (w : World) (p b : Nat) (L : List GKey) (k : GKey) (h : TabAt w p b L) (hkl : k.2.length ≤ maxLen) :
    Calls Try.prog 6 #[.pointer (some ⟨p, 0, none⟩), encK k] w fun e w' => e = .returned (.int .i64 (addCode L k)) ∧ TabAt w' p b (addTo L k) ∧ Keeps [b] w w' := by
  obtain ⟨c, f⟩ := k
  obtain ⟨s, hs⟩ : ∃ s : ByteArray, s = ⟨f.toArray⟩ := ⟨_, rfl⟩
  have hsf : s.data.toList = f := by rw [hs]
  have hsz : s.size ≤ maxLen := by rw [← toList_len, hsf]; exact hkl
  have hNm : Hid (∀ w', Calls Try.prog 11 #[.string s] w' fun e w'' => e = .returned (.bool (namedL f)) ∧ Keeps [] w' w'') := fun w' => by
    have := Named_any s hsz w'; rw [hsf] at this; exact this
  have hQ : Hid (∀ w' code, addCode L (c, f) = code → code ≠ 0 → Keeps [] w w' → ((.returned (.int .i64 code) : Ending) = .returned (.int .i64 (addCode L (c, f))) ∧ TabAt w' p b (addTo L (c, f)) ∧ Keeps [b] w w')) := fun w' code hc h0 hk => by
    refine ⟨by rw [hc], ?_, hk.nil⟩
    unfold addTo; rw [hc, if_neg h0]
    exact h.keeps hk (by simp) (by simp)
  have hkw : Keeps [] w (w.alloc (.cells #[.int .i64 c, .string s] 32)) := (Keeps.refl [] w).alloc _
  have HKW := Lib.hid hkw
  have HS := Lib.hid hs
  have HT := Lib.hid h
  show Calls _ _ #[_, .agg #[.int .i64 c, .string ⟨f.toArray⟩]] _ _
  rw [← hs]
  clear hs hkw hsf hsz hkl h
  by_cases hc : c < 0 ∨ 8 ≤ c
  · have HC : Hid (addCode L (c, f) = 2) := by show addCode L (c, f) = 2; unfold addCode; rw [if_pos hc]
    by_cases h1 : c < 0
    · have b1 : decide (c < 0) = true := decide_eq_true h1
      clear hc
      go_enter Try.func6, Try.ntmps6
      go_wp2_with fail
      go_ret
      exact hQ.out _ 2 HC.out (by decide) HKW.out
    · have h2 : 8 ≤ c := by omega
      have b1 : decide (c < 0) = false := decide_eq_false h1
      have b2 : decide (8 ≤ c) = true := decide_eq_true h2
      clear hc
      go_enter Try.func6, Try.ntmps6
      go_wp2_with fail
      go_ret
      exact hQ.out _ 2 HC.out (by decide) HKW.out
  · have h1 : ¬ c < 0 := by omega
    have h2 : ¬ 8 ≤ c := by omega
    have b1 : decide (c < 0) = false := decide_eq_false h1
    have b2 : decide (8 ≤ c) = false := decide_eq_false h2
    cases hnm : namedL f with
    | false =>
      have HC : Hid (addCode L (c, f) = 30) := by show addCode L (c, f) = 30; unfold addCode; rw [if_neg hc, if_pos hnm]
      rw [hnm] at hNm
      clear hc hnm
      go_enter Try.func6, Try.ntmps6
      go_wp2_with fail
      refine (hNm.out _).mono ?_
      rintro e w1 ⟨rfl, hk1⟩
      have HK := Lib.hid (HKW.out.trans hk1)
      clear hk1
      go_wp2_with fail
      go_ret
      exact hQ.out _ 30 HC.out (by decide) HK.out
    | true =>
      rw [hnm] at hNm
      have HNM : Hid (namedL f = true ∧ ¬ (c < 0 ∨ 8 ≤ c)) := ⟨hnm, hc⟩
      clear hc hnm
      go_enter Try.func6, Try.ntmps6
      go_wp2_with fail
      refine (hNm.out _).mono ?_
      rintro e w1 ⟨rfl, hk1⟩
      have hT1 := HT.out.keeps (HKW.out.trans hk1) (by simp) (by simp)
      have HK := Lib.hid (HKW.out.trans hk1)
      have hbx : w1.heap[w.heap.size]? = some (.cells #[.int .i64 c, .string s] 32 (0, 0)) := hk1.heap (heap_alloc_new w _) (by simp)
      have d0 : w1.cell? ⟨w.heap.size, 0, none⟩ = some (.int .i64 c) := by rw [cell_blk hbx]; rfl
      have d1 : w1.cell? ⟨w.heap.size, 1, none⟩ = some (.string s) := by rw [cell_blk hbx]; rfl
      have dp : w1.cell? ⟨p, 0, none⟩ = some (.map (some b)) := by rw [cell_blk hT1.head]; rfl
      have hek : encK (c, f) = .agg #[.int .i64 c, .string s] := by unfold encK; rw [HS.out]
      have hlk : ∀ n, (Instr.lookup 28 (.map (some b)) (.agg #[.int .i64 c, .string s]) false).run Try.prog (w1.drewN n) = .ok (.bool (memB (c, f) L)) (w1.drewN n) := fun n => by
        rw [← hek]; exact (hT1.set.drewN n).lookup keyK underMap (zeroB _) (c, f)
      have HT1 := Lib.hid hT1
      have HEK := Lib.hid hek
      have HBX := Lib.hid hbx
      clear hT1 hbx hek hk1
      cases hmm : memB (c, f) L with
      | true =>
        have HC : Hid (addCode L (c, f) = 34) := by show addCode L (c, f) = 34; unfold addCode; rw [if_neg HNM.out.2, if_neg (by rw [HNM.out.1]; decide), if_pos (memB_true.1 hmm)]
        rw [hmm] at hlk
        clear hmm
        go_wp2_with fail
        go_quiet (fail)
        go_wp2_with fail
        go_ret
        exact hQ.out _ 34 HC.out (by decide) (HK.out.trans (Keeps.drewN _ _))
      | false =>
        rw [hmm] at hlk
        have HMM := Lib.hid (memB_false.1 hmm)
        clear hmm
        have hln := fun n ty => (HT1.out.set.drewN n).len underMap ty
        by_cases h16 : 16 ≤ L.length
        · have HC : Hid (addCode L (c, f) = 35) := by show addCode L (c, f) = 35; unfold addCode; rw [if_neg HNM.out.2, if_neg (by rw [HNM.out.1]; decide), if_neg HMM.out, if_pos h16]
          have b3 : decide ((16 : Int) ≤ (L.length : Int)) = true := decide_eq_true (by omega)
          have b4 : (16 : Int) ≤ (L.length : Int) := by omega
          go_wp2_with fail
          go_quiet (fail)
          go_wp2_with fail
          go_ret
          exact hQ.out _ 35 HC.out (by decide) (HK.out.trans (Keeps.drewN _ _))
        · have HC : Hid (addCode L (c, f) = 0) := by show addCode L (c, f) = 0; unfold addCode; rw [if_neg HNM.out.2, if_neg (by rw [HNM.out.1]; decide), if_neg HMM.out, if_neg h16]
          have b3 : decide ((16 : Int) ≤ (L.length : Int)) = false := decide_eq_false (by omega)
          have b4 : ¬ (16 : Int) ≤ (L.length : Int) := by omega
          go_wp2_with fail
          go_quiet (fail)
          go_wp2_with fail
          have hdn : Keeps [] w1 (w1.drewN nq) := Keeps.drewN _ _
          have HK2 := Lib.hid (HK.out.trans hdn)
          have hT2 := HT1.out.keeps hdn (by simp) (by simp)
          have hbx2 := hdn.heap HBX.out (by simp)
          generalize w1.drewN nq = W2 at HK2 hT2 hbx2
          clear hdn d0 d1 dp hlk hln
          have hpb : p ≠ b := hT2.ne
          have hsb : w.heap.size ≠ b := fun e => by
            obtain ⟨es, clock, hb, -⟩ := hT2.set.ex
            rw [e, hb] at hbx2; cases hbx2
          have HSS : Hid (∀ w', Keeps [b] W2 w' → w'.cell? ⟨p, 0, none⟩ = some (.map (some b)) ∧ w'.cell? ⟨w.heap.size, 0, none⟩ = some (.int .i64 c) ∧ w'.cell? ⟨w.heap.size, 1, none⟩ = some (.string s)) := fun w' hk => by
            refine ⟨hk.cell (by rw [cell_blk hT2.head]; rfl) (by simpa using hpb), hk.cell (by rw [cell_blk hbx2]; rfl) (by simpa using hsb), hk.cell (by rw [cell_blk hbx2]; rfl) (by simpa using hsb)⟩
          obtain ⟨o, hr, hS, hk⟩ := (hT2.set.keeps (F := []) ((Keeps.refl [] W2).drew) (by simp)).update keyK underMap (c, f) HMM.out
          rw [HEK.out] at hr
          have HRes : Hid (TabAt (W2.drew.putObj b o) p b (addTo L (c, f)) ∧ Keeps [b] w (W2.drew.putObj b o)) := by
            refine ⟨?_, (HK2.out.nil).trans ((Keeps.refl _ W2).drew.trans hk)⟩
            have e : addTo L (c, f) = L ++ [(c, f)] := by unfold addTo; rw [if_pos HC.out]
            rw [e]
            refine ⟨((Keeps.refl [b] W2).drew.trans hk).heap hT2.head (by simpa using hpb), hS, ?_, ?_, ?_⟩
            · refine List.nodup_append.2 ⟨hT2.nodup, by simp, fun a ha b' hb' => ?_⟩
              simp at hb'; subst hb'
              intro e; subst e; exact HMM.out ha
            · intro x hx
              rcases List.mem_append.1 hx with h | h
              · exact hT2.good x h
              · simp at h; subst h
                exact ⟨by show 0 ≤ c; omega, by show c < 8; omega, HNM.out.1⟩
            · rw [List.length_append, List.length_singleton]; omega
          have HK3 : Hid (Keeps [b] W2 (W2.drew.putObj b o)) := (Keeps.refl _ W2).drew.trans hk
          have HKd : Hid (Keeps [b] W2 W2.drew) := (Keeps.refl _ W2).drew
          obtain ⟨e1, e2, e3⟩ := HSS.out W2 (Keeps.refl _ _)
          clear hT2 hbx2 hS hk
          go_region_held3 (fun w' => w'.cell? ⟨p, 0, none⟩ = some (.map (some b)) ∧ w'.cell? ⟨w.heap.size, 0, none⟩ = some (.int .i64 c) ∧ w'.cell? ⟨w.heap.size, 1, none⟩ = some (.string s)) ((first | assumption | exact HSS.out _ HKd.out | exact HSS.out _ HK3.out)) (fail)
          all_goals
            go_wp2_with fail
            go_ret
            exact ⟨by rw [HC.out]; rfl, HRes.out⟩

set_option maxRecDepth 100000 in
set_option maxHeartbeats 2000000 in
theorem Has_any (w : World) (p b : Nat) (L : List GKey) (k : GKey) (h : TabAt w p b L) :
    Calls Try.prog 9 #[.pointer (some ⟨p, 0, none⟩), encK k] w fun e w' => e = .returned (.bool (memB k L)) ∧ Keeps [] w w' := by
  have hT1 := h.keeps (F := []) ((Keeps.refl [] w).alloc (.cells #[.int .i64 k.1, .string ⟨k.2.toArray⟩] 32)) (by simp) (by simp)
  have hbx := heap_alloc_new w (.cells #[.int .i64 k.1, .string ⟨k.2.toArray⟩] 32)
  have hkw : Keeps [] w (w.alloc (.cells #[.int .i64 k.1, .string ⟨k.2.toArray⟩] 32)) := (Keeps.refl [] w).alloc _
  have hlk0 := fun n => (hT1.set.drewN n).lookup keyK underMap (zeroB _) k
  unfold encK at hlk0 ⊢
  generalize ByteArray.mk k.2.toArray = s at hT1 hbx hlk0 hkw ⊢
  generalize k.1 = c at hT1 hbx hlk0 hkw ⊢
  have dp : (w.alloc (.cells #[.int .i64 c, .string s] 32)).cell? ⟨p, 0, none⟩ = some (.map (some b)) := by rw [cell_blk hT1.head]; rfl
  have HKW := Lib.hid hkw
  cases hmm : memB k L <;>
  · rw [hmm] at hlk0
    clear hmm h hT1 hbx hkw
    go_enter Try.func9, Try.ntmps9
    go_wp2_with fail
    go_quiet (fail)
    go_wp2_with fail
    go_ret
    exact ⟨rfl, HKW.out.trans (Keeps.drewN _ _)⟩

def dropCode (L : List GKey) (k : GKey) : Int := if k ∈ L then 0 else 13
set_option maxRecDepth 100000 in
set_option maxHeartbeats 2000000 in
theorem Drop_any (w : World) (p b : Nat) (L : List GKey) (k : GKey) (h : TabAt w p b L) :
    Calls Try.prog 8 #[.pointer (some ⟨p, 0, none⟩), encK k] w fun e w' => e = .returned (.int .i64 (dropCode L k)) ∧ TabAt w' p b (eraseA L k) ∧ Keeps [b] w w' := by
  have hT1 := h.keeps (F := []) ((Keeps.refl [] w).alloc (.cells #[.int .i64 k.1, .string ⟨k.2.toArray⟩] 32)) (by simp) (by simp)
  have hbx := heap_alloc_new w (.cells #[.int .i64 k.1, .string ⟨k.2.toArray⟩] 32)
  have hkw : Keeps [] w (w.alloc (.cells #[.int .i64 k.1, .string ⟨k.2.toArray⟩] 32)) := (Keeps.refl [] w).alloc _
  have hlk0 := fun n => (hT1.set.drewN n).lookup keyK underMap (zeroB _) k
  have HEK : Hid (encK k = .agg #[.int .i64 k.1, .string ⟨k.2.toArray⟩]) := rfl
  unfold encK at hlk0 ⊢
  generalize ByteArray.mk k.2.toArray = s at hT1 hbx hlk0 hkw HEK ⊢
  generalize hc : k.1 = c at hT1 hbx hlk0 hkw HEK ⊢
  clear hc
  have dp : (w.alloc (.cells #[.int .i64 c, .string s] 32)).cell? ⟨p, 0, none⟩ = some (.map (some b)) := by rw [cell_blk hT1.head]; rfl
  have HKW := Lib.hid hkw
  have HT1 := Lib.hid hT1
  have HBX := Lib.hid hbx
  cases hmm : memB k L with
  | false =>
    have HM := Lib.hid (memB_false.1 hmm)
    rw [hmm] at hlk0
    clear hmm h hT1 hbx hkw
    go_enter Try.func8, Try.ntmps8
    go_wp2_with fail
    go_quiet (fail)
    go_wp2_with fail
    go_ret
    have hk := HKW.out.trans (Keeps.drewN _ ‹Nat›)
    refine ⟨by unfold dropCode; rw [if_neg HM.out]; rfl, ?_, hk.nil⟩
    rw [eraseA_not HM.out]
    exact HT1.out.keeps (Keeps.drewN (F := []) _ _) (by simp) (by simp)
  | true =>
    have HM := Lib.hid (memB_true.1 hmm)
    rw [hmm] at hlk0
    clear hmm h hT1 hbx hkw
    go_enter Try.func8, Try.ntmps8
    go_wp2_with fail
    go_quiet (fail)
    go_wp2_with fail
    have hdn := Keeps.drewN (F := []) (w.alloc (.cells #[.int .i64 c, .string s] 32)) nq
    have HK2 := Lib.hid (HKW.out.trans hdn)
    have hT2 := HT1.out.keeps hdn (by simp) (by simp)
    have hbx2 := hdn.heap HBX.out (by simp)
    generalize (w.alloc (.cells #[.int .i64 c, .string s] 32)).drewN nq = W2 at HK2 hT2 hbx2 ⊢
    clear hdn dp hlk0
    have hpb : p ≠ b := hT2.ne
    have hsb : w.heap.size ≠ b := fun e => by
      obtain ⟨es, clock, hb, -⟩ := hT2.set.ex
      rw [e, hb] at hbx2; cases hbx2
    have HSS : Hid (∀ w', Keeps [b] W2 w' → w'.cell? ⟨p, 0, none⟩ = some (.map (some b)) ∧ w'.cell? ⟨w.heap.size, 0, none⟩ = some (.int .i64 c) ∧ w'.cell? ⟨w.heap.size, 1, none⟩ = some (.string s)) := fun w' hk => by
      refine ⟨hk.cell (by rw [cell_blk hT2.head]; rfl) (by simpa using hpb), hk.cell (by rw [cell_blk hbx2]; rfl) (by simpa using hsb), hk.cell (by rw [cell_blk hbx2]; rfl) (by simpa using hsb)⟩
    obtain ⟨o, hr, hS, hk⟩ := (hT2.set.keeps (F := []) ((Keeps.refl [] W2).drew) (by simp)).delete keyK underMap k HM.out hT2.nodup 0 32
    rw [HEK.out] at hr
    have HRes : Hid (TabAt (W2.drew.putObj b o) p b (eraseA L k) ∧ Keeps [b] w (W2.drew.putObj b o)) :=
      ⟨⟨((Keeps.refl [b] W2).drew.trans hk).heap hT2.head (by simpa using hpb), hS, eraseA_nodup hT2.nodup k, fun x hx => hT2.good x (eraseA_mem hx), by have := hT2.len; have := eraseA_le L k; omega⟩, (HK2.out.nil).trans ((Keeps.refl _ W2).drew.trans hk)⟩
    have HK3 : Hid (Keeps [b] W2 (W2.drew.putObj b o)) := (Keeps.refl _ W2).drew.trans hk
    have HKd : Hid (Keeps [b] W2 W2.drew) := (Keeps.refl _ W2).drew
    obtain ⟨e1, e2, e3⟩ := HSS.out W2 (Keeps.refl _ _)
    clear hT2 hbx2 hS hk
    go_region_held3 (fun w' => w'.cell? ⟨p, 0, none⟩ = some (.map (some b)) ∧ w'.cell? ⟨w.heap.size, 0, none⟩ = some (.int .i64 c) ∧ w'.cell? ⟨w.heap.size, 1, none⟩ = some (.string s)) ((first | assumption | exact HSS.out _ HKd.out | exact HSS.out _ HK3.out)) (fail)
    all_goals
      go_wp2_with fail
      go_ret
      exact ⟨by unfold dropCode; rw [if_pos HM.out]; rfl, HRes.out⟩
end Go.Proofs.Ytepnbfpclhincaa
