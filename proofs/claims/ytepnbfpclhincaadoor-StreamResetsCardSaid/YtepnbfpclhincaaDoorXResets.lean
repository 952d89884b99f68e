/-
  Wherever the power fails in a Reset, the records ahead of it are there, or those that it lays, whole: for every two lists and every loss.
  An argument as it is read: one loss.
  StreamResets: wherever the power fails in a Reset, the records ahead of it are there, or those that it lays, whole: the law returns true for every two lists and every loss; nothing that was there is changed. Conditions: the two listed library tables hold what the program lays in them (the card ties them).
-/
import Derived.Test.YtepnbfpclhincaaDoorMH
import Derived.Deep.LoopGhost
import Derived.Deep.DeepCutAuto
import Derived.Test.YtepnbfpclhincaaDoorMF
import Derived.Lib.SmallJoins
set_option linter.unusedVariables false
set_option linter.unusedSimpArgs false
namespace Go.Proofs.YtepnbfpclhincaaDoor
open Go.RowKit

/-- How a Reset ends. -/
def ResMay (bd : Nat) (ps F : List Nat) (D : DiskM) (p : Nat) (l : List (List UInt8)) (S : StM) (us ts : List (List UInt8)) (w : World) (e : Ending) (w' : World) : Prop :=
  (∃ F' D' l', e = .returned (.int .i64 0) ∧ Live w' bd ps F' D' p l' (S.reset ts) ts ∧ (D.tleft = 0 → D'.tleft = 0) ∧ l'.length = l.length ∧ Moves (p :: F) w (p :: F') w') ∨
  (∃ F' D' l', e = .returned (.int .i64 11) ∧ D.tleft ≠ 0 ∧ DiskAt w' bd ps D' F' ∧ Down D' l' ∧ (∀ s ∈ l', s.length = 64) ∧ l'.length = l.length ∧ (openS l').gen ≤ S.gen + 1 ∧ (openRecs l' = us ∨ openRecs l' = ts) ∧ Moves (p :: F) w (p :: F') w')
theorem Reset_may (w : World) (bd p : Nat) (ps F : List Nat) (D : DiskM) (l us : List (List UInt8)) (S : StM) (v : Value) (ts : List (List UInt8)) (h : Live w bd ps F D p l S us) (hv : Sees w v (ts.map strV)) (ht : ∀ t ∈ ts, 1 ≤ t.length ∧ t.length ≤ 4096)
    (hc : (framesL ts).length ≤ S.sz * 55 - 1) (hgen : S.gen < 281474976710655) :
    Calls Tryd.prog 12 #[ptrV p, v] w (ResMay bd ps F D p l S us ts w) := by
  have ho := h.holds.open
  have hcan := h.holds.okay.can
  have hsz2 := h.holds.okay.sz2
  refine (Reset_go w p bd ps F D l S v ts h.disk h.up h.st h.out hcan hv ht (by omega) hc hgen).mono ?_
  rintro e w' ⟨F', D', hD', hp, hm, ⟨rfl, hU', hst, hl⟩ | ⟨rfl, hn, l1, l', hDn, hu, hl⟩⟩
  · exact .inl ⟨F', D', _, rfl, ⟨hD', hU', hst, hp, Holds.of_reset hcan h.holds.sz h.holds.l64 h.holds.newest hgen ht hc⟩, hl, by rw [List.length_set, over_length], hm⟩
  · rcases hl with rfl | ⟨rfl, rfl⟩
    · have hr := cut_reset (S := S) (by rw [ho.2]) h.holds.sz hcan.half (by have := h.holds.okay.len; have := h.holds.okay.sz1; omega) (resCells_len hcan.sz1 hc) hu
      refine .inr ⟨F', D', l', rfl, hn, hD', hDn, hu.l64 h.holds.l64 (splitL_64 _ _ _ _ rfl), hu.1, ?_, .inl (by rw [hr.1]; exact ho.1), hm⟩
      refine openS_gen_le (hu.newest (by have := h.holds.newest; omega) (fun c hc' g i d hp => resCells_gen hgen hcan.sz2 hc c hc' g i d hp)) (fun g half hp => ?_)
      rw [hr.2.2, h.holds.parse] at hp
      injection hp with e; injection e with e1 e2
      omega
    · have hH := Holds.of_reset hcan h.holds.sz h.holds.l64 h.holds.newest hgen ht hc
      have ho2 := hH.open
      exact .inr ⟨F', D', _, rfl, hn, hD', hDn, hH.l64, by rw [List.length_set, over_length], by rw [ho2.2]; exact Nat.le_refl _, .inr ho2.1, hm⟩

/-- What a list becomes: ten of it at most, a hundred bytes each at most, none that is empty. -/
def filt (l : List (List UInt8)) : List (List UInt8) := (l.map (·.take 100)).filter (fun b => decide (b ≠ []))
theorem filt_snoc (l : List (List UInt8)) (b : List UInt8) : filt (l ++ [b]) = filt l ++ (if b.take 100 = [] then [] else [b.take 100]) := by
  unfold filt
  rw [List.map_append, List.filter_append]
  by_cases h : b.take 100 = [] <;> simp [h]
theorem filt_mem {l : List (List UInt8)} {b : List UInt8} (h : b ∈ filt l) : 1 ≤ b.length ∧ b.length ≤ 100 := by
  unfold filt at h
  obtain ⟨h1, h2⟩ := List.mem_filter.1 h
  obtain ⟨x, _, rfl⟩ := List.mem_map.1 h1
  have : x.take 100 ≠ [] := by simpa using h2
  exact ⟨Nat.one_le_iff_ne_zero.2 (fun e => this (List.eq_nil_of_length_eq_zero e)), by rw [List.length_take]; omega⟩
theorem filt_len (l : List (List UInt8)) : (filt l).length ≤ l.length := by
  unfold filt
  have := List.length_filter_le (fun b => decide (b ≠ [])) (l.map (·.take 100))
  simpa using this
theorem framesL_le {ts : List (List UInt8)} {c : Nat} (h : ∀ t ∈ ts, t.length ≤ c) : (framesL ts).length ≤ ts.length * (c + 6) := by
  induction ts with
  | nil => simp [framesL]
  | cons t ts ih =>
    have h1 := h t (List.mem_cons_self ..)
    have h2 := ih (fun u hu => h u (List.mem_cons_of_mem _ hu))
    simp only [framesL, List.flatMap_cons, List.length_append, frameL_length, List.length_cons] at *
    rw [Nat.add_mul]; omega

/-- The two lists that the law makes, as they grow. -/
structure ListRel (wB : World) (bl : Nat) (tf : Nat → List (List UInt8)) (V : Nat → Value) (wr : World) : Prop where
  head : wr.heap[bl]? = some (.cells #[V 0, V 1] 47 (0, 0))
  tx : ∀ i, i < 2 → Texts wr (V i) (tf i)
  lo : ∀ i, i < 2 → ∀ k, k ∈ own (V i) → wB.heap.size ≤ k
  apart : ∀ i j, i < 2 → j < 2 → i ≠ j → ∀ k, k ∈ own (V i) → k ∉ own (V j)
  keeps : Keeps [bl] wB wr
theorem ListRel.cell {wB wr : World} {bl : Nat} {tf : Nat → List (List UInt8)} {V : Nat → Value} (h : ListRel wB bl tf V wr) {i : Nat} (hi : i < 2) : wr.cell? ⟨bl, i, none⟩ = some (V i) ∧ wr.frozen? ⟨bl, i, none⟩ = false := by
  refine ⟨?_, free_blk h.head i⟩
  rw [cell_blk h.head]
  have : i = 0 ∨ i = 1 := by omega
  rcases this with rfl | rfl <;> rfl
def updF {α : Type} (f : Nat → α) (i : Nat) (x : α) : Nat → α := fun j => if j = i then x else f j
theorem updF_same {α : Type} (f : Nat → α) (i : Nat) (x : α) : updF f i x i = x := by simp [updF]
theorem updF_ne {α : Type} (f : Nat → α) {i j : Nat} (x : α) (h : j ≠ i) : updF f i x j = f j := by simp [updF, h]
theorem updF_updF {α : Type} (f : Nat → α) (i : Nat) (x y : α) : updF (updF f i x) i y = updF f i y := by
  funext j; unfold updF; split <;> rfl
theorem ListRel.app {wB wr w' : World} {bl i : Nat} {tf : Nat → List (List UInt8)} {V : Nat → Value} {v' : Value} {b : List UInt8} (h : ListRel wB bl tf V wr) (hi : i < 2) (hbl : bl < wB.heap.size) (ho : Texts w' v' (tf i ++ [b])) (hk : Keeps (own (V i)) wr w')
    (hf : ∀ k, k ∈ own v' → k ∈ own (V i) ∨ wr.heap.size ≤ k) : ListRel wB bl (updF tf i (tf i ++ [b])) (updF V i v') (w'.setCell ⟨bl, i, none⟩ v') := by
  have hz := h.keeps.size
  have hbo : bl ∉ own (V i) := fun hx => by have := h.lo i hi bl hx; omega
  have hb' : w'.heap[bl]? = some (.cells #[V 0, V 1] 47 (0, 0)) := hk.heap h.head hbo
  have hlo' : ∀ k, k ∈ own v' → wB.heap.size ≤ k := fun k hk' => (hf k hk').elim (h.lo i hi k) (fun h => by omega)
  have hset : Keeps [bl] w' (w'.setCell ⟨bl, i, none⟩ v') := Keeps.one bl i v'
  have hnb : ∀ k, wB.heap.size ≤ k → k ∉ [bl] := fun k hk' hx => by simp at hx; omega
  refine ⟨?_, ?_, ?_, ?_, ?_⟩
  · rw [setCell_blk hb' i v']
    have : i = 0 ∨ i = 1 := by omega
    rcases this with rfl | rfl <;> rfl
  · intro j hj
    by_cases e : j = i
    · subst e
      rw [updF_same, updF_same]
      exact ownsRow_keeps hset ho (fun k hk' => hnb k (hlo' k hk'))
    · rw [updF_ne _ _ e, updF_ne _ _ e]
      exact ownsRow_keeps hset (ownsRow_keeps hk (h.tx j hj) (fun k hk' => h.apart j i hj hi e k hk')) (fun k hk' => hnb k (h.lo j hj k hk'))
  · intro j hj k hk'
    by_cases e : j = i
    · subst e; rw [updF_same] at hk'; exact hlo' k hk'
    · rw [updF_ne _ _ e] at hk'; exact h.lo j hj k hk'
  · intro j l hj hl hjl k hk1 hk2
    by_cases e : j = i
    · subst e
      rw [updF_same] at hk1
      rw [updF_ne _ _ (Ne.symm hjl)] at hk2
      rcases hf k hk1 with h1 | h1
      · exact h.apart j l hj hl hjl k h1 hk2
      · have := ownsRow_lt (h.tx l hl) k hk2; omega
    · rw [updF_ne _ _ e] at hk1
      by_cases e2 : l = i
      · subst e2
        rw [updF_same] at hk2
        rcases hf k hk2 with h1 | h1
        · exact h.apart j l hj hl hjl k hk1 h1
        · have := ownsRow_lt (h.tx j hj) k hk1; omega
      · rw [updF_ne _ _ e2] at hk2
        exact h.apart j l hj hl hjl k hk1 hk2
  · exact (h.keeps.trans' hk (fun x hx hl => by have := h.lo i hi x hx; omega)).trans hset
theorem ListRel.quiet {wB wr w' : World} {bl : Nat} {tf : Nat → List (List UInt8)} {V : Nat → Value} (h : ListRel wB bl tf V wr) (k : Keeps [] wr w') : ListRel wB bl tf V w' :=
  ⟨k.heap h.head (by simp), fun i hi => ownsRow_keeps k (h.tx i hi) (by simp), h.lo, h.apart, h.keeps.trans0 k⟩

/-- What the law itself holds: its two lists, and the loss in its box. -/
structure Stuff (b5 bl : Nat) (V0 V1 : Value) (R0 R1 : List (List UInt8)) (N : Int) (K : Nat) (wr : World) : Prop where
  head : wr.heap[bl]? = some (.cells #[V0, V1] 47 (0, 0))
  t0 : Texts wr V0 R0
  t1 : Texts wr V1 R1
  box : wr.heap[b5]? = some (.cells #[.int .i64 N, .int .u64 K] 45 (0, 0))
/-- The blocks of it. -/
def zone (b5 bl : Nat) (V0 V1 : Value) : List Nat := bl :: b5 :: (own V0 ++ own V1)
theorem Stuff.keeps {b5 bl : Nat} {V0 V1 : Value} {R0 R1 : List (List UInt8)} {N : Int} {K : Nat} {wr w' : World} {G : List Nat} (h : Stuff b5 bl V0 V1 R0 R1 N K wr) (k : Keeps G wr w') (hz : ∀ z, z ∈ zone b5 bl V0 V1 → z ∉ G) : Stuff b5 bl V0 V1 R0 R1 N K w' :=
  ⟨k.heap h.head (hz _ (by simp [zone])), ownsRow_keeps k h.t0 (fun x hx => hz x (by simp [zone, hx])), ownsRow_keeps k h.t1 (fun x hx => hz x (by simp [zone, hx])), k.heap h.box (hz _ (by simp [zone]))⟩
theorem Stuff.lt {b5 bl : Nat} {V0 V1 : Value} {R0 R1 : List (List UInt8)} {N : Int} {K : Nat} {wr : World} (h : Stuff b5 bl V0 V1 R0 R1 N K wr) : ∀ z, z ∈ zone b5 bl V0 V1 → z < wr.heap.size := by
  intro z hz
  simp only [zone, List.mem_cons, List.mem_append] at hz
  rcases hz with rfl | rfl | hz | hz
  · exact lt_of_heap h.head
  · exact lt_of_heap h.box
  · exact ownsRow_lt h.t0 z hz
  · exact ownsRow_lt h.t1 z hz
/-- .. apart from what the disk's calls may write. -/
structure Held (w : World) (b5 bl : Nat) (V0 V1 : Value) (R0 R1 : List (List UInt8)) (N : Int) (K : Nat) (G : List Nat) (wr : World) : Prop where
  stuff : Stuff b5 bl V0 V1 R0 R1 N K wr
  apart : ∀ z, z ∈ zone b5 bl V0 V1 → z ∉ G
  lo : ∀ x ∈ G, w.heap.size ≤ x
  keeps : Keeps [] w wr
section
variable {w wr w' : World} {b5 bl : Nat} {V0 V1 : Value} {R0 R1 : List (List UInt8)} {N : Int} {K : Nat} {G G' : List Nat}
theorem Held.moves (h : Held w b5 bl V0 V1 R0 R1 N K G wr) (k : Moves G wr G' w') : Held w b5 bl V0 V1 R0 R1 N K G' w' :=
  ⟨h.stuff.keeps k.1 h.apart, fun z hz hg => (k.2 z hg).elim (h.apart z hz) (fun hb => by have := h.stuff.lt z hz; omega), (h.keeps.moves k h.lo).2, (h.keeps.moves k h.lo).1⟩
theorem Held.quiet (h : Held w b5 bl V0 V1 R0 R1 N K G wr) (k : Keeps [] wr w') : Held w b5 bl V0 V1 R0 R1 N K G w' :=
  ⟨h.stuff.keeps k (by simp), h.apart, h.lo, h.keeps.trans k⟩
theorem Held.sub (h : Held w b5 bl V0 V1 R0 R1 N K G wr) (hs : ∀ x ∈ G', x ∈ G) : Held w b5 bl V0 V1 R0 R1 N K G' wr :=
  ⟨h.stuff, fun z hz hg => h.apart z hz (hs z hg), fun x hx => h.lo x (hs x hx), h.keeps⟩
theorem Held.cells (h : Held w b5 bl V0 V1 R0 R1 N K G wr) : wr.cell? ⟨bl, 0, none⟩ = some V0 ∧ wr.cell? ⟨bl, 1, none⟩ = some V1 ∧ wr.cell? ⟨b5, 0, none⟩ = some (.int .i64 N) ∧ wr.cell? ⟨b5, 1, none⟩ = some (.int .u64 K) := by
  refine ⟨?_, ?_, ?_, ?_⟩
  · rw [cell_blk h.stuff.head]; rfl
  · rw [cell_blk h.stuff.head]; rfl
  · rw [cell_blk h.stuff.box]; rfl
  · rw [cell_blk h.stuff.box]; rfl
end

/-- What a list has to be, so that there is room for it. -/
def Small (R : List (List UInt8)) : Prop := (∀ t ∈ R, 1 ≤ t.length ∧ t.length ≤ 100) ∧ R.length ≤ 10
theorem Small.filt (l : List (List UInt8)) : Small (filt (l.take 10)) :=
  ⟨fun t ht => filt_mem ht, by have := filt_len (l.take 10); rw [List.length_take] at this; omega⟩
theorem Small.frames {R : List (List UInt8)} (h : Small R) : (framesL R).length ≤ 1060 := by
  have h1 := framesL_le (fun t ht => (h.1 t ht).2)
  have h2 := h.2
  have h3 : R.length * (100 + 6) ≤ 10 * (100 + 6) := Nat.mul_le_mul_right _ h2
  omega
theorem half63 {m : Nat} (h : m = 63) : halfOf m = 31 := by rw [h]; rfl

section
variable {w wr w' : World} {bd b5 bl p m : Nat} {ps : List Nat} {V0 V1 : Value} {R0 R1 us : List (List UInt8)} {N : Int} {K g : Nat}
/-- At work, with these records. -/
def AtWork (w : World) (bd : Nat) (ps : List Nat) (p m g : Nat) (us : List (List UInt8)) (b5 bl : Nat) (V0 V1 : Value) (R0 R1 : List (List UInt8)) (N : Int) (K : Nat) (calm : Prop) (wr : World) : Prop :=
  ∃ F D l S, Live wr bd ps F D p l S us ∧ (calm → D.tleft = 0) ∧ l.length = m ∧ S.sz = 31 ∧ S.gen ≤ g ∧ Held w b5 bl V0 V1 R0 R1 N K (p :: F) wr
theorem AtWork.reset0 {v : Value} {R : List (List UInt8)} (h : AtWork w bd ps p m g us b5 bl V0 V1 R0 R1 N K True wr) (hg : g < 281474976710655) (hR : Small R) (hv : Texts wr v R) :
    Calls Tryd.prog 12 #[ptrV p, v] wr fun e w' => e = .returned (.int .i64 0) ∧ AtWork w bd ps p m (g + 1) R b5 bl V0 V1 R0 R1 N K True w' := by
  obtain ⟨F, D, l, S, hL, ht, hl, hs, hgS, hH⟩ := h
  have hfr := hR.frames
  refine (Reset_may wr bd p ps F D l us S v R hL (Sees.of_own (by rw [List.length_map]; exact hv)) (fun t ht => ⟨(hR.1 t ht).1, by have := (hR.1 t ht).2; omega⟩) (by rw [hs]; omega) (by omega)).mono ?_
  rintro e w' (⟨F', D', l', rfl, hL', ht', hl', hm⟩ | ⟨F', D', l', -, hn, -⟩)
  · exact ⟨rfl, F', D', l', _, hL', fun _ => ht' (ht trivial), by rw [hl', hl], hs, by show S.gen + 1 ≤ g + 1; omega, hH.moves hm⟩
  · exact absurd (ht trivial) hn
theorem AtWork.quiet {calm : Prop} (h : AtWork w bd ps p m g us b5 bl V0 V1 R0 R1 N K calm wr) (k : Keeps [] wr w') : AtWork w bd ps p m g us b5 bl V0 V1 R0 R1 N K calm w' := by
  obtain ⟨F, D, l, S, hL, ht, hl, hs, hgS, hH⟩ := h
  exact ⟨F, D, l, S, hL.keeps k, ht, hl, hs, hgS, hH.quiet k⟩
theorem AtWork.cells {calm : Prop} (h : AtWork w bd ps p m g us b5 bl V0 V1 R0 R1 N K calm wr) : wr.cell? ⟨bl, 0, none⟩ = some V0 ∧ wr.cell? ⟨bl, 1, none⟩ = some V1 ∧ wr.cell? ⟨b5, 0, none⟩ = some (.int .i64 N) ∧ wr.cell? ⟨b5, 1, none⟩ = some (.int .u64 K) := by
  obtain ⟨F, D, l, S, hL, ht, hl, hs, hgS, hH⟩ := h; exact hH.cells
theorem AtWork.texts {calm : Prop} (h : AtWork w bd ps p m g us b5 bl V0 V1 R0 R1 N K calm wr) : Texts wr V0 R0 ∧ Texts wr V1 R1 := by
  obtain ⟨F, D, l, S, hL, ht, hl, hs, hgS, hH⟩ := h; exact ⟨hH.stuff.t0, hH.stuff.t1⟩
theorem AtWork.cut {w2 : World} {v : Value} (h : AtWork w bd ps p m g us b5 bl V0 V1 R0 R1 N K True wr) (hN : N ≤ 9223372036854775807) (hK : K < 2 ^ 64) (hk : Keeps [] wr w2) (hv : Sees w2 v [u64V K]) (hvn : ∀ x, x ∈ own v → wr.heap.size ≤ x) :
    Calls Tryd.prog 19 #[ptrV bd, .int .i64 0, .int .i64 N, v] w2 fun e w' => e = .returned (.tuple #[]) ∧ AtWork w bd ps p m g us b5 bl V0 V1 R0 R1 N K False w' := by
  obtain ⟨F, D, l, S, hL, ht, hl, hs, hgS, hH⟩ := h
  refine (Cut_rest w2 bd ps F D l N v K (hL.disk.keeps0 hk) hL.up hN hK hv (fun x hx hF => by have := hvn x hx; have := hL.disk.lt x hF; omega)).mono ?_
  rintro e w' ⟨rfl, F', D', hD', hU', hm⟩
  have hp : p ∉ F' := fun hp => (hm.2 p hp).elim hL.out (fun hb => by have := hL.st.lt; have := hk.size; omega)
  have hm2 := Moves.cons p hm
  exact ⟨rfl, F', D', l, S, ⟨hD', hU', (hL.st.keeps hk (by simp)).keeps hm.1 hL.out, hp, hL.holds⟩, fun h => h.elim, hl, hs, hgS, (hH.quiet hk).moves hm2⟩
/-- Behind a Reset that may have been cut off: the power is off, or on. -/
def After (w : World) (bd : Nat) (ps : List Nat) (m g : Nat) (off : Bool) (P : List (List UInt8) → Prop) (b5 bl : Nat) (V0 V1 : Value) (R0 R1 : List (List UInt8)) (N : Int) (K : Nat) (wr : World) : Prop :=
  ∃ F D l, DiskAt wr bd ps D F ∧ (if off then Down D l else Up D l) ∧ (∀ s ∈ l, s.length = 64) ∧ l.length = m ∧ (openS l).gen ≤ g ∧ P (openRecs l) ∧ Held w b5 bl V0 V1 R0 R1 N K F wr
theorem AtWork.reset1 {v : Value} {R : List (List UInt8)} (h : AtWork w bd ps p m g us b5 bl V0 V1 R0 R1 N K False wr) (hg : g < 281474976710655) (hR : Small R) (hv : Texts wr v R) :
    Calls Tryd.prog 12 #[ptrV p, v] wr fun e w' => (e = .returned (.int .i64 0) ∧ After w bd ps m (g + 1) false (· = R) b5 bl V0 V1 R0 R1 N K w') ∨ (e = .returned (.int .i64 11) ∧ After w bd ps m (g + 1) true (fun x => x = us ∨ x = R) b5 bl V0 V1 R0 R1 N K w') := by
  obtain ⟨F, D, l, S, hL, ht, hl, hs, hgS, hH⟩ := h
  have hfr := hR.frames
  refine (Reset_may wr bd p ps F D l us S v R hL (Sees.of_own (by rw [List.length_map]; exact hv)) (fun t ht => ⟨(hR.1 t ht).1, by have := (hR.1 t ht).2; omega⟩) (by rw [hs]; omega) (by omega)).mono ?_
  rintro e w' (⟨F', D', l', rfl, hL', ht', hl', hm⟩ | ⟨F', D', l', rfl, hn, hD', hDn, h64, hl', hg', hr, hm⟩)
  · have ho := hL'.holds.open
    exact .inl ⟨rfl, F', D', l', hL'.disk, hL'.up, hL'.holds.l64, by rw [hl', hl], by rw [ho.2]; show S.gen + 1 ≤ g + 1; omega, ho.1, (hH.moves hm).sub (fun x hx => List.mem_cons_of_mem _ hx)⟩
  · exact .inr ⟨rfl, F', D', l', hD', hDn, h64, by rw [hl', hl], by omega, hr, (hH.moves hm).sub (fun x hx => List.mem_cons_of_mem _ hx)⟩
theorem After.off {off : Bool} {P : List (List UInt8) → Prop} (h : After w bd ps m g off P b5 bl V0 V1 R0 R1 N K wr) : Calls Tryd.prog 21 #[ptrV bd] wr fun e w' => e = .returned (.bool off) ∧ wr = w' := by
  obtain ⟨F, D, l, hD, hU, -⟩ := h
  have e : D.off = off := by
    cases off with
    | false => exact Upq.off (q := []) hU
    | true => exact Down.off hU
  rw [← e]
  exact Off_any wr bd ps D F hD
theorem After.cells {off : Bool} {P : List (List UInt8) → Prop} (h : After w bd ps m g off P b5 bl V0 V1 R0 R1 N K wr) : wr.cell? ⟨bl, 0, none⟩ = some V0 ∧ wr.cell? ⟨bl, 1, none⟩ = some V1 ∧ wr.cell? ⟨b5, 0, none⟩ = some (.int .i64 N) ∧ wr.cell? ⟨b5, 1, none⟩ = some (.int .u64 K) := by
  obtain ⟨F, D, l, _, _, _, _, _, _, hH⟩ := h; exact hH.cells
/-- At rest, after the loss of power. -/
def Calm (w : World) (bd : Nat) (ps : List Nat) (m g : Nat) (P : List (List UInt8) → Prop) (b5 bl : Nat) (V0 V1 : Value) (R0 R1 : List (List UInt8)) (N : Int) (K : Nat) (wr : World) : Prop :=
  ∃ F D l, Rest wr bd ps F D l ∧ l.length = m ∧ (openS l).gen ≤ g ∧ P (openRecs l) ∧ Held w b5 bl V0 V1 R0 R1 N K F wr
theorem After.crash {off : Bool} {P : List (List UInt8) → Prop} {w2 : World} {v : Value} (h : After w bd ps m g off P b5 bl V0 V1 R0 R1 N K wr) (hK : K < 2 ^ 64) (hk : Keeps [] wr w2) (hv : Sees w2 v [u64V K]) (hvn : ∀ x, x ∈ own v → wr.heap.size ≤ x ∧ x < w2.heap.size) :
    Calls Tryd.prog 17 #[ptrV bd, v] w2 fun e w' => e = .returned (.tuple #[]) ∧ Calm w bd ps m g P b5 bl V0 V1 R0 R1 N K w' := by
  obtain ⟨F, D, l, hD, hU, h64, hl, hg, hP, hH⟩ := h
  have hregs : ∀ R, R ∈ D.regs → R.ok := by
    cases off with
    | false => exact (show Up D l from hU).ok.regs
    | true => exact (show Down D l from hU).ok.regs
  refine (Crash_any w2 bd ps D F v [K] (hD.keeps0 hk) hregs hv (by simpa using hK) (fun x hx => ⟨(hvn x hx).2, fun hF => by have := (hvn x hx).1; have := hD.lt x hF; omega⟩)).mono ?_
  rintro e w' ⟨rfl, F', hD', hm⟩
  have hc : Up (D.crash [K]) l ∧ (D.crash [K]).tleft = 0 := by
    cases off with
    | false => exact crash_up (show Up D l from hU) [K]
    | true =>
      have hd : Down D l := hU
      unfold DiskM.crash
      rw [hd.off]
      exact hd.on
  exact ⟨rfl, F', _, l, ⟨hD', hc.1, hc.2, h64⟩, hl, hg, hP, (hH.quiet hk).moves hm⟩
def ResOpen (w : World) (P : List (List UInt8) → Prop) (b5 bl : Nat) (V0 V1 : Value) (R0 R1 : List (List UInt8)) (N : Int) (K : Nat) (e : Ending) (w' : World) : Prop :=
  ∃ p v ts G, e = .returned (.tuple #[ptrV p, v, .int .i64 0]) ∧ P ts ∧ Texts w' v ts ∧ Held w b5 bl V0 V1 R0 R1 N K G w'
theorem Calm.open {P : List (List UInt8) → Prop} (h : Calm w bd ps m g P b5 bl V0 V1 R0 R1 N K wr) (hm : m = 63) (hg : g < 281474976710655) (hP : ∀ x, P x → (framesL x).length ≤ 1060) :
    Calls Tryd.prog 8 #[ptrV bd, .int .i64 0] wr (ResOpen w P b5 bl V0 V1 R0 R1 N K) := by
  obtain ⟨F, D, l, hR, hl, hgl, hPl, hH⟩ := h
  have hnf : ¬ openFull l := by
    unfold openFull
    have h1 := hP _ hPl
    have h2 : (openS l).sz = 31 := by rw [openS_sz]; unfold openH; rw [hl]; exact half63 hm
    rw [h2]; omega
  refine (Open_live wr bd ps F D l hR.disk hR.up hR.l64 (by omega) (by omega) hnf hR.left).mono ?_
  rintro e w' ⟨p, v, F', D', l', rfl, hL, ht, hl', hx, hn, hv, hp, hmv⟩
  exact ⟨p, v, _, F', rfl, hPl, hx, hH.moves hmv⟩
end

set_option maxRecDepth 100000 in
set_option maxHeartbeats 8000000 in
theorem StreamResets_true (v0 v1 : Value) (b0 b1 : List (List UInt8)) (N : Int) (K : Nat) (w : World) (hv0 : Sees w v0 (b0.map strV)) (hv1 : Sees w v1 (b1.map strV)) (hbz0 : ∀ b ∈ b0, b.length ≤ maxLen) (hbz1 : ∀ b ∈ b1, b.length ≤ maxLen) (hN : N ≤ 9223372036854775807) (hK : K < 2 ^ 64) :
    Calls Tryd.prog 7 #[v0, v1, .agg #[.int .i64 N, .int .u64 K]] w fun e w' => e = .returned (.bool true) ∧ Keeps [] w w' := by
  obtain ⟨m, hm⟩ : ∃ m : Nat, m = 63 := ⟨_, rfl⟩
  have hfs : ∀ w1 v1, Sees w1 v1 [.int .i64 63] → Calls Tryd.prog 9 #[v1] w1 fun e w' => ∃ bd ps F D, e = .returned (ptrV bd) ∧ DiskAt w' bd ps D F ∧ Up D (List.replicate m noneL) ∧ D.tleft = 0 ∧ (∀ x, x ∈ F → w1.heap.size ≤ x) ∧ Keeps [] w1 w' := fun w1 v1 h => New1 v1 m w1 (by rw [hm]; exact h) (by omega) (by omega)
  have HM := Lib.hid hm
  have hm3 : 3 ≤ m := by omega
  have hm4 : m ≤ 4096 := by omega
  clear hm
  have HN := Lib.hid hfs
  obtain ⟨a0, n0, cap0, rfl⟩ : ∃ a n c, v0 = .slice a n c := by obtain ⟨a, c, e, -⟩ := hv0; exact ⟨_, _, _, e⟩
  obtain ⟨a1, n1, cap1, rfl⟩ : ∃ a n c, v1 = .slice a n c := by obtain ⟨a, c, e, -⟩ := hv1; exact ⟨_, _, _, e⟩
  have HV0 := Lib.hid (And.intro hv0 hbz0)
  have HV1 := Lib.hid (And.intro hv1 hbz1)
  clear hfs hv0 hv1 hbz0 hbz1
  go_enter Tryd.func7, Tryd.ntmps7
  go_wp2_with fail
  have hnew := HN.out _ _ (Sees.alloc1 (w.alloc (.cells #[.int .i64 N, .int .u64 K] 45)) (.int .i64 63) 3 rfl)
  rw [size_alloc] at hnew
  refine (hnew).mono ?_
  rintro e w1 ⟨bd, ps, F, D, rfl, hD, hU, ht, hF, hk⟩
  have hk1 : Keeps [] w w1 := (((Keeps.refl [] w).alloc _).alloc _).trans hk
  have hbx : w1.heap[w.heap.size]? = some (.cells #[.int .i64 N, .int .u64 K] 45 (0, 0)) := hk.heap (((Keeps.refl [] _).alloc _).heap (heap_alloc_new w (.cells #[.int .i64 N, .int .u64 K] 45)) (by simp)) (by simp)
  have HO := Lib.hid (Open_fresh w1 bd ps F D m hD hU hm3 hm4 ht)
  have HF : Hid (∀ x ∈ F, w.heap.size + 1 ≤ x) := fun x hx => by have := hF x hx; simp at this; omega
  have HK1 := Lib.hid (And.intro hk1 hbx)
  clear hnew hD hU ht hF hk hk1 hbx HN
  unfold ptrV at HO ⊢
  go_wp2_with fail
  refine (HO.out).mono ?_
  rintro e w2 ⟨p, v, F2, D2, l2, rfl, hL, ht2, hl2, ⟨av2, cv2, rfl⟩, hp, hm⟩
  have hx := HK1.out.1.moves hm (fun x hx => by have := HF.out x hx; omega)
  have hx2 := hm.2
  have hb2 : w2.heap[w.heap.size]? = some (.cells #[.int .i64 N, .int .u64 K] 45 (0, 0)) := hm.1.heap HK1.out.2 (fun h => by have := HF.out _ h; omega)
  have hz1 : w.heap.size + 1 ≤ w1.heap.size := by have := lt_of_heap HK1.out.2; omega
  have hF2 : ∀ x ∈ F2, w.heap.size + 1 ≤ x := fun x hx => (hx2 x hx).elim (HF.out x) (fun h => by omega)
  have hpw : w.heap.size + 1 ≤ p := by omega
  have HB2 := Lib.hid (And.intro hL (And.intro ht2 (And.intro hl2 (And.intro hF2 (And.intro hx.1 hb2)))))
  have HP := Lib.hid hpw
  clear hL ht2 hl2 hp hm hx hx2 hb2 hz1 hF2 hpw HO HF HK1
  unfold ptrV
  go_wp2_with fail
  refine (wakes_true _).mono ?_
  rintro e w3 ⟨rfl, hk3⟩
  have HB3 : Hid (Live w3 bd ps F2 D2 p l2 ⟨halfOf m, 1, 0, [], false⟩ [] ∧ D2.tleft = 0 ∧ l2.length = m ∧ (∀ x ∈ F2, w.heap.size + 1 ≤ x) ∧ Keeps [] w w3 ∧ w3.heap[w.heap.size]? = some (.cells #[.int .i64 N, .int .u64 K] 45 (0, 0))) :=
    ⟨HB2.out.1.keeps hk3, HB2.out.2.1, HB2.out.2.2.1, HB2.out.2.2.2.1, HB2.out.2.2.2.2.1.trans hk3, hk3.heap HB2.out.2.2.2.2.2 (by simp)⟩
  clear HB2 hk3
  go_wp2_with fail
  refine wp_alloc2 ?_
  intro W hW hbl hbt hWs
  obtain ⟨bl, hble⟩ : ∃ bl, bl = w3.heap.size := ⟨_, rfl⟩
  have hblW : bl < W.heap.size := by omega
  have hw3 : w.heap.size + 1 ≤ w3.heap.size := by have := lt_of_heap HB3.out.2.2.2.2.2; omega
  rw [← hble] at hbl hbt ⊢
  obtain ⟨AV, hAV⟩ : ∃ AV : Nat → Value, AV = fun i => if i = 0 then .slice a0 n0 cap0 else .slice a1 n1 cap1 := ⟨_, rfl⟩
  obtain ⟨BS, hBS⟩ : ∃ BS : Nat → List (List UInt8), BS = fun i => if i = 0 then b0 else b1 := ⟨_, rfl⟩
  have HSee : Hid (∀ i, i < 2 → ∀ wr, Keeps [bl] W wr → Sees wr (AV i) ((BS i).map strV)) := by
    intro i hi wr hk
    have h0 : Sees w (AV i) ((BS i).map strV) := by
      rw [hAV, hBS]
      dsimp only
      split
      · exact HV0.out.1
      · exact HV1.out.1
    obtain ⟨a, c, e, h1, h2, h3⟩ := h0
    refine ⟨a, c, e, h1, h2, h3.imp id ?_⟩
    rintro ⟨b, off, rfl, hb, hc⟩
    have hkw : Keeps [bl] w wr := ((HB3.out.2.2.2.2.1.trans hW).nil).trans hk
    exact ⟨b, off, rfl, Nat.lt_of_lt_of_le hb hkw.size, fun j u hj => hkw.cell (hc j u hj) (by simp; omega)⟩
  have HBz : Hid (∀ i, ∀ b ∈ BS i, b.length ≤ maxLen) := by
    intro i b hb
    rw [hBS] at hb
    dsimp only at hb
    split at hb
    · exact HV0.out.2 b hb
    · exact HV1.out.2 b hb
  have HTc : Hid (∀ i, i < 2 → ∀ wr, Keeps [bl] W wr → wr.cell? ⟨bl + 1, i, none⟩ = some (AV i)) := by
    intro i hi wr hk
    refine hk.cell ?_ (by simp)
    rw [cell_blk hbt, hAV]
    have : i = 0 ∨ i = 1 := by omega
    rcases this with rfl | rfl <;> rfl
  have HA := Lib.hid (And.intro hAV (And.intro hBS (And.intro hble (And.intro hw3 (And.intro hW hWs)))))
  have HL0 : Hid (ListRel W bl (fun _ => []) (fun _ => .slice none 0 0) W) := ⟨hbl, fun i hi => World.ownsRow_nil _ _ _ _, (fun i hi k hk => absurd hk (by simp [own, Value.ownBlock])), (fun i j hi hj hij k hk => absurd hk (by simp [own, Value.ownBlock])), Keeps.refl _ _⟩
  clear hAV hBS hble hw3 hbl hbt hW hWs
  go_loopg [38] 2 (fun g vi wr => ∃ i : Nat, i ≤ 2 ∧ g = 2 - i ∧ vi = .int .i64 i ∧ ∃ V tf, ListRel W bl tf V wr ∧ (∀ j, j < i → tf j = filt ((BS j).take 10)) ∧ (∀ j, i ≤ j → tf j = []))
  case atStart => exact ⟨0, by omega, rfl, rfl, _, _, HL0.out, fun j hj => by omega, fun j _ => rfl⟩
  case round =>
    obtain ⟨i, hi, hg, rfl, V, tf, hLR, hd, hn⟩ := hrel
    have HG := Lib.hid hg
    have HLR := Lib.hid (And.intro hLR (And.intro hd hn))
    clear hg hLR hd hn HL0
    by_cases hi2 : i < 2
    · have hi3 : (i : Int) < 2 := by omega
      have hct := HTc.out i hi2 wr HLR.out.1.keeps
      obtain ⟨ai, ci, eA, hq1, hq2, -⟩ := HSee.out i hi2 wr HLR.out.1.keeps
      rw [List.length_map] at eA hq1
      rw [eA] at hct
      have HEA := Lib.hid eA
      clear eA
      obtain ⟨ni, hni⟩ : ∃ ni, ni = min (BS i).length 10 := ⟨_, rfl⟩
      have hmin : min ((BS i).length : Int) 10 = (ni : Int) := by omega
      have hni1 : ni ≤ (BS i).length := by omega
      have hni2 : ni ≤ ci := by omega
      have hni3 : (ni : Int) ≤ ci := by omega
      have HNI := Lib.hid hni
      clear hni
      unfold maxLen at hq2
      go_wp2_with fail
      clear hmin hct
      go_loopg [49] ni (fun g vj wr => ∃ j : Nat, j ≤ ni ∧ g = ni - j ∧ vj = .int .i64 j ∧ ∃ V, ListRel W bl (updF tf i (filt ((BS i).take j))) V wr)
      case atStart =>
        refine ⟨0, by omega, rfl, rfl, V, ?_⟩
        have e : updF tf i (filt ((BS i).take 0)) = tf := by
          funext j; unfold updF
          split
          · rename_i e; rw [e, HLR.out.2.2 i (Nat.le_refl _)]; rfl
          · rfl
        rw [e]; exact HLR.out.1
      case round =>
        obtain ⟨j, hj, hgj, rfl, V2, hL2⟩ := hrel
        have HGJ := Lib.hid hgj
        have HL2 := Lib.hid hL2
        clear hgj hL2
        by_cases hj2 : j < ni
        · have hjl : j < (BS i).length := by omega
          obtain ⟨a', c', e', -, -, hcell⟩ := HSee.out i hi2 wr HL2.out.keeps
          rw [HEA.out] at e'
          simp only [Value.slice.injEq] at e'
          obtain ⟨b, off, e2, hb, hcell⟩ := hcell.resolve_left (by intro h; have := congrArg List.length h; simp at this; rw [this] at hjl; simp at hjl)
          obtain rfl : ai = some ⟨b, off, none⟩ := e'.1.trans e2
          have hck : wr.cell? ⟨b, off + j, none⟩ = some (strV (BS i)[j]) := hcell j _ (by simp [List.getElem?_eq_getElem hjl])
          have hbz := HBz.out i _ (List.getElem_mem hjl)
          have HTk := Lib.hid (List.take_succ_eq_append_getElem hjl)
          generalize (BS i)[j] = x at hck hbz HTk
          obtain ⟨s, hs⟩ : ∃ s : ByteArray, s = ⟨x.toArray⟩ := ⟨_, rfl⟩
          have hsx : s.data.toList = x := by rw [hs]
          unfold strV at hck
          rw [← hs] at hck
          have hxz : s.size ≤ maxLen := by rw [← toList_length, hsx]; exact hbz
          unfold maxLen at hxz
          obtain ⟨c, hc⟩ : ∃ c, c = min s.size 100 := ⟨_, rfl⟩
          have hcm : min (s.size : Int) 100 = (c : Int) := by omega
          have hc1' : c ≤ s.size := by omega
          have hc2' : c ≤ 100 := by omega
          have hyx : (s.extract 0 c).data.toList = x.take 100 := by
            have e0 := extract_sub s 0 c
            rw [Nat.zero_add] at e0
            rw [e0]
            show sub s 0 c = _
            unfold sub
            rw [List.drop_zero, hsx, hc]
            by_cases h : s.size ≤ 100
            · rw [Nat.min_eq_left h, List.take_of_length_le (by rw [← hsx, toList_length]; exact Nat.le_refl _), List.take_of_length_le (by rw [← hsx, toList_length]; exact h)]
            · rw [Nat.min_eq_right (by omega)]
          have HYX := Lib.hid hyx
          obtain ⟨hcv, hcf⟩ := HL2.out.cell hi2
          clear hcell hb hs hsx hbz hc hyx e' e2
          by_cases hy : (s.extract 0 c).size = 0
          · have hy2 : s.extract 0 c = ⟨#[]⟩ := by
              generalize s.extract 0 c = y at hy
              cases y with
              | mk d => congr 1; exact Array.eq_empty_of_size_eq_zero hy
            have HLn : Hid (ListRel W bl (updF tf i (filt ((BS i).take (j + 1)))) V2 wr) := by
              show ListRel _ _ _ _ _
              rw [HTk.out, filt_snoc, if_pos (by rw [← HYX.out, hy2]), List.append_nil]
              exact HL2.out
            clear hy HYX hcv hcf HL2
            go_wp2_with fail
            go_roundg (ni - (j + 1))
            case measure => have := HGJ.out; omega
            case rel => exact ⟨j + 1, by omega, rfl, by go_num, V2, HLn.out⟩
          · have hn1 := notEmpty (s.extract 0 c) (by omega)
            have hn2 : ((s.extract 0 c).toList == (ByteArray.mk #[]).toList) = false := by
              rw [beq_eq_false_iff_ne, ByteArray.toList_eq, ByteArray.toList_eq]
              intro e
              have := congrArg List.length e
              rw [toList_length] at this
              exact hy this
            have hown : Own wr 9 1 (V2 i) (updF tf i (filt ((BS i).take j)) i).length ((updF tf i (filt ((BS i).take j)) i).map strV) := HL2.out.tx i hi2
            have hlen : (updF tf i (filt ((BS i).take j)) i).length ≤ 10 := by
              rw [updF_same]
              have := filt_len ((BS i).take j)
              rw [List.length_take] at this
              have := HNI.out
              omega
            have HFn : Hid (filt ((BS i).take (j + 1)) = filt ((BS i).take j) ++ [(s.extract 0 c).data.toList]) := by
              show _ = _
              rw [HTk.out, filt_snoc, HYX.out, if_neg]
              intro e
              rw [← HYX.out] at e
              have := toList_length (s.extract 0 c)
              rw [e] at this
              exact hy this.symm
            clear hy HYX
            generalize hnn : (updF tf i (filt ((BS i).take j)) i).length = nn at hown hlen
            obtain ⟨a5, c5, e5⟩ := ownsRow_form hown
            have hbo : bl ∉ own (V2 i) := fun hx => by have := HL2.out.lo i hi2 bl hx; omega
            have hblr : bl < wr.heap.size := Nat.lt_of_lt_of_le hblW HL2.out.keeps.size
            have HB5 := Lib.hid (And.intro hbo (And.intro hcv (And.intro hcf hblr)))
            rw [e5] at hcv hown
            have HE5 := Lib.hid e5
            clear e5 hnn hbo hblr
            go_wp2_with (at_builtin; go_loud (refine wpList_app1 (by rfl) (by rfl) Tryd.underlying23 infoStr rfl (by decide) (by rfl) hown (by rfl) (by rfl) ?d1 ?d2 ?d3 ?d4))
            case d1 => simp [Value.oneCell']
            case d2 => unfold maxLen; omega
            case d3 => omega
            case d4 =>
              intro v' w6 ho hk6 hf
              rw [← HE5.out] at hk6 hf
              have c6 := hk6.cell HB5.out.2.1 HB5.out.1
              have f6 := hk6.free HB5.out.2.2.1 HB5.out.2.2.2 HB5.out.1
              have hx6 : Texts w6 v' (updF tf i (filt ((BS i).take j)) i ++ [(s.extract 0 c).data.toList]) := by
                have h1 := ho.1
                unfold Texts
                have e : (updF tf i (filt ((BS i).take j)) i ++ [(s.extract 0 c).data.toList]).map strV = (updF tf i (filt ((BS i).take j)) i).map strV ++ [.string (s.extract 0 c)] := by
                  rw [List.map_append]
                  show _ ++ [Value.string ⟨(s.extract 0 c).data.toList.toArray⟩] = _
                  rw [bytes_eta]
                rw [e]
                have e2 : (updF tf i (filt ((BS i).take j)) i ++ [(s.extract 0 c).data.toList]).length = nn + 1 := by
                  rw [List.length_append]
                  simp only [List.length_append, List.length_map, List.length_singleton, Nat.mul_one] at h1
                  simp only [List.length_singleton]
                  exact h1
                rw [e2]
                exact ho
              have HLn : Hid (ListRel W bl (updF tf i (filt ((BS i).take (j + 1)))) (updF V2 i v') (w6.setCell ⟨bl, i, none⟩ v')) := by
                have := HL2.out.app hi2 hblW hx6 hk6 hf
                rw [updF_same, updF_updF, ← HFn.out] at this
                exact this
              obtain ⟨a7, c7, rfl⟩ := ownsRow_form ho
              clear ho hk6 hf hx6 hown hcv hcf
              go_wp2_with fail
              go_roundg (ni - (j + 1))
              case measure => have := HGJ.out; omega
              case rel => exact ⟨j + 1, by omega, rfl, by go_num, _, HLn.out⟩
        · have hjn : j = ni := by omega
          have HX : Hid (ListRel W bl (updF tf i (filt ((BS i).take 10))) V2 wr) := by
            have e : (BS i).take j = (BS i).take 10 := by
              rw [hjn, HNI.out]
              by_cases h : (BS i).length ≤ 10
              · rw [Nat.min_eq_left h, List.take_of_length_le (Nat.le_refl _), List.take_of_length_le h]
              · rw [Nat.min_eq_right (by omega)]
            show ListRel _ _ _ _ _
            rw [← e]; exact HL2.out
          clear hjn HL2
          go_wp2_with fail
          go_roundg (2 - (i + 1))
          case measure => have := HG.out; omega
          case rel =>
            refine ⟨i + 1, by omega, rfl, by go_num, V2, _, HX.out, fun l hl => ?_, fun l hl => ?_⟩
            · by_cases e : l = i
              · subst e; exact updF_same _ _ _
              · rw [updF_ne _ _ e]; exact HLR.out.2.1 l (by omega)
            · rw [updF_ne _ _ (by omega)]; exact HLR.out.2.2 l (by omega)
    · have hie : i = 2 := by omega
      obtain ⟨hLR, hd, -⟩ := HLR.out
      have HT : Hid (ListRel W bl tf V wr ∧ tf 0 = filt (b0.take 10) ∧ tf 1 = filt (b1.take 10)) := by
        have e := HA.out.2.1
        refine ⟨hLR, ?_, ?_⟩
        · rw [hd 0 (by omega), e]; rfl
        · rw [hd 1 (by omega), e]; rfl
      clear hLR hd HLR hie
      have HW : Hid (AtWork w bd ps p m 1 [] w.heap.size bl (V 0) (V 1) (tf 0) (tf 1) N K True wr) := by
        obtain ⟨hL3, ht3, hl3, hF3, hk3, hbox⟩ := HB3.out
        obtain ⟨-, -, hble, hw3, hW, hWs⟩ := HA.out
        obtain ⟨hLR, -, -⟩ := HT.out
        have hpw := HP.out
        have hkb : Keeps [bl] w3 wr := hW.nil.trans hLR.keeps
        have hFb : ∀ k ∈ F2, k < bl := fun k hk => by have := hL3.disk.lt k hk; omega
        have hpb : p < bl := by have := hL3.st.lt; omega
        have hV : ∀ i, i < 2 → ∀ k ∈ own (V i), bl < k := fun i hi k hk => by have := hLR.lo i hi k hk; omega
        refine ⟨F2, D2, l2, _, ⟨hL3.disk.keeps hkb (fun k hk hk' => by have := hFb k hk; simp at hk'; omega), hL3.up, hL3.st.keeps hkb (by simp; omega), hL3.out, hL3.holds⟩, fun _ => ht3, hl3, half63 HM.out, Nat.le_refl _, ⟨hLR.head, hLR.tx 0 (by omega), hLR.tx 1 (by omega), hkb.heap hbox (by simp; omega)⟩, ?_, ?_, ?_⟩
        · intro z hz hg
          have hzb : z = bl ∨ z = w.heap.size ∨ bl < z := by
            simp only [zone, List.mem_cons, List.mem_append] at hz
            rcases hz with h | h | h | h
            · exact .inl h
            · exact .inr (.inl h)
            · exact .inr (.inr (hV 0 (by omega) z h))
            · exact .inr (.inr (hV 1 (by omega) z h))
          rcases List.mem_cons.1 hg with h | h
          · rcases hzb with e | e | e <;> omega
          · have h1 := hFb z h; have h2 := hF3 z h
            rcases hzb with e | e | e <;> omega
        · intro x hx
          rcases List.mem_cons.1 hx with h | h
          · omega
          · have := hF3 x h; omega
        · exact hk3.trans' hkb (fun x hx hl => by simp at hx; omega)
      have HS : Hid (Small (tf 0) ∧ Small (tf 1)) := by
        refine ⟨?_, ?_⟩
        · rw [HT.out.2.1]; exact Small.filt _
        · rw [HT.out.2.2]; exact Small.filt _
      generalize V 0 = V0 at HW
      generalize V 1 = V1 at HW
      generalize tf 0 = R0 at HW HS
      generalize tf 1 = R1 at HW HS
      clear HT HB3 HA HSee HBz HTc hblW HV0 HV1 HP
      obtain ⟨c0, -, -, -⟩ := HW.out.cells
      obtain ⟨aV, cV, rfl⟩ := ownsRow_form HW.out.texts.1
      obtain ⟨aV1, cV1, rfl⟩ := ownsRow_form HW.out.texts.2
      have HRs := Lib.hid (HW.out.reset0 (by omega) HS.out.1 HW.out.texts.1)
      unfold ptrV at HRs
      clear HW
      go_wp2_with fail
      refine (HRs.out).mono ?_
      rintro e w5 ⟨rfl, hW5⟩
      obtain ⟨-, -, d2, d3⟩ := hW5.cells
      have HCt := Lib.hid (hW5.cut hN hK ((Keeps.refl [] w5).alloc _) (Sees.alloc1 w5 (.int .u64 K) 43 rfl) (by simp [own, Value.ownBlock]))
      unfold ptrV at HCt
      clear HRs hW5 c0
      go_wp2_with fail
      refine (HCt.out).mono ?_
      rintro e w6 ⟨rfl, hW6⟩
      obtain ⟨-, e1, -, -⟩ := hW6.cells
      have HRs := Lib.hid (hW6.reset1 (by omega) HS.out.2 hW6.texts.2)
      unfold ptrV at HRs
      clear HCt hW6 d2 d3
      go_wp2_with fail
      refine (HRs.out).mono ?_
      rintro e w7 (⟨rfl, hW7⟩ | ⟨rfl, hW7⟩)
      · have HOf := Lib.hid hW7.off
        have HW7 := Lib.hid hW7
        clear HRs hW7 e1
        unfold ptrV at HOf
        go_wp2_with fail
        refine (HOf.out).mono ?_
        rintro e w8 ⟨rfl, rfl⟩
        obtain ⟨-, -, -, d3⟩ := HW7.out.cells
        have HCr := Lib.hid (HW7.out.crash hK ((Keeps.refl [] w7).alloc _) (Sees.alloc1 w7 (.int .u64 K) 43 rfl) (by simp [own, Value.ownBlock]))
        unfold ptrV at HCr
        clear HOf HW7
        go_wp2_with fail
        refine (HCr.out).mono ?_
        rintro e w9 ⟨rfl, hW9⟩
        have HO := Lib.hid (hW9.open HM.out (by omega) (fun x hx => by rw [hx]; exact HS.out.2.frames))
        clear HCr hW9 d3
        unfold ptrV at HO
        go_wp2_with fail
        refine (HO.out).mono ?_
        rintro e w10 ⟨p10, v10, ts, G, rfl, hts, hx10, hH10⟩
        obtain ⟨-, e1, -, -⟩ := hH10.cells
        have heq := equal_any v10 (.slice aV1 R1.length cV1) ts R1 w10 (Sees.of_own (by rw [List.length_map]; exact hx10)) (Sees.of_own (by rw [List.length_map]; exact hH10.stuff.t1))
        rw [decide_eq_true hts] at heq
        obtain ⟨a10, c10, rfl⟩ := ownsRow_form hx10
        have HEq := Lib.hid heq
        have HH := Lib.hid hH10
        clear heq hx10 hH10 HO hts
        unfold ptrV
        go_wp2_with fail
        refine (HEq.out).mono ?_
        rintro e w11 ⟨rfl, hk11⟩
        have HK := Lib.hid (HH.out.keeps.trans hk11)
        clear hk11 HH HEq
        go_wp2_with fail
        go_ret
        exact ⟨rfl, HK.out⟩
      · have HOf := Lib.hid hW7.off
        have HW7 := Lib.hid hW7
        clear HRs hW7 e1
        unfold ptrV at HOf
        go_wp2_with fail
        refine (HOf.out).mono ?_
        rintro e w8 ⟨rfl, rfl⟩
        obtain ⟨-, -, -, d3⟩ := HW7.out.cells
        have HCr := Lib.hid (HW7.out.crash hK ((Keeps.refl [] w7).alloc _) (Sees.alloc1 w7 (.int .u64 K) 43 rfl) (by simp [own, Value.ownBlock]))
        unfold ptrV at HCr
        clear HOf HW7
        go_wp2_with fail
        refine (HCr.out).mono ?_
        rintro e w9 ⟨rfl, hW9⟩
        have HO := Lib.hid (hW9.open HM.out (by omega) (fun x hx => by rcases hx with e | e <;> rw [e]; exact HS.out.1.frames; exact HS.out.2.frames))
        clear HCr hW9 d3
        unfold ptrV at HO
        go_wp2_with fail
        refine (HO.out).mono ?_
        rintro e w10 ⟨p10, v10, ts, G, rfl, hts, hx10, hH10⟩
        obtain ⟨-, e1, -, -⟩ := hH10.cells
        have heq := equal_any v10 (.slice aV1 R1.length cV1) ts R1 w10 (Sees.of_own (by rw [List.length_map]; exact hx10)) (Sees.of_own (by rw [List.length_map]; exact hH10.stuff.t1))
        obtain ⟨a10, c10, rfl⟩ := ownsRow_form hx10
        have HX := Lib.hid (And.intro hx10 (And.intro hH10 hts))
        by_cases h1 : ts = R1
        · rw [decide_eq_true h1] at heq
          have HEq := Lib.hid heq
          clear heq hx10 hH10 HO hts h1
          unfold ptrV
          go_wp2_with fail
          refine (HEq.out).mono ?_
          rintro e w11 ⟨rfl, hk11⟩
          have HK := Lib.hid (HX.out.2.1.keeps.trans hk11)
          clear hk11 HEq
          go_wp2_with fail
          go_ret
          exact ⟨rfl, HK.out⟩
        · rw [decide_eq_false h1] at heq
          have HEq := Lib.hid heq
          have h0 : ts = R0 := hts.resolve_right h1
          have H0 := Lib.hid h0
          clear heq hx10 hH10 HO hts h1 h0
          unfold ptrV
          go_wp2_with fail
          refine (HEq.out).mono ?_
          rintro e w11 ⟨rfl, hk11⟩
          have hH11 := HX.out.2.1.quiet hk11
          obtain ⟨f0, -, -, -⟩ := hH11.cells
          have hx11 : Texts w11 (.slice a10 ts.length c10) ts := ownsRow_keeps hk11 HX.out.1 (by simp)
          have heq := equal_any (.slice a10 ts.length c10) (.slice aV R0.length cV) ts R0 w11 (Sees.of_own (by rw [List.length_map]; exact hx11)) (Sees.of_own (by rw [List.length_map]; exact hH11.stuff.t0))
          rw [decide_eq_true H0.out] at heq
          have HEq2 := Lib.hid heq
          have HK := Lib.hid hH11.keeps
          clear heq hx11 hH11 hk11 HEq
          go_wp2_with fail
          refine (HEq2.out).mono ?_
          rintro e w12 ⟨rfl, hk12⟩
          have HK2 := Lib.hid (HK.out.trans hk12)
          clear hk12 HEq2 HK
          go_wp2_with fail
          go_ret
          exact ⟨rfl, HK2.out⟩
end Go.Proofs.YtepnbfpclhincaaDoor

namespace Go.Proofs.YtepnbfpclhincaaDoor
open Go.ChangeShapes Go.WideShapes Go.RowKit Go.Deep Go.Joins

theorem cellsLoss1 : Tryd.prog.cellsOf 45 = 2 := by kernel_rfl
set_option maxRecDepth 100000 in
theorem loss_agg {H : Type} {enc : TypeId × Value → H} {W : World} {base : Nat} {v : Value} {d : DataW H} {p : List MemPlace} (hval : Value.okWide Tryd.prog W .any base 45 v)
    (h : DataW.Trod enc Tryd.prog W 0 (fun _ => true) true 45 v d p) : ∃ (N : Int) (K : Nat), v = .agg #[.int .i64 N, .int .u64 K] ∧ N ≤ 9223372036854775807 ∧ K < 2 ^ 64 := by
  obtain ⟨v0, v1, y0, y1, n, rfl, -, -, h0, h1⟩ := open_agg2 Tryd.underlying45 (by kernel_rfl) cellsLoss1 hval h
  obtain ⟨N, e0, _, w0⟩ := DataW.trod_int Tryd.underlying3 h0
  obtain ⟨K, e1, _, w1⟩ := DataW.trod_int Tryd.underlying43 h1
  simp only [List.cons.injEq, and_true] at e0 e1
  have hN : N ≤ 9223372036854775807 := by
    have := w0; simp [Lit.wf, IntKind.min, IntKind.max, IntKind.signed, IntKind.bits] at this; omega
  have hK : 0 ≤ K ∧ K < 2 ^ 64 := by
    have := w1; simp [Lit.wf, IntKind.min, IntKind.max, IntKind.signed, IntKind.bits] at this; omega
  refine ⟨N, K.toNat, ?_, hN, by omega⟩
  rw [e0, e1, Int.toNat_of_nonneg hK.1]
end Go.Proofs.YtepnbfpclhincaaDoor

namespace Go.Proofs.YtepnbfpclhincaaDoor
open Go.ChangeShapes Go.WideShapes Go.ChangeMaps Go.RowKit

set_option maxRecDepth 100000 in
theorem streamResets_walk : LawWalk 7 Tryd.f7 := by
  intro H enc W base args ds p hval hA hlt
  rw [Tryd.params7] at hA hval
  obtain ⟨v0, v1, v2, d0, d1, d2, p0, p1, p2, rfl, rfl, rfl, h0, h1, h2⟩ := trodAll_three hA
  obtain ⟨b0, hb0, hz0⟩ := sees_strings (hval 0 23 v0 rfl rfl) h0 (fun x hx => hlt x (by simp [hx]))
  obtain ⟨b1, hb1, hz1⟩ := sees_strings (hval 1 23 v1 rfl rfl) h1 (fun x hx => hlt x (by simp [hx]))
  obtain ⟨N, K, rfl, hN, hK⟩ := loss_agg (hval 2 45 v2 rfl rfl) h2
  exact (StreamResets_true v0 v1 b0 b1 N K W hb0 hb1 hz0 hz1 hN hK).mono fun e W' ⟨he, hk⟩ => ⟨he, hk.below⟩

set_option maxRecDepth 100000 in
theorem streamResets_lifted (os : Os) (started : os.Started) (H : Type) (enc : TypeId × Value → H) :
    ReturnsInHanded {} Tryd.checked os 7 .any (fun w args => (Rows.streamResetsSpec.pre enc Tryd.prog Tryd.f7 [] false w args ∧ laidMetH Tryd.prog Rows.streamResetsRow.laid w) ∧ sizedMet enc Tryd.prog Tryd.f7 (OpenSpec.ofChange Rows.streamResetsSpec) false w args)
      (Rows.streamResetsSpec.post enc Tryd.prog Tryd.f7 false true false false) :=
  law_lifted (f := 7) (fn := Tryd.f7) Tryd.func7 (by kernel_rfl) (by kernel_rfl) (by kernel_rfl) (s := Rows.streamResetsSpec) rfl (fun H ds hl => by
    have hl' : ds.length = 3 := hl
    match ds, hl' with
    | [d0, d1, d2], _ => rfl)
    (laid := Rows.streamResetsRow.laid) os started H enc
    (ChangeSpec.witness_shaped (enc := enc) (C := Tryd.checked) (os := os) (X := fun w _ => laidMetH Tryd.prog Rows.streamResetsRow.laid w) false (World.laidAll Tryd.prog os Rows.streamResetsRow.laid) #[.slice none 0 0, .slice none 0 0, .agg #[.int .i64 0, .int .u64 0]] 8 (World.laidAll_os _ _ _)
      (World.shaped_of_ZipB (by kernel_rfl) (by kernel_rfl)) (by kernel_rfl) (by kernel_rfl) (by kernel_rfl)
      (by rw [MakeChecks.laidMetH_plain _ _ _ (by kernel_rfl)]; exact laidMet_laidAll _ (by kernel_rfl) (by kernel_rfl)))
    streamResets_walk

theorem streamResets_said : Rows.StreamResetsSaid :=
  OpenClaim.holds_of_wide 7 Tryd.f7 rfl rfl rfl rfl rfl rfl rfl ⟨rfl, rfl, rfl, rfl, rfl⟩ rfl rfl rfl rfl rfl (by kernel_rfl) Tryd.func7 (by kernel_rfl)
    (of_decide_eq_true (by kernel_rfl)) (by unfold Func.isWrapper; first | (rw [if_pos (by decide +kernel)]; kernel_rfl) | (rw [if_neg (by decide +kernel)]; exact ⟨rfl, rfl⟩))
    (fun os started H enc _ => streamResets_lifted os started H enc)

/-- The card. -/
theorem streamResets_holds : Rows.StreamResetsCardSaid :=
  Claim7.holds_tied_plain_at .later [] _ _ _ _ streamResets_said (fun _ h => by cases h) (by kernel_rfl) (fun _ h => by cases h) streamResets_row_tie rfl ⟨rfl, rfl⟩ (by kernel_rfl) rfl
    (fun f fn hf hfn => by
      obtain rfl : f = 7 := Option.some.inj ((show Tryd.prog.funcNamed "precinct/precinctlaw08.StreamResets" = some 7 by kernel_rfl).symm.trans hf) |>.symm
      obtain rfl : fn = Tryd.f7 := (Option.some.inj (Tryd.func7.symm.trans hfn)).symm
      exact ⟨by kernel_rfl, fun j t ht => by
        rw [Tryd.params7] at ht
        have hm : t ∈ [23, 23, 45] := by simpa using Array.mem_of_getElem? ht
        have hall : ([23, 23, 45].all fun u => !Tryd.prog.wantsStandIn u) = true := by kernel_rfl
        exact (show Tryd.prog.wantsStandIn t = false by simpa using List.all_eq_true.1 hall t hm)⟩)
    (by kernel_rfl)
end Go.Proofs.YtepnbfpclhincaaDoor
