/-
  Part of the proofs of the laws of streams: the walks of the functions beneath them, and plain lists.
-/
import Derived.Test.YtepnbfpclhincaaDoorMB
set_option linter.unusedVariables false
set_option linter.unusedSimpArgs false
namespace Go.Proofs.YtepnbfpclhincaaDoor
open Go.RowKit

def allKept : Nat → Bool := fun _ => true

set_option maxRecDepth 100000 in
set_option maxHeartbeats 1000000 in
theorem last_all (w : World) (b : Nat) (R : RegM) (G : List Nat) (h : RegAt w b R G) (hok : R.ok) :
    Calls Tryd.prog 60 #[ptrV b, .func (.func 61) #[] #[]] w (LastPost b R G w allKept) := by
  obtain ⟨vl, vq, hb, hl, hq, rfl⟩ := h.ex
  have hM : Mid w b vl vq R.queue R.lasts := ⟨hb, hl, hq⟩
  obtain ⟨hqlt, hql⟩ := hok
  have HP : Hid (∀ w' l, Mid w' b vl (.slice none 0 0) [] l → lastL allKept 0 R.queue R.lasts = l → Keeps (b :: own vl) w w' → LastPost b R (b :: (own vl ++ own vq)) w allKept (.returned (.tuple #[])) w') := by
    intro w' l hm hl hk
    refine ⟨rfl, b :: (own vl ++ []), ⟨vl, _, hm.head, by rw [RegM.last, hl]; exact hm.lOwn, World.ownsRow_nil _ _ _ _, rfl⟩, hk.mono (fun x hx _ => ?_), fun x hx => .inl ?_⟩
    · rcases List.mem_cons.1 hx with rfl | hx <;> simp [*]
    · rw [List.append_nil] at hx; rcases List.mem_cons.1 hx with rfl | hx <;> simp [*]
  generalize R.queue = q at hM HP hqlt hql
  generalize R.lasts = l0 at hM HP hqlt
  have HL := Lib.hid hqlt
  have hc1 : w.cell? ⟨b, 1, none⟩ = some vq := by rw [cell_blk hM.head]; rfl
  obtain ⟨aq, cq, rfl⟩ := ownsRow_form hM.qOwn
  clear hb hl hq h hqlt
  unfold ptrV
  go_enter Tryd.func60, Tryd.ntmps60
  go_wp2_with fail
  go_loopw [11] (fun i wr => ∃ k : Nat, k ≤ q.length ∧ i = .int .i64 k ∧ ∃ l, l.length = l0.length ∧ Mid wr b vl (.slice aq q.length cq) q l ∧ Keeps (own vl) w wr ∧ lastL allKept k (q.drop k) l = lastL allKept 0 q l0) (fun i _ => q.length - (intOf i).toNat)
  case atStart => exact ⟨0, by omega, rfl, l0, rfl, hM, Keeps.refl _ _, rfl⟩
  case round =>
    obtain ⟨k, hk, rfl, l, hll, hm, hkp', hlast⟩ := hrel
    have HLA := Lib.hid hlast; clear hlast
    have HLL := Lib.hid hll; clear hll
    clear hc1
    by_cases hlt : k < q.length
    · obtain ⟨gq, cap, e, h1, h2, h3, h4, h5⟩ := ownsRow_at hm.qOwn (by omega)
      simp only [Value.slice.injEq] at e
      obtain ⟨rfl, -, rfl⟩ := e
      have hx := qV_get q k _ (List.getElem?_eq_getElem hlt)
      have hq0 := h4 _ _ hx.1
      have hq1 := h4 _ _ hx.2
      have hxl := HL.out _ (List.getElem_mem hlt)
      have HS := Lib.hid (List.drop_eq_getElem_cons hlt)
      generalize q[k] = x at hq0 hq1 HS hxl
      obtain ⟨xs, xd⟩ := x
      unfold strV at hq1
      have hcb0 : wr.cell? ⟨b, 0, none⟩ = some vl := by rw [cell_blk hm.head]; rfl
      have hll := HLL.out
      obtain ⟨gl, cl, rfl, hl1, hl2, hl3, hl4, hl5⟩ := ownsRow_at hm.lOwn (by dsimp only at hxl; omega)
      clear hx h4 h5 hl4 hll h1 h2 h3
      unfold maxLen at hl2
      dsimp only at hxl
      go_wp2_with fail
      refine calls_alloc1 ?_
      intro W hW hbox hWs
      have hkW := hkp'.trans0 hW
      refine (flush1_any k _).mono ?_
      rintro e w2 ⟨rfl, rfl⟩
      have hmW := hm.keeps hW
      · have HB : Hid (allKept k = true) := rfl
        have c0 : W.cell? ⟨wr.heap.size, 0, none⟩ = some (.int .i64 xs) := by rw [cell_blk hbox]; rfl
        have c1 : W.cell? ⟨wr.heap.size, 1, none⟩ = some (.string ⟨xd.toArray⟩) := by rw [cell_blk hbox]; rfl
        have cb : W.cell? ⟨b, 0, none⟩ = some (.slice (some ⟨gl, 0, none⟩) l.length cl) := hW.cell hcb0 (by simp)
        have hll := HLL.out
        have hxl2 : xs < l.length := by omega
        obtain ⟨gl', cl', e, -, -, -, h4, h5⟩ := ownsRow_at hmW.lOwn (by omega)
        simp only [Value.slice.injEq, Option.some.injEq, Addr.mk.injEq] at e
        obtain ⟨⟨rfl, -, -⟩, -, -⟩ := e
        obtain ⟨u, cl4⟩ : ∃ u, W.cell? ⟨gl, xs, none⟩ = some u := ⟨_, h4 xs (strV l[xs]) (by simp [List.getElem?_eq_getElem hxl2])⟩
        have cf4 := h5 xs
        have hlt1 : (xs : Int) < l.length := by omega
        clear h4 h5 hll hq0 hq1 hcb0 hl5 hbox
        have hbg : b ≠ gl := fun x => hmW.b_not (by rw [x]; simp [own, Value.ownBlock])
        have hsg : wr.heap.size ≠ gl := by omega
        have HM := Lib.hid (hmW.set xs hxl2 xd)
        have HKW := Lib.hid hkW
        have HHP := Lib.hid HP
        clear hmW hm hM hkW hkp' hW HP
        go_wp2_with fail
        go_region_held3 (fun w' => w'.cell? ⟨b, 0, none⟩ = some (.slice (some ⟨gl, 0, none⟩) l.length cl) ∧ w'.cell? ⟨wr.heap.size, 0, none⟩ = some (.int .i64 xs) ∧ w'.cell? ⟨wr.heap.size, 1, none⟩ = some (.string ⟨xd.toArray⟩)) ((first | exact ⟨cb, c0, c1⟩ | exact ⟨(cell_ne _ _ _ _ hbg).trans cb, (cell_ne _ _ _ _ hsg).trans c0, (cell_ne _ _ _ _ hsg).trans c1⟩)) (fail)
        go_wp2_with fail
        go_roundw
        case rel =>
          refine ⟨k + 1, by omega, by go_num, l.set xs xd, by rw [List.length_set]; exact HLL.out, ?_, (HKW.out.trans (Keeps.one gl xs (strV xd))).drew, ?_⟩
          · have := HM.out.keeps (w' := (W.setCell ⟨gl, xs, none⟩ (strV xd)).drew) ((Keeps.refl _ _).drew)
            exact this
          · rw [← HLA.out, HS.out, lastL, HB.out]; rfl
        case measure => simp [intOf]; omega
    · have hk2 : k = q.length := by omega
      have hcb1 : wr.cell? ⟨b, 1, none⟩ = some (.slice aq q.length cq) := by rw [cell_blk hm.head]; rfl
      have hfb1 : wr.frozen? ⟨b, 1, none⟩ = false := free_blk hm.head 1
      have HM : Hid (Mid (wr.setCell ⟨b, 1, none⟩ (.slice none 0 0)) b vl (.slice none 0 0) [] l) := by
        have hk1 : Keeps [b] wr (wr.setCell ⟨b, 1, none⟩ (.slice none 0 0)) := Keeps.one b 1 _
        exact ⟨setCell_blk hm.head 1 _, ownsRow_keeps hk1 hm.lOwn (fun k x y => by simp at y; subst y; exact hm.b_not x), World.ownsRow_nil _ _ _ _⟩
      have HKW : Hid (Keeps (b :: own vl) w (wr.setCell ⟨b, 1, none⟩ (.slice none 0 0))) := (hkp'.mono (fun x hx _ => by simp [hx])).setCell _ _ (.inl (by simp))
      have HE : Hid (lastL allKept 0 q l0 = l) := by
        have := HLA.out; rw [hk2, List.drop_length] at this; exact this.symm
      clear hm hM hkp'
      go_wp2_with fail
      go_end0
      exact HP.out _ l HM.out HE.out HKW.out
end Go.Proofs.YtepnbfpclhincaaDoor

namespace Go.Proofs.YtepnbfpclhincaaDoor
open Go.RowKit

/-- The regions behind a loss, the first k of them. -/
def loseRegs (keep : List Nat) (k : Nat) (l : List RegM) : List RegM := l.mapIdx fun n R => if n < k then R.last (kbit keep n) else R
structure DiskM.ok (D : DiskM) : Prop where
  regs : ∀ R, R ∈ D.regs → R.ok
  left0 : 0 ≤ D.tleft
  left1 : D.tleft ≤ 9223372036854775807
  keep : ∀ m, m ∈ D.keep → m < 2 ^ 64
def DiskM.lose (D : DiskM) (keep : List Nat) : DiskM := { regs := D.regs.mapIdx fun n R => R.last (kbit keep n), off := true, treg := 0, tleft := 0, keep := [] }

theorem loseRegs_length (keep : List Nat) (k : Nat) (l : List RegM) : (loseRegs keep k l).length = l.length := by simp [loseRegs]
theorem loseRegs_zero (keep : List Nat) (l : List RegM) : loseRegs keep 0 l = l := by
  apply List.ext_getElem? ; intro i; simp [loseRegs]
theorem loseRegs_all (keep : List Nat) (k : Nat) (l : List RegM) (h : l.length ≤ k) : loseRegs keep k l = l.mapIdx fun n R => R.last (kbit keep n) := by
  apply List.ext_getElem?; intro i
  simp only [loseRegs, List.getElem?_mapIdx]
  cases hi : l[i]? with
  | none => rfl
  | some R => have := getElem?_lt hi; simp only [Option.map_some]; rw [if_pos (by omega)]
theorem loseRegs_succ (keep : List Nat) (k : Nat) (l : List RegM) (R : RegM) (h : l[k]? = some R) : (loseRegs keep k l).set k (R.last (kbit keep k)) = loseRegs keep (k + 1) l := by
  apply List.ext_getElem?; intro i
  rw [List.getElem?_set]
  by_cases e : k = i
  · subst e
    rw [if_pos rfl, if_pos (by rw [loseRegs_length]; exact getElem?_lt h)]
    simp only [loseRegs, List.getElem?_mapIdx, h, Option.map_some]
    rw [if_pos (by omega)]
  · rw [if_neg e]
    simp only [loseRegs, List.getElem?_mapIdx]
    cases hi : l[i]? with
    | none => rfl
    | some R' =>
      simp only [Option.map_some]
      by_cases hk : i < k
      · rw [if_pos hk, if_pos (by omega)]
      · rw [if_neg hk, if_neg (by omega)]
theorem loseRegs_get (keep : List Nat) (k : Nat) (l : List RegM) : (loseRegs keep k l)[k]? = l[k]? := by
  simp only [loseRegs, List.getElem?_mapIdx]
  cases hi : l[k]? with
  | none => rfl
  | some R' => simp

def LosePost (bd : Nat) (ps : List Nat) (D : DiskM) (F : List Nat) (keep : List Nat) (w : World) (e : Ending) (w' : World) : Prop :=
  e = .returned (.tuple #[]) ∧ ∃ F', DiskAt w' bd ps (D.lose keep) F' ∧ Moves F w F' w'

set_option maxRecDepth 100000 in
set_option maxHeartbeats 1000000 in
theorem lose_any (w : World) (bd : Nat) (ps : List Nat) (D : DiskM) (F : List Nat) (rs vk : Value) (f : Nat → List Nat) (h : DiskIn w bd ps D F rs vk f) (hok : ∀ R, R ∈ D.regs → R.ok)
    (v : Value) (keep : List Nat) (hv : Sees w v (keep.map u64V)) (hkp : ∀ m ∈ keep, m < 2 ^ 64) (hvl : ∀ k, k ∈ own v → k < w.heap.size) (hd : ∀ i, i < ps.length → ∀ k, k ∈ own v → k ∉ f i) :
    Calls Tryd.prog 45 #[ptrV bd, v] w (LosePost bd ps D F keep w) := by
  obtain ⟨a, cap, rfl⟩ := h.rsForm
  have hc0 := h.cell.1
  obtain ⟨av, nv, cv, ev⟩ : ∃ av nv cv, v = .slice av nv cv := by obtain ⟨a, c, e, -⟩ := hv; exact ⟨_, _, _, e⟩
  subst ev
  have hbd := lt_of_heap h.head
  unfold ptrV
  go_enter Tryd.func45, Tryd.ntmps45
  go_wp2_with fail
  refine wp_alloc1 ?_
  intro W hW hbox hWs
  have hI := h.keeps hW (by simp)
  go_loopw [11] (fun i wr => ∃ k : Nat, k ≤ ps.length ∧ i = .int .i64 k ∧ ∃ Fk fk, DiskIn wr bd ps { D with regs := loseRegs keep k D.regs } Fk (.slice a ps.length cap) vk fk ∧ Moves F w Fk wr ∧ wr.heap[w.heap.size]? = some (.cells #[.slice av nv cv] 62 (0, 0)) ∧ Sees wr (.slice av nv cv) (keep.map u64V) ∧ (∀ i, i < ps.length → ∀ x, x ∈ fk i → x ∈ f i ∨ w.heap.size < x)) (fun i _ => ps.length - (intOf i).toNat)
  case atStart => exact ⟨0, by omega, rfl, F, f, by rw [loseRegs_zero]; exact hI, ⟨hW.nil, Fresh.refl _ _⟩, hbox, hv.keeps hW (by simp), fun _ _ _ h => .inl h⟩
  case round =>
    obtain ⟨k, hk, rfl, Fk, fk, hDk, hmv, hbk, hsk, hfk⟩ := hrel
    by_cases hlt : k < ps.length
    · have hb := List.getElem?_eq_getElem hlt
      obtain ⟨g, cap', e, hcell, hmx⟩ := hDk.rsAt hb
      simp only [Value.slice.injEq] at e
      obtain ⟨rfl, -, rfl⟩ := e
      generalize ps[k] = b at hb hcell
      unfold maxLen at hmx
      have hsz := hmv.1.size
      have HB := Lib.hid hb
      clear hb
      go_wp2_with fail
      refine calls_alloc1 ?_
      intro W1 hW1 hbox1 hWs1
      have hD1 := hDk.keeps hW1 (by simp)
      obtain ⟨b', R, hb', hR, -⟩ := h.regOf hlt
      have hRk : (loseRegs keep k D.regs)[k]? = some R := by rw [loseRegs_get]; exact hR
      have hRA : RegAt W1 b R (fk k) := hD1.reg k b R HB.out hRk
      have hRok : R.ok := hok R (List.mem_of_getElem? hR)
      have hn1 : wr.heap.size ∉ fk k := fun x => by have := hDk.lt _ (hDk.fF k hlt _ x); omega
      have hn2 : w.heap.size ∉ fk k := fun x => by
        rcases hfk k hlt _ x with y | y
        · have := h.lt _ (h.fF k hlt _ y); omega
        · omega
      have hn3 : ∀ x, x ∈ own (Value.slice av nv cv) → x ∉ fk k := fun x hx y => by
        rcases hfk k hlt _ y with z | z
        · exact hd k hlt x hx z
        · have := hvl x hx; omega
      have hbk1 := hW1.heap hbk (by simp)
      refine (last_lose W1 b R (fk k) hRA hRok k wr.heap.size w.heap.size _ keep (by rw [cell_blk hbox1]; rfl) (by rw [cell_blk hbk1]; rfl) (hsk.keeps hW1 (by simp)) hkp ⟨hn1, hn2, hn3⟩).mono ?_
      rintro e w2 ⟨rfl, G', hG', hmG⟩
      have hD2 := hD1.upd HB.out hmG.1 hG' hmG.2
      have hreg : (DiskM.setReg { D with regs := loseRegs keep k D.regs } k (R.last (kbit keep k))) = { D with regs := loseRegs keep (k + 1) D.regs } := by
        unfold DiskM.setReg; rw [← loseRegs_succ keep k D.regs R hR]
      rw [hreg] at hD2
      have hmv2 : Moves F w (Fk ++ G') w2 := by
        refine hmv.trans ⟨hW1.nil.trans (hmG.1.mono fun x hx _ => hDk.fF k hlt x hx), fun x hx => ?_⟩
        rcases List.mem_append.1 hx with hx | hx
        · exact .inl hx
        · rcases hmG.2 x hx with y | y
          · exact .inl (hDk.fF k hlt x y)
          · exact .inr (by omega)
      have hbk2 := hmG.1.heap hbk1 hn2
      have hsk2 := (hsk.keeps hW1 (by simp)).keeps hmG.1 hn3
      have hfk2 : ∀ i, i < ps.length → ∀ x, x ∈ (if i = k then G' else fk i) → x ∈ f i ∨ w.heap.size < x := fun i hi x hx => by
        by_cases e : i = k
        · subst e; rw [if_pos rfl] at hx
          rcases hmG.2 x hx with y | y
          · exact hfk i hi x y
          · exact .inr (by omega)
        · rw [if_neg e] at hx; exact hfk i hi x hx
      have H1 := Lib.hid hD2; have H2 := Lib.hid hmv2; have H3 := Lib.hid hbk2; have H4 := Lib.hid hsk2; have H5 := Lib.hid hfk2
      clear hD2 hmv2 hbk2 hsk2 hfk2 hD1 hDk hmv hbk hbk1 hsk hfk hRA hmG hG' hreg hbox1 hR hRk hb' hn3 hn2 hn1
      go_wp2_with fail
      go_roundw
      case rel => exact ⟨k + 1, by omega, by go_num, _, _, H1.out, H2.out, H3.out, H4.out, H5.out⟩
      case measure => simp [intOf]; omega
    · have hk2 : k = ps.length := by omega
      have hre : loseRegs keep k D.regs = D.regs.mapIdx fun n R => R.last (kbit keep n) := loseRegs_all _ _ _ (by rw [h.len]; omega)
      rw [hre] at hDk
      have HK := Lib.hid hk2
      have hf1 := hDk.free 1
      have hf2 := hDk.free 2
      have hf3 := hDk.free 3
      have hf4 := hDk.free 4
      obtain ⟨h0, h1, h2, h3, h4⟩ := hDk.cell
      have H := Lib.hid hDk
      have HH := Lib.hid (setCell_blk (setCell_blk (setCell_blk (setCell_blk hDk.head 1 (.bool true)) 2 (.int .i64 0)) 3 (.int .i64 0)) 4 (.slice none 0 0))
      have HM := Lib.hid hmv
      clear hDk hre hk2 hI h hmv hbk hsk hfk hv
      go_wp2_with fail
      go_end0
      have hk : Keeps [bd] wr _ := (((Keeps.one bd 1 (.bool true)).trans (Keeps.one (w := wr.setCell ⟨bd, 1, none⟩ (.bool true)) bd 2 (.int .i64 0))).trans (Keeps.one bd 3 (.int .i64 0))).trans (Keeps.one bd 4 (.slice none 0 0))
      have := H.out.hd (off := true) (treg := 0) (tleft := 0) (keep := []) hk HH.out (World.ownsRow_nil _ _ _ _) (by simp [own, Value.ownBlock])
      rw [own_nil, List.append_nil] at this
      exact ⟨rfl, Fk, ⟨_, _, _, this⟩, HM.out.trans ⟨hk.mono (fun x hx _ => by simp at hx; subst hx; exact H.out.bdF), Fresh.refl _ _⟩⟩
end Go.Proofs.YtepnbfpclhincaaDoor

namespace Go.Proofs.YtepnbfpclhincaaDoor
open Go.RowKit

/-- A write more that is not flushed. -/
def RegM.push (R : RegM) (s : Nat) (d : List UInt8) : RegM := { R with queue := R.queue ++ [(s, d)] }
def DiskM.hits (D : DiskM) (n : Nat) : Bool := D.tleft != 0 && D.treg == n
/-- A call of a region: does the power fail at it, and what is the disk then? -/
def DiskM.call (D : DiskM) (n : Nat) : Bool × DiskM :=
  if D.hits n then (if D.tleft == 1 then (true, D.lose D.keep) else (false, { D with tleft := D.tleft - 1 })) else (false, D)
def DiskM.write (D : DiskM) (n : Nat) (R : RegM) (s : Nat) (d : List UInt8) : Bool × DiskM := (D.setReg n (R.push s d)).call n

theorem infoWrite : (Tryd.prog.info? 115).map (fun i => (i.zero, i.size, i.bytes)) = some (some (.agg #[.int .i64 0, .string ⟨#[]⟩]), 2, 24) := by kernel_rfl

def CallPost (bd : Nat) (ps : List Nat) (F : List Nat) (w : World) (r : Bool × DiskM) (e : Ending) (w' : World) : Prop :=
  e = .returned (.int .i64 (if r.1 then 11 else 0)) ∧ ∃ F', DiskAt w' bd ps r.2 F' ∧ Moves F w F' w'

theorem DiskIn.own_keep {w : World} {bd : Nat} {ps : List Nat} {D : DiskM} {F : List Nat} {rs vk : Value} {f : Nat → List Nat} (h : DiskIn w bd ps D F rs vk f) : Sees w vk (D.keep.map u64V) := Sees.of_own (by rw [List.length_map]; exact h.vkOwn)

theorem RegM.ok_push {R : RegM} (h : R.ok) {sec : Nat} (hs : sec < R.lasts.length) (hq : R.queue.length < 1099511627776) (d : List UInt8) : (R.push sec d).ok := by
  refine ⟨fun x hx => ?_, by simp [RegM.push]; omega⟩
  simp only [RegM.push, List.mem_append, List.mem_singleton] at hx ⊢
  rcases hx with hx | rfl
  · exact h.1 x hx
  · exact hs
theorem DiskM.ok.setReg {D : DiskM} (h : D.ok) (n : Nat) {R : RegM} (hR : R.ok) : (D.setReg n R).ok :=
  ⟨fun R' h' => by
    rcases List.mem_or_eq_of_mem_set h' with h' | rfl
    · exact h.regs R' h'
    · exact hR, h.left0, h.left1, h.keep⟩
theorem DiskM.ok.push {D : DiskM} (h : D.ok) {n sec : Nat} {R : RegM} (hR : D.regs[n]? = some R) (hs : sec < R.lasts.length) (hq : R.queue.length < 1099511627776) (d : List UInt8) : (D.setReg n (R.push sec d)).ok :=
  h.setReg n (RegM.ok_push (h.regs R (List.mem_of_getElem? hR)) hs hq d)

set_option maxRecDepth 100000 in
set_option maxHeartbeats 1000000 in
theorem Write_ok (w : World) (bd : Nat) (ps : List Nat) (D : DiskM) (F : List Nat) (n sec : Nat) (R : RegM) (s : ByteArray) (h : DiskAt w bd ps D F) (hok : D.ok) (hoff : D.off = false) (hR : D.regs[n]? = some R) (hs : sec < R.lasts.length) (hq : R.queue.length < 1099511627776) (hd : s.size = 64) :
    Calls Tryd.prog 41 #[ptrV bd, .int .i64 n, .int .i64 sec, .string s] w (CallPost bd ps F w (D.write n R sec s.data.toList)) := by
  have hnl : n < ps.length := by have h' := h; obtain ⟨_, _, _, h'⟩ := h'; rw [← h'.len]; exact getElem?_lt hR
  have hb := List.getElem?_eq_getElem hnl
  have HA := Lib.hid (find_ok w bd ps D F n _ sec R h hoff hb hR hs)
  generalize ps[n] = b at hb HA
  obtain ⟨rs, vk, f, h⟩ := h
  have hRA := h.reg n b R hb hR
  obtain ⟨vl, vq, hbk, hl, hq', hf⟩ := hRA.ex
  have hM : Mid w b vl vq R.queue R.lasts := ⟨hbk, hl, hq'⟩
  have c1 : w.cell? ⟨b, 1, none⟩ = some vq := by rw [cell_blk hbk]; rfl
  have b64 : ((s.size : Int) != 64) = false := by simp [hd]
  have H := Lib.hid h
  have HB := Lib.hid hb
  have HF := Lib.hid hf
  have HR := Lib.hid hR
  clear h hb hf hR hRA hbk hl hoff
  unfold ptrV at HA ⊢
  go_enter Tryd.func41, Tryd.ntmps41
  go_wp2_with (first | (go_at_call 58; refine (HA.out).mono ?_; rintro e w' ⟨rfl, rfl⟩) | (at_builtin; refine wpList_app1 (by rfl) (by rfl) Tryd.underlying70 infoWrite rfl (by decide) (by rfl) hM.qOwn (by rfl) (by rfl) ?c1 ?c2 ?c3 ?c4))
  case c1 => simp [Value.oneCell']
  case c2 => unfold maxLen; omega
  case c3 => omega
  case c4 =>
    intro v' w2 ho hk hf'
    obtain ⟨av', cv', rfl⟩ := ownsRow_form ho
    have hbv : b ∉ own vq := fun x => by
      obtain ⟨c', hc'⟩ := own_type hM.qOwn x
      have := hc'.symm.trans hM.head
      injection this with this; injection this with _ e _; cases e
    have hb2 := hk.heap hM.head hbv
    have d1 : w2.cell? ⟨b, 1, none⟩ = some vq := by rw [cell_blk hb2]; rfl
    have f1 : w2.frozen? ⟨b, 1, none⟩ = false := free_blk hb2 1
    have hlq : ∀ k, k ∈ own vl → k ∉ own vq := fun k x y => hM.q_not y x
    have hb3 := setCell_blk hb2 1 (.slice av' (R.queue.length + 1) cv')
    have ho3 : Own (w2.setCell ⟨b, 1, none⟩ (.slice av' (R.queue.length + 1) cv')) 115 2 (.slice av' (R.queue.length + 1) cv') (R.push sec s.data.toList).queue.length (qV (R.push sec s.data.toList).queue) := by
      have e : qV (R.push sec s.data.toList).queue = qV R.queue ++ [.int .i64 sec, .string s] := by simp [RegM.push, qV_snoc, strV]
      rw [e, RegM.push]; simp only [List.length_append, List.length_singleton]
      refine ownsRow_keeps (Keeps.one b 1 _) ho (fun k x y => ?_)
      simp at y; subst y
      obtain ⟨c', hc'⟩ := own_type ho x
      have := hc'.symm.trans hb2
      injection this with this; injection this with _ e _; cases e
    have hl3 : Own (w2.setCell ⟨b, 1, none⟩ (.slice av' (R.queue.length + 1) cv')) 9 1 vl (R.push sec s.data.toList).lasts.length ((R.push sec s.data.toList).lasts.map strV) :=
      ownsRow_keeps (Keeps.one b 1 _) (ownsRow_keeps hk hM.lOwn hlq) (fun k x y => by simp at y; subst y; exact hM.b_not x)
    have hkw : Keeps (f n) w (w2.setCell ⟨b, 1, none⟩ (.slice av' (R.queue.length + 1) cv')) := (hk.mono (fun x hx _ => by rw [HF.out]; simp [hx])).setCell _ _ (.inl (by rw [HF.out]; simp))
    have hfr : Fresh w (f n) (b :: (own vl ++ own (.slice av' (R.queue.length + 1) cv'))) := fun x hx => by
      rw [HF.out]
      rcases List.mem_cons.1 hx with rfl | hx
      · exact .inl (by simp)
      · rcases List.mem_append.1 hx with hx | hx
        · exact .inl (by simp [hx])
        · rcases hf' x hx with y | y
          · exact .inl (by simp [y])
          · exact .inr y
    have hD := H.out.upd HB.out hkw ⟨vl, _, hb3, hl3, ho3, rfl⟩ hfr
    have hmv : Moves F w _ _ := ⟨hkw.mono (fun x hx _ => H.out.fF n hnl x hx), fun x hx => (List.mem_append.1 hx).elim (fun y => .inl y) (fun y => (hfr x y).imp (H.out.fF n hnl x) id)⟩
    have HD := Lib.hid (show DiskAt _ _ _ _ _ from ⟨_, _, _, hD⟩)
    have HV := Lib.hid hmv
    have hok1 := Lib.hid (hok.push HR.out hs hq s.data.toList)
    clear hD hmv hfr hkw hl3 ho3 hb3 hlq hbv ho hk hf' hb2
    go_wp2_with fail
    generalize w2.setCell ⟨b, 1, none⟩ (.slice av' (R.queue.length + 1) cv') = w3 at HD HV
    generalize F ++ b :: (own vl ++ own (.slice av' (R.queue.length + 1) cv')) = F3 at HD HV
    have HW : Hid (D.write n R sec s.data.toList = (D.setReg n (R.push sec s.data.toList)).call n) := rfl
    generalize D.setReg n (R.push sec s.data.toList) = D3 at HD hok1 HW
    clear d1 f1
    cases hh : D3.hits n with
    | false =>
      have hno : D3.tleft = 0 ∨ D3.treg ≠ n := by
        unfold DiskM.hits at hh
        by_cases e : D3.tleft = 0
        · exact .inl e
        · right; intro e2; simp [e, e2] at hh
      have HC : Hid (D.write n R sec s.data.toList = (false, D3)) := by refine HW.out.trans ?_; unfold DiskM.call; rw [hh]; rfl
      clear hh
      refine (fails_no w3 bd ps D3 F3 n HD.out hno).mono ?_
      rintro e w4 ⟨rfl, rfl⟩
      go_wp2_with fail
      go_ret
      exact ⟨by rw [HC.out]; rfl, F3, by rw [HC.out]; exact HD.out, HV.out⟩
    | true =>
      have hyes : D3.tleft ≠ 0 ∧ D3.treg = n := by
        unfold DiskM.hits at hh; simpa using hh
      have h0 := hok1.out.left0
      refine (fails_yes w3 bd ps D3 F3 n HD.out (by omega) hok1.out.left1 hyes.2).mono ?_
      rintro e w4 ⟨rfl, hD4, hk4⟩
      have HV4 : Hid (Moves F w F3 w4) := HV.out.trans ⟨hk4, Fresh.refl _ _⟩
      by_cases h1 : D3.tleft = 1
      · have HC : Hid (D.write n R sec s.data.toList = (true, D3.lose D3.keep)) := by refine HW.out.trans ?_; unfold DiskM.call; rw [hh, h1]; rfl
        have b1 : (D3.tleft == 1) = true := beq_iff_eq.2 h1
        clear hh hyes h0 h1 hk4
        obtain ⟨rs4, vk4, f4, hD4⟩ := hD4
        have c4 := hD4.cell.2.2.2.2
        have HD4 := Lib.hid hD4
        clear hD4
        go_wp2_with fail
        refine (lose_any w4 bd ps _ F3 rs4 vk4 f4 HD4.out hok1.out.regs vk4 D3.keep HD4.out.own_keep hok1.out.keep (fun k hk => HD4.out.lt k (HD4.out.vkF k hk)) (fun i hi k hk => HD4.out.vk_not hi hk)).mono ?_
        rintro e w5 ⟨rfl, F5, hD5, hm5⟩
        go_wp2_with fail
        go_ret
        exact ⟨by rw [HC.out]; rfl, F5, by rw [HC.out]; exact hD5, HV4.out.trans hm5⟩
      · have HC : Hid (D.write n R sec s.data.toList = (false, { D3 with tleft := D3.tleft - 1 })) := by
          refine HW.out.trans ?_; unfold DiskM.call; rw [hh]; simp [h1]
        have b1 : (D3.tleft == 1) = false := beq_eq_false_iff_ne.2 h1
        clear hh hyes h0 h1 hk4
        go_wp2_with fail
        go_ret
        exact ⟨by rw [HC.out]; rfl, F3, by rw [HC.out]; exact hD4, HV4.out⟩
end Go.Proofs.YtepnbfpclhincaaDoor

namespace Go.Proofs.YtepnbfpclhincaaDoor
open Go.RowKit

def DiskM.flush (D : DiskM) (n : Nat) (R : RegM) : Bool × DiskM :=
  if D.hits n then (if D.tleft == 1 then (true, D.lose D.keep) else (false, { D with tleft := D.tleft - 1 }.setReg n (R.last allKept))) else (false, D.setReg n (R.last allKept))

set_option maxRecDepth 100000 in
set_option maxHeartbeats 1000000 in
theorem Flush_ok (w : World) (bd : Nat) (ps : List Nat) (D : DiskM) (F : List Nat) (n : Nat) (R : RegM) (h : DiskAt w bd ps D F) (hok : D.ok) (hoff : D.off = false) (hR : D.regs[n]? = some R) :
    Calls Tryd.prog 43 #[ptrV bd, .int .i64 n] w (CallPost bd ps F w (D.flush n R)) := by
  have hnl : n < ps.length := by have h' := h; obtain ⟨_, _, _, h'⟩ := h'; rw [← h'.len]; exact getElem?_lt hR
  have hb := List.getElem?_eq_getElem hnl
  have HA := Lib.hid (at_in w bd ps D F n _ h hb)
  generalize ps[n] = b at hb HA
  have HB := Lib.hid hb
  have HR := Lib.hid hR
  have HD := Lib.hid h
  have hRok := hok.regs R (List.mem_of_getElem? hR)
  obtain ⟨rs, vk, f, h⟩ := h
  have h1 := h.cell.2.1
  rw [hoff] at h1
  clear h hb hR hoff
  unfold ptrV at HA ⊢
  go_enter Tryd.func43, Tryd.ntmps43
  go_wp2_with (go_at_call 44; refine (HA.out).mono ?_; rintro e w' ⟨rfl, rfl⟩)
  cases hh : D.hits n with
  | false =>
    have hno : D.tleft = 0 ∨ D.treg ≠ n := by
      unfold DiskM.hits at hh
      by_cases e : D.tleft = 0
      · exact .inl e
      · right; intro e2; simp [e, e2] at hh
    have HC : Hid (D.flush n R = (false, D.setReg n (R.last allKept))) := by show D.flush n R = _; unfold DiskM.flush; rw [hh]; rfl
    clear hh
    refine (fails_no w bd ps D F n HD.out hno).mono ?_
    rintro e w4 ⟨rfl, rfl⟩
    obtain ⟨rs, vk, f, hD⟩ := HD.out
    have HDD := Lib.hid hD
    clear hD
    go_wp2_with fail
    refine (last_all w b R (f n) (HDD.out.reg n b R HB.out HR.out) hRok).mono ?_
    rintro e w5 ⟨rfl, G', hG', hmG⟩
    have HD5 := Lib.hid (HDD.out.upd HB.out hmG.1 hG' hmG.2)
    have HM5 : Hid (Moves F w (F ++ G') w5) := ⟨hmG.1.mono (fun x hx _ => HDD.out.fF n hnl x hx), fun x hx => (List.mem_append.1 hx).elim (fun y => .inl y) (fun y => (hmG.2 x y).imp (HDD.out.fF n hnl x) id)⟩
    clear hG' hmG
    go_wp2_with fail
    go_ret
    exact ⟨by rw [HC.out]; rfl, _, by rw [HC.out]; exact ⟨_, _, _, HD5.out⟩, HM5.out⟩
  | true =>
    have hyes : D.tleft ≠ 0 ∧ D.treg = n := by
      unfold DiskM.hits at hh; simpa using hh
    have h0 := hok.left0
    refine (fails_yes w bd ps D F n HD.out (by omega) hok.left1 hyes.2).mono ?_
    rintro e w4 ⟨rfl, hD4, hk4⟩
    have HV4 : Hid (Moves F w F w4) := ⟨hk4, Fresh.refl _ _⟩
    obtain ⟨rs4, vk4, f4, hD4⟩ := hD4
    have HD4 := Lib.hid hD4
    by_cases h1' : D.tleft = 1
    · have HC : Hid (D.flush n R = (true, D.lose D.keep)) := by show D.flush n R = _; unfold DiskM.flush; rw [hh, h1']; rfl
      have b1 : (D.tleft == 1) = true := beq_iff_eq.2 h1'
      have c4 := hD4.cell.2.2.2.2
      clear hh hyes h0 h1' hk4 hD4 h1
      go_wp2_with fail
      refine (lose_any w4 bd ps _ F rs4 vk4 f4 HD4.out hok.regs vk4 D.keep HD4.out.own_keep hok.keep (fun k hk => HD4.out.lt k (HD4.out.vkF k hk)) (fun i hi k hk => HD4.out.vk_not hi hk)).mono ?_
      rintro e w5 ⟨rfl, F5, hD5, hm5⟩
      go_wp2_with fail
      go_ret
      exact ⟨by rw [HC.out]; rfl, F5, by rw [HC.out]; exact hD5, HV4.out.trans hm5⟩
    · have HC : Hid (D.flush n R = (false, { D with tleft := D.tleft - 1 }.setReg n (R.last allKept))) := by
        show D.flush n R = _; unfold DiskM.flush; rw [hh]; simp [h1']
      have b1 : (D.tleft == 1) = false := beq_eq_false_iff_ne.2 h1'
      clear hh hyes h0 h1' hk4 hD4 h1
      go_wp2_with fail
      refine (last_all w4 b R (f4 n) (HD4.out.reg n b R HB.out HR.out) hRok).mono ?_
      rintro e w5 ⟨rfl, G', hG', hmG⟩
      have HD5 := Lib.hid (HD4.out.upd HB.out hmG.1 hG' hmG.2)
      have HM5 : Hid (Moves F w (F ++ G') w5) := HV4.out.trans ⟨hmG.1.mono (fun x hx _ => HD4.out.fF n hnl x hx), fun x hx => (List.mem_append.1 hx).elim (fun y => .inl y) (fun y => (hmG.2 x y).imp (HD4.out.fF n hnl x) id)⟩
      clear hG' hmG
      go_wp2_with fail
      go_ret
      exact ⟨by rw [HC.out]; rfl, _, by rw [HC.out]; exact ⟨_, _, _, HD5.out⟩, HM5.out⟩

/-- The power is on again. -/
def DiskM.on (D : DiskM) : DiskM := { D with off := false, treg := 0, tleft := 0, keep := [] }
def DiskM.crash (D : DiskM) (keep : List Nat) : DiskM := if D.off then D.on else (D.lose keep).on

set_option maxHeartbeats 400000 in
theorem Crash_any (w : World) (bd : Nat) (ps : List Nat) (D : DiskM) (F : List Nat) (v : Value) (keep : List Nat) (h : DiskAt w bd ps D F) (hok : ∀ R, R ∈ D.regs → R.ok)
    (hv : Sees w v (keep.map u64V)) (hkp : ∀ m ∈ keep, m < 2 ^ 64) (hvl : ∀ k, k ∈ own v → k < w.heap.size ∧ k ∉ F) :
    Calls Tryd.prog 17 #[ptrV bd, v] w fun e w' => e = .returned (.tuple #[]) ∧ ∃ F', DiskAt w' bd ps (D.crash keep) F' ∧ Moves F w F' w' := by
  obtain ⟨rs, vk, f, h⟩ := h
  have h1 := h.cell.2.1
  have HD := Lib.hid h
  clear h
  obtain ⟨av, nv, cv, rfl⟩ : ∃ av nv cv, v = .slice av nv cv := by obtain ⟨a, c, e, -⟩ := hv; exact ⟨_, _, _, e⟩
  unfold ptrV
  cases ho : D.off with
  | true =>
    have HC : Hid (D.crash keep = D.on) := by show D.crash keep = _; unfold DiskM.crash; rw [ho]; rfl
    rw [ho] at h1
    clear ho
    go_enter Tryd.func17, Tryd.ntmps17
    go_wp2_with fail
    refine (On_any w bd ps D F ⟨_, _, _, HD.out⟩).mono ?_
    rintro e w2 ⟨rfl, hD2, hk2⟩
    go_wp2_with fail
    go_end0
    exact ⟨rfl, F, by rw [HC.out]; exact hD2, hk2, Fresh.refl _ _⟩
  | false =>
    have HC : Hid (D.crash keep = (D.lose keep).on) := by show D.crash keep = _; unfold DiskM.crash; rw [ho]; rfl
    rw [ho] at h1
    clear ho
    go_enter Tryd.func17, Tryd.ntmps17
    go_wp2_with fail
    refine (lose_any w bd ps D F rs vk f HD.out hok _ keep hv hkp (fun k hk => (hvl k hk).1) (fun i hi k hk hk' => (hvl k hk).2 (HD.out.fF i hi k hk'))).mono ?_
    rintro e w2 ⟨rfl, F2, hD2, hm2⟩
    go_wp2_with fail
    refine (On_any w2 bd ps _ F2 hD2).mono ?_
    rintro e w3 ⟨rfl, hD3, hk3⟩
    go_wp2_with fail
    go_end0
    exact ⟨rfl, F2, by rw [HC.out]; exact hD3, hm2.trans ⟨hk3, Fresh.refl _ _⟩⟩
end Go.Proofs.YtepnbfpclhincaaDoor

namespace Go.Proofs.YtepnbfpclhincaaDoor
open Go.RowKit

theorem repeatL_one (c : UInt8) (n : Nat) : Lib.repeatL [c] n = List.replicate n c := by
  induction n with
  | zero => rfl
  | succ n ih => simp [Lib.repeatL, ih, List.replicate_succ]

/-- A sector of noughts. -/
def noneL : List UInt8 := List.replicate 64 0

theorem none_any (w : World) : Calls Tryd.prog 31 #[] w fun e w' => e = .returned (strV noneL) ∧ Keeps [] w w' := by
  have H := Lib.hid (Tryd.strings_Repeat ⟨#[0]⟩ 64 w (by decide) (by decide))
  go_enter Tryd.func31, Tryd.ntmps31
  go_wp2_with fail
  refine (H.out).mono ?_
  rintro e w1 ⟨rfl, hb⟩
  have h := Lib.hid (repeatL_one 0 64)
  go_wp2_with fail
  go_ret
  exact ⟨ret_of (congrArg (fun l : List UInt8 => Value.string ⟨l.toArray⟩) h.out), .of_below hb⟩

theorem madeCells_one (x : Value) (n : Nat) : madeCells #[x] n = (List.replicate n x).toArray := by
  apply Array.ext'
  simp only [madeCells, Array.toList_map, Array.toList_range]
  apply List.ext_getElem
  · simp
  · intro i h1 h2
    simp [Nat.mod_one]

theorem sizeStr : (Tryd.prog.info? 9).map (·.size) = some 1 := by kernel_rfl

/-- The first m elements of a row are x. -/
def Filled (L : List Value) (m : Nat) (x : Value) : Prop := ∀ j, j < m → L[j]? = some x
theorem Filled.splice {L : List Value} {m c : Nat} {x : Value} (h : Filled L m x) (hl : m + c ≤ L.length) : Filled (splice L m (List.replicate c x)) (m + c) x := fun j hj => by
  unfold Go.splice
  by_cases h1 : j < m
  · rw [List.getElem?_append_left (by rw [List.length_take]; omega), List.getElem?_take, if_pos h1]; exact h j h1
  · rw [List.getElem?_append_right (by rw [List.length_take]; omega), List.getElem?_append_left (by rw [List.length_take, List.length_replicate]; omega), List.length_take, List.getElem?_replicate, if_pos (by omega)]
theorem Filled.all {L : List Value} {m : Nat} {x : Value} (h : Filled L m x) (hl : L.length = m) : L = List.replicate m x := by
  apply List.ext_getElem?; intro i
  by_cases hi : i < m
  · rw [h i hi, List.getElem?_replicate, if_pos hi]
  · rw [List.getElem?_eq_none (by omega), List.getElem?_eq_none (by simp; omega)]

theorem step_copy_fill {P : Program} {ops : Array Oper} {o : Oper} {a : Act} {w : World} {K : Act → World → Prop} {Q : Exit → Act → World → Prop} {E : Prop} (hgd : o.guard = none) {d s : Operand} {dT : TypeId}
    (ho : o.op = .call { callee := .builtin .copy, args := #[d, s], argTypes := #[dT, dT] }) {elem : TypeId} (hu : P.underlying dT = some (.slice elem)) (hsz : (P.info? elem).map (·.size) = some 1)
    {g n m : Nat} (hd : a.eval d = .slice (some ⟨g, m, none⟩) (n - m) (n - m)) (hs : a.eval s = .slice (some ⟨g, 0, none⟩) m n) {L : List Value} {t : TypeId} {x : Value}
    (hg : w.heap[g]? = some (.cells L.toArray t (0, 0))) (hF : Filled L m x) (hL : L.length = n) (hm : m < n) (hx1 : x.oneCell' = true) {B : Nat} {w0 : World} (hb : Below B w0 w) (hBg : B ≤ g)
    (h : ∀ w', Hid (w'.heap[g]? = some (.cells (splice L m (List.replicate (min m (n - m)) x)).toArray t (0, 0))) → Below B w0 w' → K (a.put o.dst (.int .i64 (min m (n - m) : Nat))) w') :
    if Region.wanted o (yielded ops a.tmps) = true then Oper.wp P o a w K Q else E := by
  refine step_copy_splice hgd d s dT dT ho elem hu hsz _ _ _ _ _ _ hd hs g m L t hg (List.replicate (min m (n - m)) x) (by simp [Nat.min_def]) (fun _ => ⟨rfl, _, rfl, fun j v hj => ?_⟩) (by simp; omega) (fun v hv => by rw [List.eq_of_mem_replicate hv]; exact hx1) B w0 hb hBg (fun w' h1 h2 => ?_)
  · rw [List.getElem?_replicate] at hj
    split at hj
    · injection hj with hj; subst hj
      rw [cells_add]
      have := cell_blk hg j
      simp only [List.getElem?_toArray] at this
      exact this.trans (hF j (by omega))
    · cases hj
  · have := h w' h1 h2
    rw [List.length_replicate]
    exact this

set_option maxRecDepth 100000 in
set_option maxHeartbeats 1000000 in
theorem Repeat_any (v : Value) (t : List UInt8) (n : Nat) (w : World) (hv : Sees w v [strV t]) (hn1 : 1 ≤ n) (hn : n ≤ 4096) :
    Calls Tryd.prog 30 #[v, .int .i64 n] w fun e w' => ∃ v', e = .returned v' ∧ Texts w' v' (List.replicate n t) ∧ New w v' ∧ Keeps [] w w' := by
  obtain ⟨a, cap, rfl, hc1, hc2, hcell⟩ := hv
  obtain ⟨b, off, rfl, hb, hc⟩ := hcell.resolve_left (by simp)
  simp only [List.length_singleton] at hc1 ⊢
  have h0 := hc 0 (strV t) (by simp)
  have H := Lib.hid (Tryd.bits_Mul 1 n (by decide) (by omega) w)
  clear hc hcell
  have b0 : decide ((n : Int) < 0) = false := decide_eq_false (by omega)
  obtain ⟨i0, hi, hz0, hz1, hz2⟩ := info_parts infoStr
  have hmk := run_make (P := Tryd.prog) w 23 9 i0 (.string ⟨#[]⟩) Tryd.underlying23 hi hz0 .i64 .i64 n n (by omega) (by omega) (by rw [hz2]; omega) (by omega)
  rw [hz1, Nat.mul_one, Int.toNat_natCast, show (Value.string ⟨#[]⟩).cells = #[.string ⟨#[]⟩] from rfl, madeCells_one] at hmk
  have h00 : w.cell? (Addr.add ⟨b, off, none⟩ 0) = some (strV t) := by
    have : Addr.add ⟨b, off, none⟩ 0 = ⟨b, off + 0, none⟩ := by unfold Addr.add; split <;> simp_all
    rw [this]; exact h0
  clear h0
  have hx1 : (strV t).oneCell' = true := rfl
  have HT : Hid (∀ w' v', Own w' 9 1 v' n (List.replicate n (strV t)) → Texts w' v' (List.replicate n t)) := fun w' v' h => by
    unfold Texts; simpa using h
  generalize strV t = x at h00 hx1 HT
  go_enter Tryd.func30, Tryd.ntmps30
  go_wp2_with fail
  refine (H.out).mono ?_
  rintro e w1 ⟨rfl, rfl⟩
  rw [show 1 * n / 18446744073709551616 = 0 by omega, show 1 * n % 18446744073709551616 = n by omega]
  have hadd : Addr.add ⟨b, off, none⟩ 0 = ⟨b, off, none⟩ := by unfold Addr.add; split <;> simp_all
  go_wp2_with (with_reducible refine wpList_copy_splice rfl (.tmp 31) (.tmp 32) 23 23 rfl 9 Tryd.underlying23 sizeStr (some ⟨w1.heap.size, 0, none⟩) (some ⟨b, off, none⟩) n n 1 cap rfl rfl w1.heap.size 0 (List.replicate n (.string ⟨#[]⟩)) 9 (heap_alloc_new _ _) [x] ?c1 ?c2 ?c3 ?c4 w1.heap.size w1 ?c5 (Nat.le_refl _) ?c6)
  case c1 => exact (Nat.min_eq_left hn1).symm
  case c2 => intro j v hj; cases j with
    | zero => simp at hj; subst hj; rw [Nat.add_zero, ← hadd]; exact h00
    | succ j => simp at hj
  case c3 => simp; omega
  case c4 => simp [hx1]
  case c5 => exact (Below.refl _ _).alloc (Nat.le_refl _) _
  case c6 =>
    intro w2 hg2 hb2
    go_wp2_with fail
    clear hmk
    go_loopw [8] (fun i wr => ∃ m : Nat, 1 ≤ m ∧ m ≤ n ∧ i = .int .i64 m ∧ ∃ L : List Value, L.length = n ∧ Filled L m x ∧ wr.heap[w1.heap.size]? = some (.cells L.toArray 9 (0, 0)) ∧ Below w1.heap.size w1 wr) (fun i _ => n - (intOf i).toNat)
    case atStart =>
      refine ⟨1, by omega, by omega, rfl, _, ?_, ?_, hg2.out, hb2⟩
      · rw [length_splice _ _ _ (by simp; omega)]; simp
      · exact Filled.splice (m := 0) (c := 1) (L := List.replicate n (.string ⟨#[]⟩)) (fun j hj => by omega) (by simp; omega)
    case round =>
      obtain ⟨m, hm1, hmn, rfl, L, hL, hF, hg, hb'⟩ := hrel
      have HL := Lib.hid hL; clear hL
      by_cases hlt : m < n
      · have hlt' : (m : Int) < n := by omega
        have hnm : ¬ n = m := by omega
        go_wp2_with fail
        go_region_held3 (fun _ => True) (trivial) ((refine step_copy_fill rfl rfl Tryd.underlying23 sizeStr rfl rfl (g := w1.heap.size) (L := L) (m := m) (n := n) (x := x) (t := 9) hg hF HL.out hlt hx1 (hb'.drew) (Nat.le_refl _) ?_; intro w3 hg3 hb3))
        have hc1 : m + min m (n - m) ≤ n := by simp [Nat.min_def]; split <;> omega
        have hc2 : 1 ≤ min m (n - m) := by simp [Nat.min_def]; split <;> omega
        have HG := Lib.hid hg3.out
        have HF := Lib.hid (Filled.splice (c := min m (n - m)) hF (by rw [HL.out]; exact hc1))
        have HLN : Hid ((splice L m (List.replicate (min m (n - m)) x)).length = n) := by
          show _ = _
          rw [length_splice _ _ _ (by rw [List.length_replicate, HL.out]; exact hc1)]; exact HL.out
        generalize min m (n - m) = c at hc1 hc2 HG HF HLN
        clear hg3 hF
        have hw : IntKind.i64.wrap ((m : Int) + c) = ((m + c : Nat) : Int) := by rw [IntKind.wrap_i64]; omega
        go_wp2_with fail
        go_roundw
        case rel => exact ⟨m + c, by omega, by omega, by go_num, _, HLN.out, HF.out, HG.out, hb3⟩
        case measure => simp [intOf]; omega
      · have hmn' : m = n := by omega
        have HM := Lib.hid hmn'; clear hmn'
        go_wp2_with fail
        go_ret
        refine ⟨_, rfl, HT.out _ _ ⟨by simp, .inr ⟨w1.heap.size, n, _, rfl, Nat.zero_le _, hg, Nat.le_refl _, by unfold maxLen; omega, by simp; exact HL.out, ?_⟩⟩, fun k hk => by simp [own, Value.ownBlock] at hk; omega, .of_below hb'⟩
        have := hF.all (by rw [HL.out, HM.out])
        rw [this, HM.out]; simp
end Go.Proofs.YtepnbfpclhincaaDoor

namespace Go.Proofs.YtepnbfpclhincaaDoor
open Go.RowKit

theorem infoPtr : (Tryd.prog.info? 67).map (fun i => (i.zero, i.size, i.bytes)) = some (some (.pointer none), 1, 8) := by kernel_rfl

theorem none_str (w : World) : Calls Tryd.prog 31 #[] w fun e w' => e = .returned (.string ⟨noneL.toArray⟩) ∧ Keeps [] w w' := none_any w

def freshR (n : Nat) : RegM := { lasts := List.replicate (min n 4096) noneL, queue := [] }
def DiskM.fresh (sizes : List Nat) : DiskM := { regs := sizes.map freshR, off := false, treg := 0, tleft := 0, keep := [] }
def intV (n : Nat) : Value := .int .i64 n

/-- A disk that has just been made, of some regions. -/
def NewPost (sizes : List Nat) (w : World) (e : Ending) (w' : World) : Prop :=
  ∃ bd ps F, e = .returned (ptrV bd) ∧ DiskAt w' bd ps (DiskM.fresh sizes) F ∧ (∀ k, k ∈ F → w.heap.size ≤ k) ∧ Keeps [] w w'

/-- One region more. -/
theorem DiskIn.add {w w' : World} {bd : Nat} {ps : List Nat} {D : DiskM} {F : List Nat} {rs vk : Value} {f : Nat → List Nat} (h : DiskIn w bd ps D F rs vk f) {b : Nat} {R : RegM} {G : List Nat} {rs' : Value}
    (hk : Keeps (bd :: own rs) w w') (hh : w'.heap[bd]? = some (.cells #[rs', .bool D.off, .int .i64 D.treg, .int .i64 D.tleft, vk] 66 (0, 0)))
    (hr : Own w' 67 1 rs' (ps.length + 1) (ps.map ptrV ++ [ptrV b])) (hR : RegAt w' b R G) (hG : ∀ k, k ∈ G → w.heap.size ≤ k) (hvr : ∀ k, k ∈ own vk → k ∉ own rs) :
    DiskIn w' bd (ps ++ [b]) { D with regs := D.regs ++ [R] } (F ++ (own rs' ++ G)) rs' vk (fun j => if j = ps.length then G else f j) := by
  have hfk : ∀ i, i < ps.length → ∀ k, k ∈ f i → k ∉ bd :: own rs := fun i hi k x y => by
    rcases List.mem_cons.1 y with rfl | y
    · exact h.bd_not hi x
    · exact h.rs_not hi y x
  refine ⟨hh, by simpa using hr, ownsRow_keeps hk h.vkOwn (fun k x y => ?_), by simp [h.len], ?_, ?_, by simp [h.bdF], fun k x => by simp [x], fun k x => by simp [h.vkF k x], ?_, ?_⟩
  · rcases List.mem_cons.1 y with rfl | y
    · exact h.vk_bd x rfl
    · exact hvr k x y
  · intro i b' R' hb' hR'
    by_cases e : i < ps.length
    · rw [List.getElem?_append_left e] at hb'
      rw [List.getElem?_append_left (by rw [h.len]; exact e)] at hR'
      rw [if_neg (by omega)]
      exact (h.reg i b' R' hb' hR').keeps hk (hfk i e)
    · have hi := getElem?_lt hb'
      simp at hi
      have e2 : i = ps.length := by omega
      subst e2
      rw [List.getElem?_append_right (Nat.le_refl _)] at hb'
      rw [List.getElem?_append_right (by rw [h.len]; exact Nat.le_refl _), h.len] at hR'
      simp at hb' hR'
      subst hb'; subst hR'
      rw [if_pos rfl]; exact hR
  · intro i j hi hj hij k hki hkj
    simp at hi hj
    by_cases e : i = ps.length
    · rw [if_pos e] at hki
      rw [if_neg (by omega)] at hkj
      have := h.lt k (h.fF j (by omega) k hkj)
      have := hG k hki
      omega
    · rw [if_neg e] at hki
      by_cases e2 : j = ps.length
      · rw [if_pos e2] at hkj
        have := h.lt k (h.fF i (by omega) k hki)
        have := hG k hkj
        omega
      · rw [if_neg e2] at hkj
        exact h.apart i j (by omega) (by omega) hij k hki hkj
  · intro i hi k x
    simp at hi
    by_cases e : i = ps.length
    · rw [if_pos e] at x; simp [x]
    · rw [if_neg e] at x; simp [h.fF i (by omega) k x]
  · intro k x
    rcases List.mem_append.1 x with x | x
    · exact Nat.lt_of_lt_of_le (h.lt k x) hk.size
    · rcases List.mem_append.1 x with x | x
      · exact ownsRow_lt hr k x
      · exact hR.lt k x

/-- The disk behind one round of 'New'. -/
theorem New_rel {w wr w1 w2 : World} {sizes ps : List Nat} {k c n bd : Nat} {F : List Nat} {f : Nat → List Nat} {ar av : Option Addr} {cr cv : Nat} {a1 : Option Addr} {c1 : Nat}
    (hD : DiskIn wr bd ps (DiskM.fresh (sizes.take k)) F (.slice ar ps.length cr) (.slice none 0 0) f) (hF : ∀ x, x ∈ F → w.heap.size ≤ x) (hkp : Keeps [] w wr) (hbd : w.heap.size ≤ bd)
    (hS : sizes.take (k + 1) = sizes.take k ++ [n]) (hc : c = min n 4096) (hW1 : Keeps [] wr w1) (htx : Texts w1 (.slice a1 c c1) (List.replicate c noneL)) (hnw : ∀ x, x ∈ own (.slice a1 c c1) → wr.heap.size ≤ x)
    (ho : Own w2 67 1 (.slice av (ps.length + 1) cv) (ps.length + 1) (ps.map ptrV ++ [.pointer (some ⟨w1.heap.size, 0, none⟩)]))
    (hk2 : Keeps (own (.slice ar ps.length cr)) (w1.alloc (.cells #[.slice a1 c c1, .slice none 0 0] 72)) w2) (hf : ∀ x, x ∈ own (.slice av (ps.length + 1) cv) → x ∈ own (.slice ar ps.length cr) ∨ (w1.alloc (.cells #[.slice a1 c c1, .slice none 0 0] 72)).heap.size ≤ x) :
    ∃ rs' ps' f' F', DiskIn (w2.setCell ⟨bd, 0, none⟩ (.slice av (ps.length + 1) cv)) bd ps' (DiskM.fresh (sizes.take (k + 1))) F' rs' (.slice none 0 0) f' ∧ ps'.length = ps.length + 1 ∧ (∀ x, x ∈ F' → w.heap.size ≤ x) ∧ Keeps [] w (w2.setCell ⟨bd, 0, none⟩ (.slice av (ps.length + 1) cv)) := by
  have hrsF := hD.rsF
  have hz := hkp.size
  have hz1 := hW1.size
  have hnr : bd ∉ own (.slice ar ps.length cr) := fun x => hD.rs_bd x rfl
  have hkA : Keeps (own (.slice ar ps.length cr)) wr w2 := (Keeps.nil (hW1.alloc _)).trans hk2
  have hb1 := heap_alloc_new w1 (.cells #[.slice a1 c c1, .slice none 0 0] 72)
  have hbn : w1.heap.size ∉ own (.slice ar ps.length cr) := fun x => by have := hD.lt _ (hrsF _ x); omega
  have hb2 := hk2.heap hb1 hbn
  have hbdlt := lt_of_heap hD.head
  have hne : w1.heap.size ≠ bd := by omega
  have hv1 : ∀ x, x ∈ own (.slice a1 c c1) → x ∉ own (.slice ar ps.length cr) := fun x hx hy => by
    have := hnw x hx; have := hD.lt _ (hrsF _ hy); omega
  have hv2 : ∀ x, x ∈ own (.slice a1 c c1) → x ≠ bd := fun x hx e => by have := hnw x hx; omega
  have hh := setCell_blk (hkA.heap hD.head hnr) 0 (.slice av (ps.length + 1) cv)
  have hkf : Keeps (bd :: own (.slice ar ps.length cr)) wr (w2.setCell ⟨bd, 0, none⟩ (.slice av (ps.length + 1) cv)) := (hkA.mono (fun x hx _ => by simp [hx])).setCell _ _ (.inl (by simp))
  have hkb : Keeps [bd] w2 (w2.setCell ⟨bd, 0, none⟩ (.slice av (ps.length + 1) cv)) := Keeps.one _ _ _
  have hR : RegAt (w2.setCell ⟨bd, 0, none⟩ (.slice av (ps.length + 1) cv)) w1.heap.size (freshR n) (w1.heap.size :: (own (.slice a1 c c1) ++ [])) := by
    refine ⟨.slice a1 c c1, .slice none 0 0, hkb.heap hb2 (by simpa using hne), ?_, World.ownsRow_nil _ _ _ _, by simp [own_nil]⟩
    have e : (freshR n).lasts = List.replicate c noneL := by rw [freshR, hc]
    rw [e]
    exact ownsRow_keeps hkb (ownsRow_keeps hk2 (ownsRow_keeps ((Keeps.refl [] _).alloc _) htx (by simp)) hv1) (fun x hx => by simpa using hv2 x hx)
  have hA := hD.add hkf hh (ownsRow_keeps hkb ho (fun x hx => by
    simp; intro e; subst e
    rcases hf x hx with y | y
    · exact hnr y
    · simp at y; omega)) hR (fun x hx => by
    rcases List.mem_cons.1 hx with rfl | hx
    · exact hz1
    · rw [List.append_nil] at hx; exact hnw x hx) (by simp [own_nil])
  have hm : ({ DiskM.fresh (sizes.take k) with regs := (DiskM.fresh (sizes.take k)).regs ++ [freshR n] } : DiskM) = DiskM.fresh (sizes.take (k + 1)) := by
    rw [hS]; simp [DiskM.fresh]
  rw [hm] at hA
  refine ⟨_, _, _, _, hA, by simp, ?_, ?_⟩
  · intro x hx
    rcases List.mem_append.1 hx with hx | hx
    · exact hF x hx
    · rcases List.mem_append.1 hx with hx | hx
      · rcases hf x hx with y | y
        · exact hF x (hrsF x y)
        · simp at y; omega
      · rcases List.mem_cons.1 hx with rfl | hx
        · omega
        · rw [List.append_nil] at hx; have := hnw x hx; omega
  · exact (hkp.trans' hkf (fun x hx hl => by
      rcases List.mem_cons.1 hx with rfl | hx
      · omega
      · have := hF x (hrsF x hx); omega))

set_option maxRecDepth 100000 in
set_option maxHeartbeats 4000000 in
theorem New_any (v : Value) (sizes : List Nat) (w : World) (hv : Sees w v (sizes.map intV)) (hl : sizes.length ≤ 8) (hs : ∀ n ∈ sizes, 1 ≤ n) :
    Calls Tryd.prog 9 #[v] w (NewPost sizes w) := by
  obtain ⟨a, cap, rfl, hc1, hc2, hcell⟩ := hv
  rw [List.length_map] at *
  have HC := Lib.hid hcell; clear hcell
  unfold maxLen at hc2
  have hmin : min (sizes.length : Int) 8 = sizes.length := by omega
  have hle : (sizes.length : Int) ≤ cap := by omega
  go_enter Tryd.func9, Tryd.ntmps9
  go_wp2_with fail
  refine wp_alloc1 ?_
  intro W hW hbox hWs
  have hD0 : DiskIn W w.heap.size [] (DiskM.fresh []) [w.heap.size] (.slice none 0 0) (.slice none 0 0) (fun _ => []) :=
    ⟨hbox, World.ownsRow_nil _ _ _ _, World.ownsRow_nil _ _ _ _, rfl, fun i b R h => by simp at h, fun i j h => by simp at h, by simp, by simp [own, Value.ownBlock], by simp [own, Value.ownBlock], fun i h => by simp at h, fun k h => by simp at h; omega⟩
  clear hbox
  go_loopw [14] (fun i wr => ∃ k : Nat, k ≤ sizes.length ∧ i = .int .i64 k ∧ ∃ rs ps f F, DiskIn wr w.heap.size ps (DiskM.fresh (sizes.take k)) F rs (.slice none 0 0) f ∧ ps.length = k ∧ (∀ x, x ∈ F → w.heap.size ≤ x) ∧ Keeps [] w wr) (fun i _ => sizes.length - (intOf i).toNat)
  case atStart => exact ⟨0, by omega, rfl, _, [], _, _, hD0, rfl, fun x h => by simp at h; omega, hW⟩
  case round =>
    obtain ⟨k, hk, rfl, rs, ps, f, F, hD, hps, hF, hkp⟩ := hrel
    by_cases hlt : k < sizes.length
    · have hlt' : k < (sizes.map intV).length := by simpa using hlt
      obtain ⟨b, off, rfl, hb, hcell⟩ := HC.out.resolve_left (by intro h; rw [h] at hlt'; simp at hlt')
      have hck : wr.cell? ⟨b, off + k, none⟩ = some (intV sizes[k]) := hkp.cell (hcell k _ (by simp [List.getElem?_eq_getElem hlt])) (by simp)
      have hs1 := hs _ (List.getElem_mem hlt)
      have HS := Lib.hid (List.take_succ_eq_append_getElem hlt)
      generalize sizes[k] = n at hck hs1 HS
      unfold intV at hck
      obtain ⟨c, hc⟩ : ∃ c, c = min n 4096 := ⟨_, rfl⟩
      have hc1' : 1 ≤ c := by omega
      have hc2' : c ≤ 4096 := by omega
      have hmx : max (0 : Int) (min (n : Int) 4096) = (c : Int) := by omega
      have HCE := Lib.hid hc
      obtain ⟨ar, cr, rfl⟩ := hD.rsForm
      have hrs := hD.rsOwn
      have h0 := hD.cell.1
      have hf0 := hD.free 0
      have hnr : w.heap.size ∉ own (.slice ar ps.length cr) := fun x => hD.rs_bd x rfl
      have hbl := lt_of_heap hD.head
      have HD := Lib.hid hD
      have HP := Lib.hid hps
      have hpl : ps.length < 8 := by omega
      clear hc hcell hlt' hD hps
      go_wp2_with fail
      go_region_law (first
        | (refine step_app1n rfl (by rfl) Tryd.underlying61 infoPtr rfl (by decide) (by rfl) (ownsRow_keeps (F := []) (by repeat (first | exact Keeps.refl _ _ | assumption | refine Keeps.alloc ?_ _ | refine Keeps.drew ?_ | refine Keeps.trans ?_ (by assumption))) hrs (by simp)) (by rfl) (by simp) (by rfl) ?_ ?_ ?_ ?_; (simp [Value.oneCell']); (unfold maxLen; omega); (omega); intro v' w2 ho hk2 hf; obtain ⟨av, cv, rfl⟩ := ownsRow_form ho; have hkk := Keeps.trans (Keeps.nil (F := own (.slice ar ps.length cr)) (by repeat (first | exact Keeps.refl _ _ | assumption | refine Keeps.alloc ?_ _ | refine Keeps.drew ?_ | refine Keeps.trans ?_ (by assumption)) : Keeps [] wr _)) hk2; have d0 := hkk.cell h0 hnr; have f0 := hkk.free hf0 hbl hnr)
        | (go_simp; go_at_call 31; refine (none_str _).mono ?_; rintro e w1 ⟨rfl, hk1⟩; have c01 : w1.cell? ⟨w.heap.size, 0, none⟩ = some (.slice ar ps.length cr) := Keeps.cell (by repeat (first | exact Keeps.refl _ _ | assumption | refine Keeps.alloc ?_ _ | refine Keeps.drew ?_ | refine Keeps.trans ?_ (by assumption)) : Keeps [] wr _) h0 (by simp); have hbl1 : w.heap.size < w1.heap.size := Nat.lt_of_lt_of_le hbl (by repeat (first | exact Keeps.refl _ _ | assumption | refine Keeps.alloc ?_ _ | refine Keeps.drew ?_ | refine Keeps.trans ?_ (by assumption)) : Keeps [] wr _).size)
        | (go_simp; go_at_call 30; refine (Repeat_any _ noneL c _ ?_ hc1' hc2').mono ?_; (exact ⟨_, _, rfl, Nat.le_refl _, by simp [maxLen], .inr ⟨_, 0, rfl, by simp, fun j u hj => by (cases j with | zero => (simp at hj; subst hj; exact World.cell?_alloc_at _ _ _ _ rfl) | succ j => simp at hj)⟩⟩); rintro e w1 ⟨v1, rfl, htx, hnw, hk1⟩; obtain ⟨a1, c1, rfl⟩ := ownsRow_form htx; (simp only [List.length_replicate] at htx hnw); have c02 : w1.cell? ⟨w.heap.size, 0, none⟩ = some (.slice ar ps.length cr) := Keeps.cell (by repeat (first | exact Keeps.refl _ _ | assumption | refine Keeps.alloc ?_ _ | refine Keeps.drew ?_ | refine Keeps.trans ?_ (by assumption)) : Keeps [] wr _) h0 (by simp); have hbl2 : w.heap.size < w1.heap.size := Nat.lt_of_lt_of_le hbl (by repeat (first | exact Keeps.refl _ _ | assumption | refine Keeps.alloc ?_ _ | refine Keeps.drew ?_ | refine Keeps.trans ?_ (by assumption)) : Keeps [] wr _).size))
      all_goals
        have hR := New_rel HD.out hF hkp (Nat.le_refl _) HS.out HCE.out (by repeat (first | exact Keeps.refl _ _ | assumption | refine Keeps.alloc ?_ _ | refine Keeps.drew ?_ | refine Keeps.trans ?_ (by assumption)) : Keeps [] wr _) htx (fun x hx => Nat.le_trans (by repeat (first | exact Keeps.refl _ _ | assumption | refine Keeps.alloc ?_ _ | refine Keeps.drew ?_ | refine Keeps.trans ?_ (by assumption)) : Keeps [] wr _).size (hnw x hx)) ho hk2 hf
        have HRR := Lib.hid hR
        clear hR ho hk2 hf htx hnw hrs h0 hf0 hck d0 f0 hkk
        go_wp2_with fail
        go_roundw
        case rel =>
          obtain ⟨rs', ps', f', F', h1, h2, h3, h4⟩ := HRR.out
          exact ⟨k + 1, by omega, by go_num, rs', ps', f', F', h1, by rw [h2, HP.out], h3, h4⟩
        case measure => simp [intOf]; omega
    · have hk2 : k = sizes.length := by omega
      have HK := Lib.hid hk2; clear hk2
      have HD := Lib.hid hD; clear hD
      go_wp2_with fail
      go_ret
      have := HD.out
      rw [HK.out, List.take_length] at this
      exact ⟨w.heap.size, ps, F, rfl, ⟨_, _, _, this⟩, hF, hkp⟩
end Go.Proofs.YtepnbfpclhincaaDoor
