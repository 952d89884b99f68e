/-
  What a disk's Lay does.
  Lay on a disk of one region; Append of whatever text; a disk at rest.
  What a disk's Cut does.
-/
import Derived.Test.YtepnbfpclhincaaDoorME
set_option linter.unusedVariables false
set_option linter.unusedSimpArgs false
namespace Go.Proofs.YtepnbfpclhincaaDoor
open Go.RowKit

/-- A sector's bytes, noughts behind them. -/
def padL (s : List UInt8) : List UInt8 := s ++ noneL.drop s.length
theorem padL_length {s : List UInt8} (h : s.length ≤ 64) : (padL s).length = 64 := by simp [padL, noneL]; omega
def layAt (d : List UInt8) (i : Nat) : List UInt8 := padL ((d.drop (64 * i)).take 64)
/-- The sectors that a text lays. -/
def layL (n : Nat) (d : List UInt8) : List (List UInt8) := (List.range n).map (layAt d)
theorem layL_length (n : Nat) (d : List UInt8) : (layL n d).length = n := by simp [layL]
theorem layAt_length (d : List UInt8) (i : Nat) : (layAt d i).length = 64 := padL_length (by simp; omega)
theorem layL_64 (n : Nat) (d : List UInt8) : ∀ s ∈ layL n d, s.length = 64 := fun s h => by
  obtain ⟨i, _, rfl⟩ := List.mem_map.1 h; exact layAt_length d i

def LayPost2 (b : Nat) (R : RegM) (G : List Nat) (w : World) (d : List UInt8) (e : Ending) (w' : World) : Prop :=
  e = .returned (.tuple #[]) ∧ ∃ G', RegAt w' b ⟨layL R.lasts.length d, []⟩ G' ∧ Moves G w G' w'

/-- How far the loop is. -/
structure LayRel (L : Nat) (d : List UInt8) (k : Nat) (t : List UInt8) (l : List (List UInt8)) : Prop where
  rest : t = d.drop (64 * k)
  len : l.length = L
  done : l.take k = (layL L d).take k
theorem LayRel.step {L : Nat} {d : List UInt8} {k : Nat} {t : List UInt8} {l : List (List UInt8)} (h : LayRel L d k t l) (hk : k < L) : LayRel L d (k + 1) (t.drop 64) (l.set k (padL (t.take 64))) := by
  refine ⟨by rw [h.rest, List.drop_drop]; rfl, by rw [List.length_set]; exact h.len, ?_⟩
  have hll := layL_length L d
  rw [List.take_succ_eq_append_getElem (l := l.set k _) (by rw [List.length_set, h.len]; exact hk), List.take_succ_eq_append_getElem (l := layL L d) (by rw [hll]; exact hk)]
  rw [List.take_set_of_le (Nat.le_refl k), h.done, List.getElem_set_self]
  congr 2
  simp [layL, layAt, h.rest]
theorem LayRel.all {L : Nat} {d : List UInt8} {t : List UInt8} {l : List (List UInt8)} (h : LayRel L d L t l) : l = layL L d := by
  have := h.done
  rwa [List.take_of_length_le (by rw [h.len]; exact Nat.le_refl _), List.take_of_length_le (by rw [layL_length]; exact Nat.le_refl _)] at this

set_option maxRecDepth 100000 in
set_option maxHeartbeats 2000000 in
theorem Lay_reg (w : World) (bd b : Nat) (n : Nat) (R : RegM) (G : List Nat) (s : ByteArray) (hat : ∀ w', Keeps [] w w' → Calls Tryd.prog 44 #[ptrV bd, .int .i64 n] w' fun e w'' => e = .returned (ptrV b) ∧ w' = w'') (h : RegAt w b R G) (hl : R.lasts.length ≤ 4096) (hs : s.size ≤ maxLen) :
    Calls Tryd.prog 16 #[ptrV bd, .int .i64 n, .string s] w (LayPost2 b R G w s.data.toList) := by
  obtain ⟨vl, vq, hb, hlo, hq, rfl⟩ := h.ex
  have HA := Lib.hid (hat w (Keeps.refl _ _))
  have hk1 : Keeps [b] w (w.setCell ⟨b, 1, none⟩ (.slice none 0 0)) := Keeps.one b 1 _
  have hM : Mid (w.setCell ⟨b, 1, none⟩ (.slice none 0 0)) b vl (.slice none 0 0) [] R.lasts := by
    refine ⟨setCell_blk hb 1 _, ownsRow_keeps hk1 hlo (fun k x y => ?_), World.ownsRow_nil _ _ _ _⟩
    simp at y; subst y
    obtain ⟨c', hc'⟩ := own_type hlo x
    have := hc'.symm.trans hb
    injection this with this; injection this with _ e _; cases e
  have HP : Hid (∀ w' l, Mid w' b vl (.slice none 0 0) [] l → l = layL R.lasts.length s.data.toList → Keeps (b :: own vl) w w' → LayPost2 b R (b :: (own vl ++ own vq)) w s.data.toList (.returned (.tuple #[])) w') := by
    intro w' l hm hl hk
    refine ⟨rfl, b :: (own vl ++ []), ⟨vl, _, hm.head, by rw [← hl]; exact hm.lOwn, World.ownsRow_nil _ _ _ _, rfl⟩, hk.mono (fun x hx _ => ?_), fun x hx => .inl ?_⟩
    · rcases List.mem_cons.1 hx with rfl | hx <;> simp [*]
    · rw [List.append_nil] at hx; rcases List.mem_cons.1 hx with rfl | hx <;> simp [*]
  have hf1 : w.frozen? ⟨b, 1, none⟩ = false := free_blk hb 1
  obtain ⟨vq', hc1⟩ : ∃ x, w.cell? ⟨b, 1, none⟩ = some x := ⟨vq, by rw [cell_blk hb]; rfl⟩
  have hc0 : (w.setCell ⟨b, 1, none⟩ (.slice none 0 0)).cell? ⟨b, 0, none⟩ = some vl := by rw [cell_blk hM.head]; rfl
  have HK1 := Lib.hid (hk1.mono (G := b :: own vl) (fun x hx _ => by simp at hx; simp [hx]))
  have hln : ∃ n, n = R.lasts.length := ⟨_, rfl⟩
  obtain ⟨L, hL⟩ := hln
  rw [← hL] at hl HP
  obtain ⟨al, cl, rfl⟩ := ownsRow_form hlo
  have hL' : L = R.lasts.length := hL
  rw [← hL] at hlo hM hc0 HK1 HP ⊢
  have HM := Lib.hid (And.intro hM hL')
  generalize R.lasts = l0 at HM
  clear hL'

  unfold maxLen at hs
  clear hM hb hlo hq h hat hk1 hL
  unfold ptrV at HA ⊢
  go_enter Tryd.func16, Tryd.ntmps16
  go_wp2_with fail
  refine (HA.out).mono ?_
  rintro e w1 ⟨rfl, rfl⟩
  go_wp2_with fail
  clear hc0 hc1 hf1 HA
  obtain ⟨N, hN⟩ : ∃ N : ByteArray, N = ⟨noneL.toArray⟩ := ⟨_, rfl⟩
  have hNz : N.size = 64 := by rw [hN]; rfl
  have HNc : Hid (∀ w, Calls Tryd.prog 31 #[] w fun e w' => e = .returned (.string N) ∧ Keeps [] w w') := fun w => by rw [hN]; exact none_any w
  have HN := Lib.hid (And.intro hN hNz)
  have hN1 : N.size ≤ 64 := by omega
  have hN2 : 64 ≤ N.size := by omega
  clear hN hNz
  go_loopw [2, 22] (fun dv i wr => ∃ k : Nat, k ≤ L ∧ i = .int .i64 k ∧ ∃ (t : ByteArray) (l : List (List UInt8)), dv = .string t ∧ t.size ≤ 2 ^ 63 - 1 ∧ Mid wr b (.slice al L cl) (.slice none 0 0) [] l ∧ Keeps (b :: own (.slice al L cl)) w wr ∧ LayRel L s.data.toList k t.data.toList l) (fun _ i _ => L - (intOf i).toNat)
  case atStart => exact ⟨0, by omega, rfl, s, l0, rfl, hs, HM.out.1, HK1.out, ⟨by simp, HM.out.2.symm, by simp⟩⟩
  case round =>
    obtain ⟨k, hk, rfl, t, l, rfl, ht, hm, hkp, hR⟩ := hrel
    by_cases hlt : k < L
    · obtain ⟨c, hc⟩ : ∃ c, c = min t.size 64 := ⟨_, rfl⟩
      have hcm : min (t.size : Int) 64 = (c : Int) := by omega
      have hc1 : c ≤ t.size := by omega
      have hc2 : c ≤ 64 := by omega
      have hcN : c ≤ N.size := by omega
      have hNx : ¬ 9223372036854775807 < N.size := by omega
      have hyz : (t.extract 0 c).size = c := by rw [ByteArray.size_extract]; omega
      have hcb0 : wr.cell? ⟨b, 0, none⟩ = some (.slice al L cl) := by rw [cell_blk hm.head]; rfl
      have hRl := hR.len
      obtain ⟨gl, cl', e, hl1, hl2, hl3, hl4, hl5⟩ := ownsRow_at hm.lOwn (by omega)
      rw [hRl] at e
      simp only [Value.slice.injEq, true_and] at e
      obtain ⟨rfl, rfl⟩ := e
      obtain ⟨u, hu⟩ : ∃ u, wr.cell? ⟨gl, k, none⟩ = some u := ⟨_, hl4 k (strV l[k]) (by simp [List.getElem?_eq_getElem (show k < l.length by omega)])⟩
      have hfu := hl5 k
      have hbg : b ≠ gl := fun x => hm.b_not (by rw [x]; simp [own, Value.ownBlock])
      unfold maxLen at hl2
      rw [hRl] at hl1
      have HH := Lib.hid (And.intro hm (And.intro hkp hR))
      have hpad : t.extract 0 c ++ N.extract c N.size = ⟨(padL (t.data.toList.take 64)).toArray⟩ := by
        have e1 : t.extract 0 c = ⟨(t.data.toList.take 64).toArray⟩ := by
          have := extract_sub t 0 c
          rw [Nat.zero_add] at this
          rw [this]; unfold sub; rw [List.drop_zero]
          congr 2
          rw [hc]
          by_cases h : t.size ≤ 64
          · rw [Nat.min_eq_left h, List.take_of_length_le (by rw [toList_length]; exact Nat.le_refl _), List.take_of_length_le (by rw [toList_length]; exact h)]
          · rw [Nat.min_eq_right (by omega)]
        have e2 : N.extract c N.size = ⟨(noneL.drop c).toArray⟩ := by
          have := Lib.extract_to_end N c
          rw [← bytes_eta (N.extract c N.size), this, HN.out.1]
        rw [e1, e2, append_mk2]
        unfold padL
        rw [List.length_take, toList_length, Nat.min_comm, ← hc]
      have HPD := Lib.hid hpad
      have HCC := Lib.hid hc
      clear hpad
      clear hm hkp hR hRl hl4 hl5 hc
      go_wp2_with fail
      go_region_law (first
        | (go_simp; go_at_call 31; refine (HNc.out _).mono ?_; rintro e w1 ⟨rfl, hk1⟩; have hq1 : Keeps [] wr w1 := (by first | exact hk1 | exact hk1.of_drew); have c01 : w1.cell? ⟨b, 0, none⟩ = some (.slice (some ⟨gl, 0, none⟩) L cl) := hq1.cell hcb0 (by simp); have cu1 : w1.cell? ⟨gl, k, none⟩ = some u := hq1.cell hu (by simp); have fu1 : w1.frozen? ⟨gl, k, none⟩ = false := hq1.free hfu hl3 (by simp)))
      all_goals
        have HM1 : Hid (Mid (w1.setCell ⟨gl, k, none⟩ (.string (t.extract 0 c ++ N.extract c N.size))) b (.slice (some ⟨gl, 0, none⟩) L cl) (.slice none 0 0) [] (l.set k (padL (t.data.toList.take 64)))) := by
          have := (HH.out.1.keeps hq1).set k (by have := HH.out.2.2.len; omega) (padL (t.data.toList.take 64))
          unfold strV at this
          rw [← HPD.out] at this
          exact this
        have HK2 : Hid (Keeps (b :: own (.slice (some ⟨gl, 0, none⟩) L cl)) w (w1.setCell ⟨gl, k, none⟩ (.string (t.extract 0 c ++ N.extract c N.size)))) := (HH.out.2.1.trans0 hq1).setCell _ _ (.inl (by simp [own, Value.ownBlock]))
        have HR1 : Hid (LayRel L s.data.toList (k + 1) (t.extract c t.size).data.toList (l.set k (padL (t.data.toList.take 64)))) := by
          have := HH.out.2.2.step hlt
          rw [Lib.extract_to_end]
          have e : t.data.toList.drop c = t.data.toList.drop 64 := by
            rw [HCC.out]
            by_cases h : t.size ≤ 64
            · rw [Nat.min_eq_left h, List.drop_of_length_le (by rw [toList_length]; exact Nat.le_refl _), List.drop_of_length_le (by rw [toList_length]; exact h)]
            · rw [Nat.min_eq_right (by omega)]
          rw [e]; exact this
        clear c01 cu1 fu1 hq1 hk1 hcb0 hu hfu
        go_wp2_with fail
        go_roundw
        case rel => exact ⟨k + 1, by omega, by go_num, _, _, rfl, by rw [ByteArray.size_extract]; omega, HM1.out, HK2.out, HR1.out⟩
        case measure => simp [intOf]; omega
    · have hk2 : k = L := by omega
      have HE := Lib.hid hk2
      have HH := Lib.hid (And.intro hm (And.intro hkp hR))
      clear hk2 hm hkp hR
      go_wp2_with fail
      go_end0
      obtain ⟨hm, hkp, hR⟩ := HH.out
      rw [HE.out] at hR
      exact HP.out _ l hm hR.all hkp
end Go.Proofs.YtepnbfpclhincaaDoor

namespace Go.Proofs.YtepnbfpclhincaaDoor
open Go.RowKit

theorem Lay_one (w : World) (bd : Nat) (ps F : List Nat) (D : DiskM) (l : List (List UInt8)) (s : ByteArray) (h : DiskAt w bd ps D F) (hU : Up D l) (hl : l.length ≤ 4096) (hs : s.size ≤ maxLen) (ht : D.tleft = 0) :
    Calls Tryd.prog 16 #[ptrV bd, .int .i64 0, .string s] w fun e w' => e = .returned (.tuple #[]) ∧ ∃ F' D', DiskAt w' bd ps D' F' ∧ Up D' (layL l.length s.data.toList) ∧ D'.tleft = 0 ∧ Moves F w F' w' := by
  have hD := h
  obtain ⟨rs, vk, f, h⟩ := h
  have hnl : 0 < ps.length := by rw [← h.len, hU.regs]; simp
  obtain ⟨b, R, hb, hR, hreg⟩ := h.regOf hnl
  have hR' := hR
  rw [hU.regs] at hR'
  simp only [List.getElem?_cons_zero, Option.some.injEq] at hR'
  subst hR'
  refine (Lay_reg w bd b 0 ⟨l, []⟩ (f 0) s (fun w' k => at_in w' bd ps D F 0 b (hD.keeps0 k) hb) hreg hl hs).mono ?_
  rintro e w' ⟨rfl, G', hG', hmG⟩
  refine ⟨rfl, _, _, ⟨_, _, _, h.upd hb hmG.1 hG' hmG.2⟩, ⟨by simp [DiskM.setReg, hU.regs], hU.off, hU.ok.setReg 0 ⟨by simp, by simp⟩⟩, ht, hmG.1.mono (fun x hx _ => h.fF 0 hnl x hx), fun x hx => ?_⟩
  rcases List.mem_append.1 hx with y | y
  · exact .inl y
  · exact (hmG.2 x y).imp (h.fF 0 hnl x) id

theorem FPut_long' (s : ByteArray) (h : 4096 < s.size) (hs : s.size ≤ 9223372036854775807) (w : World) : Calls Tryd.prog 33 #[.string s] w fun e w' => e = .returned (.tuple #[.string ⟨#[]⟩, .int .i64 5]) ∧ w = w' := by
  have h0 := notEmpty s (by omega)
  go_enter Tryd.func33, Tryd.ntmps33
  go_wp2
  go_ret2
  exact ⟨rfl, rfl⟩
theorem Append_long (w : World) (p bd : Nat) (S : StM) (s : ByteArray) (hs : StAt w p bd S) (hb : S.broken = false) (h1 : 4096 < s.size) (hz : s.size ≤ 9223372036854775807) :
    Calls Tryd.prog 11 #[ptrV p, .string s] w fun e w' => e = .returned (.int .i64 5) ∧ Keeps [] w w' := by
  have hM := may_any w p bd S hs
  rw [hb] at hM
  have HM : Hid (Calls Tryd.prog 32 #[ptrV p] w fun e w' => e = .returned (.int .i64 0) ∧ w = w') := hM
  clear hM hb
  unfold ptrV at HM ⊢
  go_enter Tryd.func11, Tryd.ntmps11
  go_wp2_with fail
  refine (HM.out).mono ?_
  rintro e w1 ⟨rfl, rfl⟩
  go_wp2_with fail
  refine (FPut_long' s h1 hz w).mono ?_
  rintro e w1 ⟨rfl, rfl⟩
  go_wp2_with fail
  go_ret
  exact ⟨rfl, Keeps.refl _ _⟩
/-- How an Append ends that no loss of power can befall. -/
def AppAny (bd : Nat) (ps F : List Nat) (p : Nat) (l : List (List UInt8)) (S : StM) (ts : List (List UInt8)) (b : List UInt8) (w : World) (e : Ending) (w' : World) : Prop :=
  AppLive bd ps F p l S ts b w e w' ∨ ∃ c : Int, c ≠ 0 ∧ c ≠ 11 ∧ e = .returned (.int .i64 c) ∧ Keeps [] w w'
theorem Append_live_any (w : World) (bd p : Nat) (ps F : List Nat) (D : DiskM) (l ts : List (List UInt8)) (S : StM) (s : ByteArray) (h : Live w bd ps F D p l S ts) (ht : D.tleft = 0) (hz : s.size ≤ maxLen) :
    Calls Tryd.prog 11 #[ptrV p, .string s] w (AppAny bd ps F p l S ts s.data.toList w) := by
  unfold maxLen at hz
  by_cases h1 : 4096 < s.size
  · exact (Append_long w p bd S s h.st h.holds.okay.broken h1 hz).mono fun e w' ⟨he, hk⟩ => .inr ⟨5, by decide, by decide, he, hk⟩
  · by_cases hc : appCode S s.size = 0
    · exact (Append_live w bd p ps F D l ts S s h ht hc).mono fun e w' hp => .inl hp
    · refine (Append_live_no w bd p ps F D l ts S s h (by omega) hc).mono fun e w' ⟨he, hk⟩ => .inr ⟨_, hc, ?_, he, hk⟩
      unfold appCode; repeat (first | decide | split)

/-- A disk at rest, with these sectors. -/
structure Rest (w : World) (bd : Nat) (ps F : List Nat) (D : DiskM) (l : List (List UInt8)) : Prop where
  disk : DiskAt w bd ps D F
  up : Up D l
  left : D.tleft = 0
  l64 : ∀ s ∈ l, s.length = 64
theorem Rest.keeps {w w' : World} {bd : Nat} {ps F : List Nat} {D : DiskM} {l : List (List UInt8)} (h : Rest w bd ps F D l) (k : Keeps [] w w') : Rest w' bd ps F D l := ⟨h.disk.keeps0 k, h.up, h.left, h.l64⟩
theorem Live.rest {w : World} {bd p : Nat} {ps F : List Nat} {D : DiskM} {l ts : List (List UInt8)} {S : StM} (h : Live w bd ps F D p l S ts) (ht : D.tleft = 0) : Rest w bd ps F D l := ⟨h.disk, h.up, ht, h.holds.l64⟩
theorem Crash_rest (w : World) (bd : Nat) (ps F : List Nat) (D : DiskM) (l : List (List UInt8)) (h : Rest w bd ps F D l) :
    Calls Tryd.prog 17 #[ptrV bd, .slice none 0 0] w fun e w' => e = .returned (.tuple #[]) ∧ ∃ F' D', Rest w' bd ps F' D' l ∧ Moves F w F' w' := by
  refine (Crash_any w bd ps D F (.slice none 0 0) [] h.disk h.up.ok.regs ⟨_, _, rfl, by simp, by simp [maxLen], .inl rfl⟩ (by simp) (by simp [own, Value.ownBlock])).mono ?_
  rintro e w' ⟨rfl, F', hD, hm⟩
  obtain ⟨hU, ht⟩ := crash_up h.up []
  exact ⟨rfl, F', _, ⟨hD, hU, ht, h.l64⟩, hm⟩
/-- How an Open ends that no loss of power can befall. -/
def RestPost (bd : Nat) (ps F : List Nat) (l : List (List UInt8)) (w : World) (e : Ending) (w' : World) : Prop :=
  (openFull l ∧ e = .returned (.tuple #[.pointer none, .slice none 0 0, .int .i64 12]) ∧ Keeps [] w w') ∨ (¬ openFull l ∧ LivePost bd ps F l w e w')
theorem Open_rest (w : World) (bd : Nat) (ps F : List Nat) (D : DiskM) (l : List (List UInt8)) (h : Rest w bd ps F D l) (hlo : 3 ≤ l.length) (hhi : l.length ≤ 4096) :
    Calls Tryd.prog 8 #[ptrV bd, .int .i64 0] w (RestPost bd ps F l w) := by
  by_cases hf : openFull l
  · refine (Open_go w bd ps F D l h.disk h.up h.l64 hlo hhi).mono ?_
    rintro e w' (⟨-, he, hk⟩ | ⟨hn, -⟩)
    · exact .inl ⟨hf, he, hk⟩
    · exact absurd hf hn
  · exact (Open_live w bd ps F D l h.disk h.up h.l64 hlo hhi hf h.left).mono fun e w' hp => .inr ⟨hf, hp⟩
theorem framesL_count (ts : List (List UInt8)) : ts.length ≤ (framesL ts).length := by
  induction ts with
  | nil => simp
  | cons t ts ih => simp only [framesL, List.flatMap_cons, List.length_append, frameL_length, List.length_cons] at *; omega
end Go.Proofs.YtepnbfpclhincaaDoor

namespace Go.Proofs.YtepnbfpclhincaaDoor
open Go.RowKit

theorem infoU64 : (Tryd.prog.info? 43).map (fun i => (i.zero, i.size, i.bytes)) = some (some (.int .u64 0), 1, 8) := by kernel_rfl

theorem wpList_app {P : Program} {ops : Array Oper} {rest : List Oper} {o : Oper} {a : Act} {Q : Exit → Act → World → Prop} {w : World} (hgd : o.guard = none) {s x : Operand} {t : TypeId}
    (ho : o.op = .call { callee := .builtin .append, args := #[s, x], argTypes := #[t, t] }) {e : TypeId} {z : Value} {size bytes : Nat} (ht : P.underlying t = some (.slice e))
    (hinfo : (P.info? e).map (fun i => (i.zero, i.size, i.bytes)) = some (some z, size, bytes)) (hzs : z.cells.size = size) (hsz : 0 < size)
    {v : Value} {n m c : Nat} {xs news : List Value} {b : Addr} (hs : a.eval s = v) (hown : Own w e size v n xs) (hx : a.eval x = .slice (some b) m c) (hl : news.length = m * size) (hnews : ∀ j u, news[j]? = some u → w.cell? (b.add j) = some u) (h1 : ∀ u ∈ news, u.oneCell' = true)
    (h63 : n + m ≤ maxLen) (hbytes : (n + m) * bytes ≤ 140737488355328)
    (h : ∀ v' w', Own w' e size v' (n + m) (xs ++ news) → Keeps (own v) w w' → (∀ k, k ∈ own v' → k ∈ own v ∨ w.heap.size ≤ k) → wpList P ops Q rest (a.put o.dst v') w') :
    wpList P ops Q (o :: rest) a w :=
  wpList_step fun K hK => by
    have hw : Region.wanted o (yielded ops a.tmps) = true := by simp [Region.wanted, hgd]
    rw [if_pos hw]
    obtain ⟨v', w', hr, h2, h3, h4⟩ := run_app (P := P) w t o.type e z size bytes ht hinfo hzs hsz v n xs hown b m c news hl hnews h1 h63 hbytes
    unfold Oper.wp execOp
    simp only [ho, resolve, invoke, builtin, Sem.run_bind, Sem.run_pure, Result.andThen_ok, List.map_toArray, List.map_cons, List.map_nil, hs, hx, hr]
    exact hK _ _ (h v' w' h2 ((Keeps.refl _ _).grown h3 fun k hk => .inl (by simp [own, hk])) h4)

set_option maxRecDepth 100000 in
set_option maxHeartbeats 1000000 in
theorem Clone_one (v : Value) (k : Nat) (w : World) (hv : Sees w v [u64V k]) :
    Calls Tryd.prog 46 #[v] w fun e w' => ∃ v', e = .returned v' ∧ Own w' 43 1 v' 1 [u64V k] ∧ New w v' ∧ Keeps [] w w' := by
  obtain ⟨a, cap, rfl, hc1, hc2, hcell⟩ := hv
  obtain ⟨b, off, rfl, hb, hc⟩ := hcell.resolve_left (by simp)
  simp only [List.length_singleton] at hc1 ⊢
  have hd : ∀ d : Nat, (Op.equalIn (d + 1) 62 (.slice (some ⟨b, off, none⟩) 1 cap) (.slice none 0 0)).run Tryd.prog w = .ok false w := fun d => by
    simp [Op.equalIn, run_underlying Tryd.underlying62]
  have hnil : (binOp .eql 62 (.slice (some ⟨b, off, none⟩) 1 cap) (.slice none 0 0)).run Tryd.prog w = .ok (.bool false) w := by
    simp only [binOp]
    simp [Op.equal, Op.maxDepth, hd 9999]
  clear hd
  have hown : Own (w.alloc (.cells #[] 43)) 43 1 (.slice (some ⟨w.heap.size, 0, none⟩) 0 0) 0 [] :=
    ⟨rfl, .inr ⟨w.heap.size, 0, #[], rfl, Nat.zero_le _, heap_alloc_new _ _, Nat.le_refl _, by simp [maxLen], rfl, rfl⟩⟩
  have hcc : ∀ j u, [u64V k][j]? = some u → (w.alloc (.cells #[] 43)).cell? ((⟨b, off, none⟩ : Addr).add j) = some u := fun j u hj => by
    have e : (⟨b, off, none⟩ : Addr).add j = ⟨b, off + j, none⟩ := by unfold Addr.add; split <;> simp_all
    rw [e]
    exact ((Keeps.refl [] w).alloc _).cell (hc j u hj) (by simp)
  have HC := Lib.hid hcc
  clear hcell hc hcc
  unfold maxLen at hc2
  go_enter Tryd.func46, Tryd.ntmps46
  go_wp2_with (at_builtin; go_loud (refine wpList_app (by rfl) (by rfl) Tryd.underlying62 infoU64 rfl (by decide) (by rfl) hown (by rfl) (news := [u64V k]) (by rfl) HC.out ?c1 ?c2 ?c3 ?c4))
  case c1 => simp [u64V, Value.oneCell']
  case c2 => unfold maxLen; omega
  case c3 => omega
  case c4 =>
    intro v' w' ho hk hf
    have HQ : Hid (Own w' 43 1 v' 1 [u64V k] ∧ New w v' ∧ Keeps [] w w') := by
      refine ⟨ho, fun x hx => ?_, ((Keeps.refl [] w).alloc _).trans' hk (fun x hx hl => ?_)⟩
      · rcases hf x hx with h | h
        · simp [own, Value.ownBlock] at h; omega
        · first | omega | (rw [size_alloc] at h; omega)
      · simp [own, Value.ownBlock] at hx; omega
    clear ho hk hf hown
    go_wp2_with fail
    go_ret
    exact ⟨v', rfl, HQ.out⟩

theorem DiskIn.hd2 {w w' : World} {bd : Nat} {ps : List Nat} {D : DiskM} {F : List Nat} {rs vk : Value} {f : Nat → List Nat} (h : DiskIn w bd ps D F rs vk f) {off : Bool} {treg tleft : Int} {vk' : Value} {keep : List Nat} (hk : Keeps [bd] w w')
    (hh : w'.heap[bd]? = some (.cells #[rs, .bool off, .int .i64 treg, .int .i64 tleft, vk'] 66 (0, 0)))
    (hv : Own w' 43 1 vk' keep.length (keep.map u64V)) :
    DiskIn w' bd ps { D with off := off, treg := treg, tleft := tleft, keep := keep } (F ++ own vk') rs vk' f :=
  ⟨hh, ownsRow_keeps hk h.rsOwn (fun k x => by simpa using h.rs_bd x), hv, h.len, fun i b R hb hR => (h.reg i b R hb hR).keeps hk (fun k x => by simp; intro e; subst e; exact h.bd_not (getElem?_lt hb) x), h.apart,
   by simp [h.bdF], fun k x => by simp [h.rsF k x], fun k x => by simp [x], fun i hi k x => by simp [h.fF i hi k x], fun k x => by
    rcases List.mem_append.1 x with x | x
    · exact Nat.lt_of_lt_of_le (h.lt k x) hk.size
    · exact ownsRow_lt hv k x⟩

/-- The trap that Cut sets. -/
def DiskM.cut (D : DiskM) (n : Int) (k : Nat) : DiskM := if 0 < n then { D with treg := 0, tleft := n, keep := [k] } else { D with treg := 0, tleft := 0, keep := [] }

set_option maxRecDepth 100000 in
set_option maxHeartbeats 1000000 in
theorem Cut_one (w : World) (bd : Nat) (ps F : List Nat) (D : DiskM) (n : Int) (v : Value) (k : Nat) (h : DiskAt w bd ps D F) (hnl : 0 < ps.length) (hv : Sees w v [u64V k]) (hvF : ∀ x, x ∈ own v → x ≠ bd) :
    Calls Tryd.prog 19 #[ptrV bd, .int .i64 0, .int .i64 n, v] w fun e w' => e = .returned (.tuple #[]) ∧ ∃ F', DiskAt w' bd ps (D.cut n k) F' ∧ Moves F w F' w' := by
  have hb := List.getElem?_eq_getElem hnl
  have HA : Hid (∀ w', DiskAt w' bd ps { D with off := D.off, treg := 0, tleft := 0, keep := [] } F → Calls Tryd.prog 44 #[ptrV bd, .int .i64 0] w' fun e w'' => e = .returned (ptrV ps[0]) ∧ w' = w'') := fun w' h' => at_in w' bd ps _ F 0 _ h' hb
  generalize ps[0] = b at HA
  clear hb
  obtain ⟨rs, vk, f, h⟩ := h
  have hf2 := h.free 2
  have hf3 := h.free 3
  have hf4 := h.free 4
  obtain ⟨h0, h1, h2, h3, h4⟩ := h.cell
  have HH := Lib.hid (setCell_blk (setCell_blk (setCell_blk h.head 2 (.int .i64 0)) 3 (.int .i64 0)) 4 (.slice none 0 0))
  have hk : Keeps [bd] w _ := ((Keeps.one (w := w) bd 2 (.int .i64 0)).trans (Keeps.one (w := w.setCell ⟨bd, 2, none⟩ (.int .i64 0)) bd 3 (.int .i64 0))).trans (Keeps.one bd 4 (.slice none 0 0))
  have hD1 := h.hd (off := D.off) (treg := 0) (tleft := 0) (keep := []) hk HH.out (World.ownsRow_nil _ _ _ _) (by simp [own, Value.ownBlock])
  rw [own_nil, List.append_nil] at hD1
  have HD1 := Lib.hid hD1
  have HF : Hid (bd ∈ F) := h.bdF
  have HK := Lib.hid hk
  have HV := Lib.hid (hv.keeps hk (fun x hx hx' => hvF x hx (by simpa using hx')))
  clear hk hD1 h hvF
  obtain ⟨av, nv, cv, rfl⟩ : ∃ a n c, v = .slice a n c := by obtain ⟨a, c, e, -⟩ := hv; exact ⟨_, _, _, e⟩
  clear hv
  unfold ptrV at HA ⊢
  by_cases hn : 0 < n
  · have hcut : D.cut n k = { D with treg := 0, tleft := n, keep := [k] } := by unfold DiskM.cut; rw [if_pos hn]
    have HCu := Lib.hid hcut
    have bn : decide ((0 : Int) < n) = true := decide_eq_true hn
    clear hcut
    go_enter Tryd.func19, Tryd.ntmps19
    go_wp2_with fail
    refine (HA.out _ ⟨_, _, _, HD1.out⟩).mono ?_
    rintro e w1 ⟨rfl, rfl⟩
    go_wp2_with fail
    refine (Clone_one _ k _ HV.out).mono ?_
    rintro e w2 ⟨v', rfl, ho, hnw, hk2⟩
    have hD2 := HD1.out.keeps (G := []) hk2 (by simp)
    have g2 := hD2.free 2
    have g3 := hD2.free 3
    have g4 := hD2.free 4
    obtain ⟨-, -, e2, e3, e4⟩ := hD2.cell
    have HH2 := Lib.hid (setCell_blk (setCell_blk (setCell_blk hD2.head 2 (.int .i64 0)) 3 (.int .i64 n)) 4 v')
    have hk3 : Keeps [bd] w2 _ := ((Keeps.one (w := w2) bd 2 (.int .i64 0)).trans (Keeps.one (w := w2.setCell ⟨bd, 2, none⟩ (.int .i64 0)) bd 3 (.int .i64 n))).trans (Keeps.one bd 4 v')
    have hvb : ∀ x, x ∈ own v' → x ≠ bd := fun x hx => by have h1 := hnw x hx; have h2 := lt_of_heap HD1.out.head; omega
    have hD3 := hD2.hd2 (off := D.off) (treg := 0) (tleft := n) (keep := [k]) hk3 HH2.out (ownsRow_keeps hk3 ho (fun x hx hx' => hvb x hx (by simpa using hx')))
    have HD3 := Lib.hid hD3
    have HM : Hid (Moves F w (F ++ own v') (((w2.setCell ⟨bd, 2, none⟩ (.int .i64 0)).setCell ⟨bd, 3, none⟩ (.int .i64 n)).setCell ⟨bd, 4, none⟩ v')) := by
      have hb : ∀ x, x ∈ [bd] → x ∈ F := fun x hx => by simp at hx; subst hx; exact HF.out
      refine ⟨((HK.out.mono (fun x hx _ => hb x hx)).trans0 hk2).trans (hk3.mono (fun x hx _ => hb x hx)), fun x hx => (List.mem_append.1 hx).imp id (fun hx => ?_)⟩
      have := hnw x hx
      have := HK.out.size
      omega
    obtain ⟨a', c', rfl⟩ := ownsRow_form ho
    clear hD2 ho hnw hk2 hk3 hvb hD3 HH2
    go_wp2_with fail
    trace_state
    go_end0
    exact ⟨rfl, _, by rw [HCu.out]; exact ⟨_, _, _, HD3.out⟩, HM.out⟩
  · have hcut : D.cut n k = { D with treg := 0, tleft := 0, keep := [] } := by unfold DiskM.cut; rw [if_neg hn]
    have HCu := Lib.hid hcut
    have bn : decide ((0 : Int) < n) = false := decide_eq_false hn
    clear hcut
    go_enter Tryd.func19, Tryd.ntmps19
    go_wp2_with fail
    refine (HA.out _ ⟨_, _, _, HD1.out⟩).mono ?_
    rintro e w1 ⟨rfl, rfl⟩
    go_wp2_with fail
    go_end0
    exact ⟨rfl, F, by rw [HCu.out]; exact ⟨_, _, _, HD1.out⟩, HK.out.mono (fun x hx _ => by simp at hx; subst hx; exact HF.out), Fresh.refl _ _⟩
end Go.Proofs.YtepnbfpclhincaaDoor
