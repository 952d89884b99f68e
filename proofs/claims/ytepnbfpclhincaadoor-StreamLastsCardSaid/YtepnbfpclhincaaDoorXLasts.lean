/-
  Whatever lies in a region, what it is opened with is opened again the same: for every size, image and bodies.
  The states of a stream whose disk loses power again and again, for the law of lasting records.
  Wherever the power fails, again and again, the records that were told are there: for every size, bodies and losses.
  Arguments as they are read: losses.
  StreamLasts: wherever the power fails, again and again, with any writes kept, the records that were told are there, in order, and perhaps the one that was not told: the law returns true for every size, bodies and losses; nothing that was there is changed. Conditions: the two listed library tables hold what the program lays in them (the card ties them).
-/
import Derived.Test.YtepnbfpclhincaaDoorMG
import Derived.Test.YtepnbfpclhincaaDoorMH
import Derived.Deep.LoopGhost
import Derived.Deep.DeepCutAuto
import Derived.Test.YtepnbfpclhincaaDoorMF
import Derived.Deep.SlicePairs
import Derived.Lib.SmallJoins
set_option linter.unusedVariables false
set_option linter.unusedSimpArgs false
namespace Go.Proofs.YtepnbfpclhincaaDoor
open Go.RowKit

/-- At work: the stream, and the texts that a slice of the law holds. -/
def AnyRel (w : World) (bd : Nat) (ps : List Nat) (p m sz g : Nat) (v : Value) (wr : World) : Prop :=
  ∃ F D l S ts, Live wr bd ps F D p l S ts ∧ D.tleft = 0 ∧ l.length = m ∧ S.sz = sz ∧ S.gen = g ∧ Texts wr v ts ∧ (∀ x ∈ F, w.heap.size ≤ x) ∧ (∀ k, k ∈ own v → w.heap.size ≤ k ∧ k ≠ p ∧ k ∉ F) ∧ Keeps [] w wr
/-- At rest: the disk, and the texts. -/
def RestRel (w : World) (bd : Nat) (ps : List Nat) (m g : Nat) (v : Value) (wr : World) : Prop :=
  ∃ F D l ts, Rest wr bd ps F D l ∧ l.length = m ∧ openRecs l = ts ∧ (openS l).gen ≤ g ∧ (framesL ts).length ≤ (openS l).sz * 55 - 1 ∧ Texts wr v ts ∧ (∀ x ∈ F, w.heap.size ≤ x) ∧ (∀ k, k ∈ own v → w.heap.size ≤ k ∧ k ∉ F) ∧ Keeps [] w wr
theorem AnyRel.rest {w wr : World} {bd p m sz g : Nat} {ps : List Nat} {v : Value} (h : AnyRel w bd ps p m sz g v wr) : RestRel w bd ps m g v wr := by
  obtain ⟨F, D, l, S, ts, hL, ht, hl, -, hg, hx, hF, hv, hk⟩ := h
  have ho := hL.holds.open
  refine ⟨F, D, l, ts, hL.rest ht, hl, ho.1, by rw [ho.2]; exact Nat.le_of_eq hg, ?_, hx, hF, fun k hk => ⟨(hv k hk).1, (hv k hk).2.2⟩, hk⟩
  rw [ho.2, ← hL.holds.data]
  exact hL.holds.okay.data
theorem AnyRel.quiet {w wr w' : World} {bd p m sz g : Nat} {ps : List Nat} {v : Value} (h : AnyRel w bd ps p m sz g v wr) (k : Keeps [] wr w') : AnyRel w bd ps p m sz g v w' := by
  obtain ⟨F, D, l, S, ts, hL, ht, hl, hs, hg, hx, hF, hv, hk⟩ := h
  exact ⟨F, D, l, S, ts, hL.keeps k, ht, hl, hs, hg, ownsRow_keeps k hx (by simp), hF, hv, hk.trans k⟩
/-- A slice that was disjoint from what has moved is so still. -/
theorem own_moves {w wr w' : World} {F G : List Nat} {v : Value} (hv : ∀ k, k ∈ own v → w.heap.size ≤ k ∧ k ∉ F) (hlt : ∀ k, k ∈ own v → k < wr.heap.size) (hm : Moves F wr G w') : ∀ k, k ∈ own v → w.heap.size ≤ k ∧ k ∉ G := fun k hk =>
  ⟨(hv k hk).1, fun hg => (hm.2 k hg).elim (hv k hk).2 (fun h => by have := hlt k hk; omega)⟩
theorem AnyRel.gen {w wr : World} {bd p m sz g : Nat} {ps : List Nat} {v : Value} (h : AnyRel w bd ps p m sz g v wr) : Calls Tryd.prog 14 #[ptrV p] wr fun e w' => e = .returned (.int .i64 g) ∧ wr = w' := by
  obtain ⟨F, D, l, S, ts, hL, ht, hl, hs, hg, hx, hF, hv, hk⟩ := h
  rw [← hg]
  exact Gen_any wr p bd _ hL.st
def AnyApp (w : World) (bd : Nat) (ps : List Nat) (p m sz g : Nat) (v : Value) (b : List UInt8) (e : Ending) (w' : World) : Prop :=
  (∃ F D l S ts, e = .returned (.int .i64 0) ∧ Live w' bd ps F D p l S (ts ++ [b]) ∧ D.tleft = 0 ∧ l.length = m ∧ S.sz = sz ∧ S.gen = g ∧ Texts w' v ts ∧ ts.length ≤ 200000 ∧ (∀ x ∈ F, w.heap.size ≤ x) ∧ (∀ k, k ∈ own v → w.heap.size ≤ k ∧ k ≠ p ∧ k ∉ F) ∧ Keeps [] w w') ∨
  ∃ c : Int, (c == 0) = false ∧ e = .returned (.int .i64 c) ∧ AnyRel w bd ps p m sz g v w'
theorem AnyRel.app {w wr : World} {bd p m sz g : Nat} {ps : List Nat} {v : Value} (h : AnyRel w bd ps p m sz g v wr) (hpw : w.heap.size ≤ p) (s : ByteArray) (hz : s.size ≤ maxLen) :
    Calls Tryd.prog 11 #[ptrV p, .string s] wr (AnyApp w bd ps p m sz g v s.data.toList) := by
  have h' := h
  obtain ⟨F, D, l, S, ts, hL, ht, hl, hs, hg, hx, hF, hv, hk⟩ := h
  refine (Append_live_any wr bd p ps F D l ts S s hL ht hz).mono ?_
  rintro e w' (⟨F', D', l', rfl, hL', ht', hl', hm⟩ | ⟨c, hc, -, rfl, hk'⟩)
  · refine .inl ⟨F', D', l', _, ts, rfl, hL', ht', by rw [hl', hl], hs, hg, ?_, ?_, ?_, ?_, (hk.moves hm ?_).1⟩
    · exact ownsRow_keeps hm.1 hx (fun k hk hk' => (List.mem_cons.1 hk').elim (fun e => (hv k hk).2.1 e) (hv k hk).2.2)
    · have h1 := framesL_count ts
      have h2 := hL.holds.okay.data
      rw [hL.holds.data] at h2
      have h3 := hL.holds.okay.sz2
      omega
    · exact fun x hx => (hk.moves hm (fun x hx => (List.mem_cons.1 hx).elim (fun e => by rw [e]; exact hpw) (hF x))).2 x (List.mem_cons_of_mem _ hx)
    · intro k hk2
      have := own_moves (w := w) (F := p :: F) (v := v) (fun k hk => ⟨(hv k hk).1, fun hm => (List.mem_cons.1 hm).elim (hv k hk).2.1 (hv k hk).2.2⟩) (ownsRow_lt hx) hm k hk2
      exact ⟨this.1, fun e => this.2 (by rw [e]; exact List.mem_cons_self ..), fun hF => this.2 (List.mem_cons_of_mem _ hF)⟩
    · exact fun x hx => (List.mem_cons.1 hx).elim (fun e => by rw [e]; exact hpw) (hF x)
  · exact .inr ⟨c, beq_eq_false_iff_ne.2 hc, rfl, h'.quiet hk'⟩
/-- The texts have grown by one. -/
theorem AnyRel.grow {w w5 w6 : World} {bd p m sz g : Nat} {ps F : List Nat} {D : DiskM} {l ts : List (List UInt8)} {S : StM} {v v' : Value} {b : List UInt8} (hpw : w.heap.size ≤ p) (hL : Live w5 bd ps F D p l S (ts ++ [b])) (ht : D.tleft = 0) (hl : l.length = m) (hs : S.sz = sz) (hg : S.gen = g)
    (hF : ∀ x ∈ F, w.heap.size ≤ x) (hv : ∀ k, k ∈ own v → w.heap.size ≤ k ∧ k ≠ p ∧ k ∉ F) (hk : Keeps [] w w5) (hx : Texts w6 v' (ts ++ [b])) (hk6 : Keeps (own v) w5 w6) (hf : ∀ k, k ∈ own v' → k ∈ own v ∨ w5.heap.size ≤ k) : AnyRel w bd ps p m sz g v' w6 := by
  refine ⟨F, D, l, S, ts ++ [b], ⟨hL.disk.keeps hk6 (fun k hk hk' => (hv k hk').2.2 hk), hL.up, hL.st.keeps hk6 (fun h => (hv p h).2.1 rfl), hL.out, hL.holds⟩, ht, hl, hs, hg, hx, hF, fun k hk' => ?_, hk.trans' hk6 (fun x hx hl => by have := (hv x hx).1; omega)⟩
  rcases hf k hk' with h | h
  · exact hv k h
  · have h1 := hk.size
    have h2 := hL.st.lt
    exact ⟨by omega, by omega, fun hF' => by have := hL.disk.lt k hF'; omega⟩
/-- One more round of Crash and Open. -/
theorem RestRel.crash {w wr : World} {bd m g : Nat} {ps : List Nat} {v : Value} (h : RestRel w bd ps m g v wr) :
    Calls Tryd.prog 17 #[ptrV bd, .slice none 0 0] wr fun e w' => e = .returned (.tuple #[]) ∧ RestRel w bd ps m g v w' := by
  obtain ⟨F, D, l, ts, hR, hl, ho, hg, hf, hx, hF, hv, hk⟩ := h
  refine (Crash_rest wr bd ps F D l hR).mono ?_
  rintro e w' ⟨rfl, F', D', hR', hm⟩
  have := hk.moves hm hF
  exact ⟨rfl, F', D', l, ts, hR', hl, ho, hg, hf, ownsRow_keeps hm.1 hx (fun k hk => (hv k hk).2), this.2, own_moves hv (ownsRow_lt hx) hm, this.1⟩
def OpenedPost (w : World) (bd : Nat) (ps : List Nat) (m g : Nat) (v : Value) (e : Ending) (w' : World) : Prop :=
  ∃ p v' ts, e = .returned (.tuple #[ptrV p, v', .int .i64 0]) ∧ Texts w' v' ts ∧ Texts w' v ts ∧ RestRel w bd ps m g v w'
theorem RestRel.opened {w wr : World} {bd m g : Nat} {ps : List Nat} {v : Value} (h : RestRel w bd ps m g v wr) (hm3 : 3 ≤ m) (hm4 : m ≤ 4096) (hg' : g < 281474976710655) :
    Calls Tryd.prog 8 #[ptrV bd, .int .i64 0] wr (OpenedPost w bd ps m (g + 1) v) := by
  obtain ⟨F, D, l, ts, hR, hl, ho, hg, hf, hx, hF, hv, hk⟩ := h
  have hnf : ¬ openFull l := by unfold openFull; rw [ho]; omega
  refine (Open_live wr bd ps F D l hR.disk hR.up hR.l64 (by omega) (by omega) hnf hR.left).mono ?_
  rintro e w' ⟨p, v', F', D', l', rfl, hL, ht, hl', hx', hn', hv', hp, hm⟩
  rw [ho] at hx' hL
  have hop := hL.holds.open
  have := hk.moves hm hF
  have hx2 : Texts w' v ts := ownsRow_keeps hm.1 hx (fun k hk => (hv k hk).2)
  refine ⟨p, v', ts, rfl, hx', hx2, F', D', l', ts, hL.rest ht, by rw [hl', hl], hop.1, ?_, ?_, hx2, this.2, own_moves hv (ownsRow_lt hx) hm, this.1⟩
  · rw [hop.2]; show (openS l).gen + 1 ≤ g + 1; omega
  · rw [hop.2]; exact hf
theorem RestRel.quiet {w wr w' : World} {bd m g : Nat} {ps : List Nat} {v : Value} (h : RestRel w bd ps m g v wr) (k : Keeps [] wr w') : RestRel w bd ps m g v w' := by
  obtain ⟨F, D, l, ts, hR, hl, ho, hg, hf, hx, hF, hv, hk⟩ := h
  exact ⟨F, D, l, ts, hR.keeps k, hl, ho, hg, hf, ownsRow_keeps k hx (by simp), hF, hv, hk.trans k⟩

set_option maxRecDepth 100000 in
set_option maxHeartbeats 8000000 in
theorem StreamAny_true (n : Int) (hn : n ≤ 9223372036854775807) (s : ByteArray) (hs : s.size ≤ maxLen) (v : Value) (bs : List (List UInt8)) (w : World) (hv : Sees w v (bs.map strV)) (hbz : ∀ b ∈ bs, b.length ≤ maxLen) :
    Calls Tryd.prog 5 #[.int .i64 n, .string s, v] w fun e w' => e = .returned (.bool true) ∧ Keeps [] w w' := by
  obtain ⟨av, cap, rfl, hc1, hc2, hcell⟩ := hv
  rw [List.length_map] at *
  have HC := Lib.hid hcell; clear hcell
  have HBZ := Lib.hid hbz; clear hbz
  unfold maxLen at hc2
  obtain ⟨m0, hm0⟩ : ∃ m : Nat, max (0 : Int) n = m := ⟨(max 0 n).toNat, by omega⟩
  have hm0b : m0 ≤ 9223372036854775807 := by omega
  obtain ⟨m, hm⟩ : ∃ m : Nat, m = 3 + m0 % 60 := ⟨_, rfl⟩
  have hm3 : 3 ≤ m := by omega
  have hm4 : m ≤ 62 := by omega
  have hq : 3 + (m0 : Int) % 60 = (m : Int) := by omega
  have hfs : ∀ w1 v1, Sees w1 v1 [intV m] → Calls Tryd.prog 9 #[v1] w1 fun e w' => ∃ bd ps F D, e = .returned (ptrV bd) ∧ DiskAt w' bd ps D F ∧ Up D (List.replicate m noneL) ∧ D.tleft = 0 ∧ (∀ x, x ∈ F → w1.heap.size ≤ x) ∧ Keeps [] w1 w' := fun w1 v1 h => New1 v1 m w1 h (by omega) (by omega)
  have HN := Lib.hid hfs
  have HSZ := Lib.hid hs
  obtain ⟨nb, hnb⟩ : ∃ nb, nb = min bs.length 20 := ⟨_, rfl⟩
  have hmin : min (bs.length : Int) 20 = (nb : Int) := by omega
  have hnb1 : nb ≤ bs.length := by omega
  have hnb2 : nb ≤ cap := by omega
  have hnb3 : (nb : Int) ≤ cap := by omega
  clear hfs hm hnb hs
  go_enter Tryd.func5, Tryd.ntmps5
  go_wp2_with fail
  refine (HN.out _ _ (Sees.alloc1 _ _ _ rfl)).mono ?_
  rintro e w1 ⟨bd, ps, F, D, rfl, hD, hU, ht, hF, hk⟩
  have HK1 : Hid (Keeps [] w w1) := ((Keeps.refl [] w).alloc _).trans hk
  have HLy := Lib.hid (Lay_one w1 bd ps F D (List.replicate m noneL) s hD hU (by simp; omega) HSZ.out ht)
  have HF : Hid (∀ x ∈ F, w.heap.size ≤ x) := fun x hx => by have := hF x hx; simp at this; omega
  clear hD hU ht hF hk HN
  unfold ptrV at HLy ⊢
  go_wp2_with fail
  refine (HLy.out).mono ?_
  rintro e w2 ⟨rfl, F2, D2, hD2, hU2, ht2, hm2⟩
  rw [List.length_replicate] at hU2
  have hl0 := layL_length m s.data.toList
  have h64 := layL_64 m s.data.toList
  generalize layL m s.data.toList = l0 at hU2 hl0 h64
  have HX := Lib.hid (HK1.out.moves hm2 HF.out)
  have HR2 : Hid (Rest w2 bd ps F2 D2 l0) := ⟨hD2, hU2, ht2, h64⟩
  have HO := Lib.hid (Open_rest w2 bd ps F2 D2 l0 HR2.out (by omega) (by omega))
  have HL0 := Lib.hid hl0
  clear hD2 hU2 ht2 hm2 hl0 h64 HK1 HF HLy HSZ HR2
  unfold ptrV at HO
  go_wp2_with fail
  refine (HO.out).mono ?_
  rintro e w3 (⟨-, rfl, hk3⟩ | ⟨-, p, v3, F3, D3, l3, rfl, hL3, ht3, hl3, htx3, hnw3, hvn3, hp3, hm3⟩)
  · have HK3 : Hid (Keeps [] w w3) := HX.out.1.trans hk3
    clear hk3 HO
    go_wp2_with fail
    refine (wakes_true _).mono ?_
    rintro e w4 ⟨rfl, hk4⟩
    have HK4 : Hid (Keeps [] w w4) := HK3.out.trans hk4
    clear hk4 HK3
    go_wp2_with fail
    refine (wakes_true _).mono ?_
    rintro e w5 ⟨rfl, hk5⟩
    have HK5 : Hid (Keeps [] w w5) := HK4.out.trans hk5
    clear hk5 HK4
    go_wp2_with fail
    go_ret
    exact ⟨rfl, HK5.out⟩
  · have hx := HX.out.1.moves hm3 HX.out.2
    have hpw : w.heap.size ≤ p := by have := HX.out.1.size; omega
    have HP := Lib.hid hpw
    obtain ⟨g, hg⟩ : ∃ g, g = (openS l0).gen + 1 := ⟨_, rfl⟩
    have HR3 : Hid (AnyRel w bd ps p m (openS l0).sz g v3 w3) := ⟨F3, D3, l3, _, _, hL3, ht3, by rw [hl3, HL0.out], rfl, hg.symm, htx3, hx.2, fun k hk => ⟨by have := hnw3 k hk; have := HX.out.1.size; omega, hvn3 k hk⟩, hx.1⟩
    obtain ⟨a3, c3, rfl⟩ := ownsRow_form htx3
    generalize (openRecs l0).length = n3 at HR3
    clear hL3 ht3 hl3 htx3 hnw3 hvn3 hp3 hm3 hx hg HO HX hpw
    generalize (openS l0).sz = sz at HR3
    unfold ptrV
    go_wp2_with fail
    refine (wakes_true _).mono ?_
    rintro e w4 ⟨rfl, hk4⟩
    have HR4 := Lib.hid (HR3.out.quiet hk4)
    have HG := Lib.hid HR4.out.gen
    clear hk4 HR3
    unfold ptrV at HG
    by_cases hgl : 281474976710647 < g
    · have bg : decide ((281474976710647 : Int) < (g : Int)) = true := decide_eq_true (by omega)
      have bg2 : (281474976710647 : Int) < (g : Int) := by omega
      go_wp2_with fail
      refine (HG.out).mono ?_
      rintro e w5 ⟨rfl, rfl⟩
      clear HG
      go_wp2_with fail
      go_ret
      obtain ⟨_, _, _, _, _, _, _, _, _, _, _, _, _, hk⟩ := HR4.out
      exact ⟨rfl, hk⟩
    · have bg : decide ((281474976710647 : Int) < (g : Int)) = false := decide_eq_false (by omega)
      have bg2 : (g : Int) ≤ 281474976710647 := by omega
      go_wp2_with fail
      refine (HG.out).mono ?_
      rintro e w5 ⟨rfl, rfl⟩
      clear HG
      go_wp2_with fail
      go_loopw [9, 60] (fun v i wr => ∃ k : Nat, k ≤ nb ∧ i = .int .i64 k ∧ AnyRel w bd ps p m sz g v wr) (fun _ i _ => nb - (intOf i).toNat)
      case atStart => exact ⟨0, by omega, rfl, HR4.out⟩
      case round =>
        obtain ⟨k, hk, rfl, hR⟩ := hrel
        have HR := Lib.hid hR
        clear HR4
        by_cases hlt : k < nb
        · have hlt' : k < bs.length := by omega
          obtain ⟨b, off, rfl, hb, hcell⟩ := HC.out.resolve_left (by intro h; have := congrArg List.length h; simp at this; rw [this] at hlt'; simp at hlt')
          have hck : wr.cell? ⟨b, off + k, none⟩ = some (strV bs[k]) := by
            obtain ⟨_, _, _, _, _, _, _, _, _, _, _, _, _, hkp⟩ := hR
            exact hkp.cell (hcell k _ (by simp [List.getElem?_eq_getElem hlt'])) (by simp)
          have hbz := HBZ.out _ (List.getElem_mem hlt')
          clear hR
          generalize bs[k] = x at hck hbz
          unfold strV at hck
          have hxz : (ByteArray.mk x.toArray).size ≤ maxLen := by rw [size_mk]; exact hbz
          generalize ByteArray.mk x.toArray = y at hck hxz
          have HA := Lib.hid (HR.out.app HP.out y hxz)
          clear hcell hb hbz hxz HR
          unfold ptrV at HA
          go_wp2_with fail
          refine (HA.out).mono ?_
          rintro e w5 (⟨F, D, l, S, ts, rfl, hL, ht, hl, hs, hg, hx, htl, hF, hv, hkp⟩ | ⟨c, hc0, rfl, hR⟩)
          · have HE := Lib.hid (And.intro hL (And.intro ht (And.intro hl (And.intro hs (And.intro hg (And.intro hF (And.intro hv hkp)))))))
            have hown : Own w5 9 1 u9 ts.length (ts.map strV) := hx
            clear hL ht hl hs hg hx hF hv hkp HA hck
            go_wp2_with (at_builtin; go_loud (refine wpList_app1 (by rfl) (by rfl) Tryd.underlying23 infoStr rfl (by decide) (by rfl) hown (by rfl) (by rfl) ?c1 ?c2 ?c3 ?c4))
            case c1 => simp [Value.oneCell']
            case c2 => unfold maxLen; omega
            case c3 => omega
            case c4 =>
              intro v' w6 ho hk6 hf
              have HG : Hid (AnyRel w bd ps p m sz g v' w6) := by
                obtain ⟨hL, ht, hl, hs, hg, hF, hv, hkp⟩ := HE.out
                refine AnyRel.grow HP.out hL ht hl hs hg hF hv hkp ?_ hk6 hf
                have := ho; unfold Texts strV at *; simpa using this
              clear ho hk6 hf hown HE
              go_wp2_with fail
              go_roundw
              case rel => exact ⟨k + 1, by omega, by go_num, HG.out⟩
              case measure => simp [intOf]; omega
          · have HG := Lib.hid hR
            clear hR HA hck
            go_wp2_with fail
            go_roundw
            case rel => exact ⟨k + 1, by omega, by go_num, HG.out⟩
            case measure => simp [intOf]; omega
        · have HRR := Lib.hid HR.out.rest
          clear HR hR
          go_wp2_with fail
          go_loopw [73] (fun i wr => ∃ k : Nat, k ≤ 2 ∧ i = .int .i64 k ∧ RestRel w bd ps m (g + k) u9 wr) (fun i _ => 2 - (intOf i).toNat)
          case atStart => exact ⟨0, by omega, rfl, HRR.out⟩
          case round =>
            obtain ⟨j, hj, rfl, hR⟩ := hrel
            have HR := Lib.hid hR
            clear hR HRR
            by_cases hlt2 : j < 2
            · have HCr := Lib.hid HR.out.crash
              clear HR
              unfold ptrV at HCr
              go_wp2_with fail
              refine (HCr.out).mono ?_
              rintro e w7 ⟨rfl, hR7⟩
              have HO := Lib.hid (hR7.opened hm3 (by omega) (by omega))
              clear hR7 HCr
              unfold ptrV at HO
              go_wp2_with fail
              refine (HO.out).mono ?_
              rintro e w8 ⟨p8, v8, ts8, rfl, hx8, hx9, hR8⟩
              have heq := equal_any u9 v8 ts8 ts8 w8 (Sees.of_own (by rw [List.length_map]; exact hx9)) (Sees.of_own (by rw [List.length_map]; exact hx8))
              rw [decide_eq_true (rfl : ts8 = ts8)] at heq
              have HEq := Lib.hid heq
              have HR8 := Lib.hid hR8
              obtain ⟨a8, c8, rfl⟩ := ownsRow_form hx8
              clear heq hx8 hx9 hR8 HO
              unfold ptrV
              go_wp2_with fail
              refine (HEq.out).mono ?_
              rintro e w9 ⟨rfl, hk9⟩
              have HR9 := Lib.hid (HR8.out.quiet hk9)
              clear hk9 HR8 HEq
              go_wp2_with fail
              go_roundw
              case rel => exact ⟨j + 1, by omega, by go_num, HR9.out⟩
              case measure => simp [intOf]; omega
            · go_wp2_with fail
              go_ret
              obtain ⟨_, _, _, _, _, _, _, _, _, _, _, _, hkp⟩ := HR.out
              exact ⟨rfl, hkp⟩
end Go.Proofs.YtepnbfpclhincaaDoor

namespace Go.Proofs.YtepnbfpclhincaaDoor
open Go.RowKit

/-- Between two openings: what was told, and perhaps one more. -/
def LastRel (w : World) (bd : Nat) (ps : List Nat) (m n : Nat) (T : List (List UInt8)) (M : List UInt8) (vt : Value) (wr : World) : Prop :=
  ∃ F D l, Rest wr bd ps F D l ∧ Fnd l m n T M ∧ Texts wr vt T ∧ (∀ x ∈ F, w.heap.size ≤ x) ∧ (∀ k, k ∈ own vt → w.heap.size ≤ k ∧ k ∉ F) ∧ Keeps [] w wr
/-- .. a trap may be set. -/
def SetRel (w : World) (bd : Nat) (ps : List Nat) (m n nl : Nat) (T : List (List UInt8)) (M : List UInt8) (vt : Value) (wr : World) : Prop :=
  ∃ F D l, DiskAt wr bd ps D F ∧ Up D l ∧ (D.tleft ≠ 0 → n < nl) ∧ Fnd l m n T M ∧ Texts wr vt T ∧ (∀ x ∈ F, w.heap.size ≤ x) ∧ (∀ k, k ∈ own vt → w.heap.size ≤ k ∧ k ∉ F) ∧ Keeps [] w wr
/-- The power is off. -/
def OffRel (w : World) (bd : Nat) (ps : List Nat) (m n : Nat) (T : List (List UInt8)) (M : List UInt8) (vt : Value) (wr : World) : Prop :=
  ∃ F D l, DiskAt wr bd ps D F ∧ Down D l ∧ Fnd l m (n + 1) T M ∧ Texts wr vt T ∧ (∀ x ∈ F, w.heap.size ≤ x) ∧ (∀ k, k ∈ own vt → w.heap.size ≤ k ∧ k ∉ F) ∧ Keeps [] w wr
/-- A stream at work, which holds R; T is told. -/
def WorkRel (w : World) (bd : Nat) (ps : List Nat) (m n nl p : Nat) (R T : List (List UInt8)) (vt : Value) (wr : World) : Prop :=
  w.heap.size ≤ p ∧ ∃ F D l S, Live wr bd ps F D p l S R ∧ (D.tleft ≠ 0 → n < nl) ∧ l.length = m ∧ S.gen ≤ n + 1 ∧ Texts wr vt T ∧ T.length ≤ 200000 ∧ (∀ x ∈ F, w.heap.size ≤ x) ∧ (∀ k, k ∈ own vt → w.heap.size ≤ k ∧ k ≠ p ∧ k ∉ F) ∧ Keeps [] w wr

theorem LastRel.keeps {w wr : World} {bd m n : Nat} {ps : List Nat} {T : List (List UInt8)} {M : List UInt8} {vt : Value} (h : LastRel w bd ps m n T M vt wr) : Keeps [] w wr := by obtain ⟨_, _, _, _, _, _, _, _, h⟩ := h; exact h
theorem LastRel.quiet {w wr w' : World} {bd m n : Nat} {ps : List Nat} {T : List (List UInt8)} {M : List UInt8} {vt : Value} (h : LastRel w bd ps m n T M vt wr) (k : Keeps [] wr w') : LastRel w bd ps m n T M vt w' := by
  obtain ⟨F, D, l, hR, hf, hx, hF, hv, hk⟩ := h
  exact ⟨F, D, l, hR.keeps k, hf, ownsRow_keeps k hx (by simp), hF, hv, hk.trans k⟩
theorem SetRel.keeps {w wr : World} {bd m n nl : Nat} {ps : List Nat} {T : List (List UInt8)} {M : List UInt8} {vt : Value} (h : SetRel w bd ps m n nl T M vt wr) : Keeps [] w wr := by obtain ⟨_, _, _, _, _, _, _, _, _, _, h⟩ := h; exact h
theorem WorkRel.keeps {w wr : World} {bd m n nl p : Nat} {ps : List Nat} {R T : List (List UInt8)} {vt : Value} (h : WorkRel w bd ps m n nl p R T vt wr) : Keeps [] w wr := by obtain ⟨_, _, _, _, _, _, _, _, _, _, _, _, _, h⟩ := h; exact h
theorem WorkRel.quiet {w wr w' : World} {bd m n nl p : Nat} {ps : List Nat} {R T : List (List UInt8)} {vt : Value} (h : WorkRel w bd ps m n nl p R T vt wr) (k : Keeps [] wr w') : WorkRel w bd ps m n nl p R T vt w' := by
  obtain ⟨hp, F, D, l, S, hL, ht, hl, hg, hx, hT, hF, hv, hk⟩ := h
  exact ⟨hp, F, D, l, S, hL.keeps k, ht, hl, hg, ownsRow_keeps k hx (by simp), hT, hF, hv, hk.trans k⟩
theorem LastRel.set {w wr : World} {bd m n nl : Nat} {ps : List Nat} {T : List (List UInt8)} {M : List UInt8} {vt : Value} (h : LastRel w bd ps m n T M vt wr) : SetRel w bd ps m n nl T M vt wr := by
  obtain ⟨F, D, l, hR, hf, hx, hF, hv, hk⟩ := h
  exact ⟨F, D, l, hR.disk, hR.up, fun h => absurd hR.left h, hf, hx, hF, hv, hk⟩
theorem LastRel.cut {w wr w2 : World} {bd m n nl : Nat} {ps : List Nat} {T : List (List UInt8)} {M : List UInt8} {vt v : Value} {N : Int} {k : Nat} (h : LastRel w bd ps m n T M vt wr) (hn : n < nl) (hN : N ≤ 9223372036854775807) (hk2 : k < 2 ^ 64)
    (hk : Keeps [] wr w2) (hv : Sees w2 v [u64V k]) (hvn : ∀ x, x ∈ own v → wr.heap.size ≤ x) :
    Calls Tryd.prog 19 #[ptrV bd, .int .i64 0, .int .i64 N, v] w2 fun e w' => e = .returned (.tuple #[]) ∧ SetRel w bd ps m n nl T M vt w' := by
  have hlt : ∀ F D l, Rest wr bd ps F D l → ∀ x, x ∈ own v → x ∉ F := fun F D l hR x hx hF => by have := hvn x hx; have := hR.disk.lt x hF; omega
  obtain ⟨F, D, l, hR, hf, hx, hF, hvt, hkw⟩ := h
  refine (Cut_rest w2 bd ps F D l N v k (hR.disk.keeps0 hk) hR.up hN hk2 hv (hlt F D l hR)).mono ?_
  rintro e w' ⟨rfl, F', D', hD', hU', hm⟩
  have hx2 := ownsRow_keeps hk hx (by simp)
  have := (hkw.trans hk).moves hm hF
  exact ⟨rfl, F', D', l, hD', hU', fun _ => hn, hf, ownsRow_keeps hm.1 hx2 (fun k hk => (hvt k hk).2), this.2, own_moves hvt (ownsRow_lt hx2) hm, this.1⟩

def LastOpen (w : World) (bd : Nat) (ps : List Nat) (m n nl : Nat) (T : List (List UInt8)) (M : List UInt8) (vt : Value) (e : Ending) (w' : World) : Prop :=
  (∃ p v R, e = .returned (.tuple #[ptrV p, v, .int .i64 0]) ∧ (R = T ∨ (M ≠ [] ∧ R = T ++ [M])) ∧ Texts w' v R ∧ (∀ k, k ∈ own v → k ∉ own vt) ∧ WorkRel w bd ps m n nl p R T vt w') ∨
  (e = .returned (.tuple #[.pointer none, .slice none 0 0, .int .i64 11]) ∧ n < nl ∧ OffRel w bd ps m n T M vt w')
theorem SetRel.open {w wr : World} {bd m n nl : Nat} {ps : List Nat} {T : List (List UInt8)} {M : List UInt8} {vt : Value} (h : SetRel w bd ps m n nl T M vt wr) (hlo : 3 ≤ m) (hhi : m ≤ 4096) (hG : n < 281474976710655) :
    Calls Tryd.prog 8 #[ptrV bd, .int .i64 0] wr (LastOpen w bd ps m n nl T M vt) := by
  obtain ⟨F, D, l, hD, hU, hn, hf, hx, hF, hv, hk⟩ := h
  refine (Open_may wr bd ps F D l m n T M hD hU hf hlo hhi hG).mono ?_
  rintro e w' (⟨p, v, F', D', l', rfl, hL, ht, hl', hxv, hnw, hvn, hp, hm⟩ | ⟨F', D', l', rfl, ht, hD', hDn, hf', hm⟩)
  · have := hk.moves hm hF
    have hT : T.length ≤ 200000 := by
      have h1 := framesL_count (openRecs l)
      have h2 := hf.fits
      have h3 := hL.holds.okay.sz2
      have h4 : ((openS l).reset (openRecs l)).sz = openH l := openS_sz l
      rw [h4] at h3
      rcases hf.recs with e | ⟨-, e⟩ <;> rw [e] at h1 h2
      · omega
      · rw [List.length_append] at h1; omega
    have hom := own_moves hv (ownsRow_lt hx) hm
    exact .inl ⟨p, v, _, rfl, hf.recs, hxv, fun k hk1 hk2 => by have h1 := hnw k hk1; have h2 := ownsRow_lt hx k hk2; omega, by have := hk.size; omega, F', D', l', _, hL, fun h => hn (fun h0 => h (ht h0)), hl', by show (openS l).gen + 1 ≤ n + 1; have := hf.gen; omega, ownsRow_keeps hm.1 hx (fun k hk => (hv k hk).2), hT, this.2,
      fun k hk' => ⟨(hom k hk').1, fun e => by have := ownsRow_lt hx k hk'; omega, (hom k hk').2⟩, this.1⟩
  · have := hk.moves hm hF
    exact .inr ⟨rfl, hn ht, F', D', l', hD', hDn, hf', ownsRow_keeps hm.1 hx (fun k hk => (hv k hk).2), this.2, own_moves hv (ownsRow_lt hx) hm, this.1⟩

/-- The texts that are told have grown by one. -/
theorem WorkRel.grow {w w5 w6 : World} {bd m n nl p : Nat} {ps : List Nat} {R T : List (List UInt8)} {b : List UInt8} {vt v' : Value} (h : WorkRel w bd ps m n nl p R T vt w5) (hb : T.length + 1 ≤ 200000) (hx : Texts w6 v' (T ++ [b])) (hk6 : Keeps (own vt) w5 w6) (hf : ∀ k, k ∈ own v' → k ∈ own vt ∨ w5.heap.size ≤ k) :
    WorkRel w bd ps m n nl p R (T ++ [b]) v' w6 := by
  obtain ⟨hp, F, D, l, S, hL, ht, hl, hg, hx0, hT, hF, hv, hk⟩ := h
  refine ⟨hp, F, D, l, S, ⟨hL.disk.keeps hk6 (fun k hk hk' => (hv k hk').2.2 hk), hL.up, hL.st.keeps hk6 (fun h => (hv p h).2.1 rfl), hL.out, hL.holds⟩, ht, hl, hg, hx, by simpa using hb, hF, fun k hk' => ?_, hk.trans' hk6 (fun x hx hl => by have := (hv x hx).1; omega)⟩
  rcases hf k hk' with h | h
  · exact hv k h
  · have h1 := hk.size
    have h2 := hL.st.lt
    exact ⟨by omega, by omega, fun hF' => by have := hL.disk.lt k hF'; omega⟩
theorem WorkRel.count {w wr : World} {bd m n nl p : Nat} {ps : List Nat} {R T : List (List UInt8)} {vt : Value} (h : WorkRel w bd ps m n nl p R T vt wr) : R.length ≤ 150000 := by
  obtain ⟨hp, F, D, l, S, hL, ht, hl, hg, hx0, hT, hF, hv, hk⟩ := h
  have h1 := framesL_count R
  have h2 := hL.holds.okay.data
  rw [hL.holds.data] at h2
  have h3 := hL.holds.okay.sz2
  omega
def LastApp (w : World) (bd : Nat) (ps : List Nat) (m n nl p : Nat) (R : List (List UInt8)) (b : List UInt8) (vt : Value) (e : Ending) (w' : World) : Prop :=
  (e = .returned (.int .i64 0) ∧ WorkRel w bd ps m n nl p (R ++ [b]) R vt w') ∨
  (e = .returned (.int .i64 11) ∧ n < nl ∧ OffRel w bd ps m n R b vt w') ∨
  ∃ c : Int, (c == 0) = false ∧ (c == 11) = false ∧ e = .returned (.int .i64 c) ∧ WorkRel w bd ps m n nl p R R vt w'
theorem WorkRel.app {w wr : World} {bd m n nl p : Nat} {ps : List Nat} {R : List (List UInt8)} {vt : Value} (h : WorkRel w bd ps m n nl p R R vt wr) (s : ByteArray) (hz : s.size ≤ maxLen) :
    Calls Tryd.prog 11 #[ptrV p, .string s] wr (LastApp w bd ps m n nl p R s.data.toList vt) := by
  have hq := h
  obtain ⟨hp, F, D, l, S, hL, ht, hl, hg, hx, hT, hF, hv, hk⟩ := h
  have hpF : ∀ x ∈ p :: F, w.heap.size ≤ x := fun x hx => (List.mem_cons.1 hx).elim (fun e => by rw [e]; exact hp) (hF x)
  have hv2 : ∀ k, k ∈ own vt → w.heap.size ≤ k ∧ k ∉ p :: F := fun k hk => ⟨(hv k hk).1, fun hm => (List.mem_cons.1 hm).elim (hv k hk).2.1 (hv k hk).2.2⟩
  refine (Append_may wr bd p ps F D l R S s hL hz).mono ?_
  rintro e w' (⟨F', D', l', rfl, -, hL', ht', hl', hm⟩ | ⟨F', D', l', rfl, ht', -, hD', hDn, hf', hpF', hm⟩ | ⟨c, h0, h11, rfl, hk'⟩)
  · have := hk.moves hm hpF
    have hom := own_moves hv2 (ownsRow_lt hx) hm
    exact .inl ⟨rfl, hp, F', D', l', _, hL', fun h => ht (fun h0 => h (ht' h0)), by rw [hl', hl], hg, ownsRow_keeps hm.1 hx (fun k hk => (hv2 k hk).2), hT, fun x hx => this.2 x (List.mem_cons_of_mem _ hx),
      fun k hk' => ⟨(hom k hk').1, fun e => (hom k hk').2 (by rw [e]; exact List.mem_cons_self ..), fun h => (hom k hk').2 (List.mem_cons_of_mem _ h)⟩, this.1⟩
  · have := hk.moves hm hpF
    have hom := own_moves hv2 (ownsRow_lt hx) hm
    rw [hl] at hf'
    exact .inr (.inl ⟨rfl, ht ht', F', D', l', hD', hDn, ⟨hf'.len, hf'.l64, Nat.le_trans hf'.gen hg, hf'.fits, hf'.recs⟩, ownsRow_keeps hm.1 hx (fun k hk => (hv2 k hk).2), fun x hx => this.2 x (List.mem_cons_of_mem _ hx), fun k hk' => ⟨(hom k hk').1, fun h => (hom k hk').2 (List.mem_cons_of_mem _ h)⟩, this.1⟩)
  · exact .inr (.inr ⟨c, h0, h11, rfl, hq.quiet hk'⟩)
theorem OffRel.on {w wr : World} {bd m n : Nat} {ps : List Nat} {T : List (List UInt8)} {M : List UInt8} {vt : Value} (h : OffRel w bd ps m n T M vt wr) :
    Calls Tryd.prog 20 #[ptrV bd] wr fun e w' => e = .returned (.tuple #[]) ∧ LastRel w bd ps m (n + 1) T M vt w' := by
  obtain ⟨F, D, l, hD, hDn, hf, hx, hF, hv, hk⟩ := h
  refine (On_down wr bd ps F D l hD hDn hf.l64).mono ?_
  rintro e w' ⟨rfl, D', hR, hm⟩
  have := hk.moves hm hF
  exact ⟨rfl, F, D', l, hR, hf, ownsRow_keeps hm.1 hx (fun k hk => (hv k hk).2), this.2, own_moves hv (ownsRow_lt hx) hm, this.1⟩
theorem WorkRel.on {w wr : World} {bd m n nl p : Nat} {ps : List Nat} {R : List (List UInt8)} {vt : Value} (h : WorkRel w bd ps m n nl p R R vt wr) :
    Calls Tryd.prog 20 #[ptrV bd] wr fun e w' => e = .returned (.tuple #[]) ∧ RestRel w bd ps m (n + 1) vt w' := by
  obtain ⟨hp, F, D, l, S, hL, ht, hl, hg, hx, hT, hF, hv, hk⟩ := h
  refine (On_up wr bd ps F D l hL.disk hL.up hL.holds.l64).mono ?_
  rintro e w' ⟨rfl, D', hR, hm⟩
  have := hk.moves hm hF
  have ho := hL.holds.open
  have hv2 : ∀ k, k ∈ own vt → w.heap.size ≤ k ∧ k ∉ F := fun k hk => ⟨(hv k hk).1, (hv k hk).2.2⟩
  refine ⟨rfl, F, D', l, R, hR, hl, ho.1, by rw [ho.2]; exact hg, ?_, ownsRow_keeps hm.1 hx (fun k hk => (hv2 k hk).2), this.2, own_moves hv2 (ownsRow_lt hx) hm, this.1⟩
  rw [ho.2, ← hL.holds.data]
  exact hL.holds.okay.data
/-- A new disk. -/
theorem LastRel.fresh {w wr : World} {bd m : Nat} {ps F : List Nat} {D : DiskM} (hD : DiskAt wr bd ps D F) (hU : Up D (List.replicate m noneL)) (ht : D.tleft = 0) (hm : 3 ≤ m) (hF : ∀ x ∈ F, w.heap.size ≤ x) (hk : Keeps [] w wr) : LastRel w bd ps m 0 [] [] (.slice none 0 0) wr := by
  have h64 : ∀ s ∈ List.replicate m noneL, s.length = 64 := fun s hs => by rw [List.eq_of_mem_replicate hs]; rfl
  have hf := fresh_open m hm
  refine ⟨F, D, _, ⟨hD, hU, ht, h64⟩, ⟨by simp, h64, by rw [hf.2]; exact Nat.le_refl _, ?_, .inl hf.1⟩, World.ownsRow_nil _ _ _ _, hF, by simp [own, Value.ownBlock], hk⟩
  rw [hf.1]; simp [framesL]
end Go.Proofs.YtepnbfpclhincaaDoor

namespace Go.Proofs.YtepnbfpclhincaaDoor
open Go.RowKit

/-- A slice of losses, as it is read. -/
def SeesL (w : World) (v : Value) (ls : List (Int × Nat)) : Prop :=
  ∃ a cap, v = .slice a ls.length cap ∧ ls.length ≤ cap ∧ cap ≤ maxLen ∧ (ls = [] ∨ ∃ b off, a = some ⟨b, off, none⟩ ∧ b < w.heap.size ∧ ∀ j x, ls[j]? = some x → w.cell? ⟨b, off + j * 2, none⟩ = some (.int .i64 x.1) ∧ w.cell? ⟨b, off + j * 2 + 1, none⟩ = some (u64V x.2))

theorem Keeps.drewN {F : List Nat} (w : World) (n : Nat) : Keeps F w (w.drewN n) := ⟨rfl, rfl, rfl, Nat.le_refl _, fun _ _ _ => rfl⟩

set_option maxRecDepth 100000 in
set_option maxHeartbeats 16000000 in
theorem StreamLasts_true (n : Int) (hn : n ≤ 9223372036854775807) (v : Value) (bs : List (List UInt8)) (v2 : Value) (ls : List (Int × Nat)) (w : World) (hv : Sees w v (bs.map strV)) (hbz : ∀ b ∈ bs, b.length ≤ maxLen) (hv2 : SeesL w v2 ls) (hlz : ∀ x ∈ ls, x.1 ≤ 9223372036854775807 ∧ x.2 < 2 ^ 64) :
    Calls Tryd.prog 6 #[.int .i64 n, v, v2] w fun e w' => e = .returned (.bool true) ∧ Keeps [] w w' := by
  obtain ⟨av, cap, rfl, hc1, hc2, hcell⟩ := hv
  rw [List.length_map] at *
  have HC := Lib.hid hcell; clear hcell
  have HBZ := Lib.hid hbz; clear hbz
  obtain ⟨al, capl, rfl, hd1, hd2, hlcell⟩ := hv2
  have HLC := Lib.hid hlcell; clear hlcell
  have HLZ := Lib.hid hlz; clear hlz
  unfold maxLen at hc2 hd2
  obtain ⟨m0, hm0⟩ : ∃ m : Nat, max (0 : Int) n = m := ⟨(max 0 n).toNat, by omega⟩
  have hm0b : m0 ≤ 9223372036854775807 := by omega
  obtain ⟨m, hm⟩ : ∃ m : Nat, m = 3 + m0 % 60 := ⟨_, rfl⟩
  have hm3 : 3 ≤ m := by omega
  have hm4 : m ≤ 62 := by omega
  have hq : 3 + (m0 : Int) % 60 = (m : Int) := by omega
  have hfs : ∀ w1 v1, Sees w1 v1 [intV m] → Calls Tryd.prog 9 #[v1] w1 fun e w' => ∃ bd ps F D, e = .returned (ptrV bd) ∧ DiskAt w' bd ps D F ∧ Up D (List.replicate m noneL) ∧ D.tleft = 0 ∧ (∀ x, x ∈ F → w1.heap.size ≤ x) ∧ Keeps [] w1 w' := fun w1 v1 h => New1 v1 m w1 h (by omega) (by omega)
  have HN := Lib.hid hfs
  obtain ⟨nb, hnb⟩ : ∃ nb, nb = min bs.length 40 := ⟨_, rfl⟩
  have hmin : min (bs.length : Int) 40 = (nb : Int) := by omega
  have hnb1 : nb ≤ bs.length := by omega
  have hnb2 : nb ≤ cap := by omega
  have hnb3 : (nb : Int) ≤ cap := by omega
  obtain ⟨nl, hnl⟩ : ∃ nl, nl = min ls.length 10 := ⟨_, rfl⟩
  have hminl : min (ls.length : Int) 10 = (nl : Int) := by omega
  have hnl1 : nl ≤ ls.length := by omega
  have hnl2 : nl ≤ capl := by omega
  have hnl3 : (nl : Int) ≤ capl := by omega
  have hnl4 : nl ≤ 10 := by omega
  clear hfs hm hnb hnl
  go_enter Tryd.func6, Tryd.ntmps6
  go_wp2_with fail
  refine (HN.out _ _ (Sees.alloc1 _ _ _ rfl)).mono ?_
  rintro e w1 ⟨bd, ps, F, D, rfl, hD, hU, ht, hF, hk⟩
  have HK1 : Hid (Keeps [] w w1) := ((Keeps.refl [] w).alloc _).trans hk
  have HR1 : Hid (LastRel w bd ps m 0 [] [] (.slice none 0 0) w1) := LastRel.fresh hD hU ht hm3 (fun x hx => by have := hF x hx; simp at this; omega) HK1.out
  clear hD hU ht hF hk HN HK1
  unfold ptrV
  go_wp2_with fail
  refine (wakes_true _).mono ?_
  rintro e w2 ⟨rfl, hk2⟩
  have HR2 := Lib.hid (HR1.out.quiet hk2)
  clear hk2 HR1
  go_wp2_with fail
  clear hmin hminl
  go_loopg [8, 9, 10, 11] (nl + 1) (fun g vt vm vi vn wr => ∃ (k j : Nat) (T : List (List UInt8)) (y : ByteArray), k ≤ nl ∧ g = nl + 1 - k ∧ vn = .int .i64 k ∧ j ≤ nb ∧ vi = .int .i64 j ∧ vm = .string y ∧ LastRel w bd ps m k T y.data.toList vt wr)
  case atStart => exact ⟨0, 0, [], ⟨#[]⟩, by omega, rfl, rfl, by omega, rfl, rfl, HR2.out⟩
  case round =>
    obtain ⟨k, j, T, y, hk, hg, rfl, hj, rfl, rfl, hR⟩ := hrel
    have HG := Lib.hid hg
    have HR := Lib.hid hR
    clear hg hR HR2
    go_upto_if 39 with fail
    go_cut [6] (fun s6 wx => SetRel w bd ps m k nl T y.data.toList u8 wx)
    case first =>
      by_cases hlt : k < nl
      · have hlt' : k < ls.length := by omega
        obtain ⟨b, off, rfl, hb, hcell⟩ := HLC.out.resolve_left (by intro h; rw [h] at hlt'; simp at hlt')
        obtain ⟨h1, h2⟩ := hcell k _ (List.getElem?_eq_getElem hlt')
        have hz := HLZ.out _ (List.getElem_mem hlt')
        have hkp := HR.out.keeps
        generalize ls[k] = x at h1 h2 hz
        obtain ⟨N, K⟩ := x
        dsimp only at h1 h2 hz
        have HS : Hid (∀ w', Keeps [] w w' → w'.cell? ⟨b, off + k * 2, none⟩ = some (.int .i64 N) ∧ w'.cell? ⟨b, off + k * 2 + 1, none⟩ = some (.int .u64 K)) := fun w' h => ⟨h.cell h1 (by simp), h.cell h2 (by simp)⟩
        have c1 := hkp.cell h1 (by simp)
        have c2 := hkp.cell h2 (by simp)
        unfold u64V at c2
        have HZ := Lib.hid hz
        have HKP := Lib.hid hkp
        have hka : Keeps [] wr (wr.alloc (.cells #[.int .u64 K] 43)).drew := ((Keeps.refl [] wr).alloc _).drew
        have hse : Sees (wr.alloc (.cells #[.int .u64 K] 43)).drew (.slice (some ⟨wr.heap.size, 0, none⟩) 1 1) [u64V K] := (Sees.alloc1 wr (.int .u64 K) 43 rfl).keeps ((Keeps.refl [] _).drew) (by simp)
        have HCt := Lib.hid (HR.out.cut hlt HZ.out.1 HZ.out.2 hka hse (by simp [own, Value.ownBlock]))
        unfold ptrV at HCt
        clear hcell h1 h2 hz hkp hb hka hse
        go_wp2_with fail
        go_region_held3 (fun w' => w'.cell? ⟨b, off + k * 2, none⟩ = some (.int .i64 N) ∧ w'.cell? ⟨b, off + k * 2 + 1, none⟩ = some (.int .u64 K)) ((first | assumption | exact ⟨c1, c2⟩ | exact HS.out _ (SetRel.keeps ‹SetRel _ _ _ _ _ _ _ _ _ _›) | exact HS.out _ HKP.out.drew | exact HS.out _ (HKP.out.drew.alloc _) | exact HS.out _ (HKP.out.alloc _) | exact HS.out _ (HKP.out.alloc _).drew))
          ((go_at_call 19; refine (HCt.out).mono ?_; rintro e w5 ⟨rfl, hR5⟩))
        all_goals
          have HR5 := Lib.hid hR5
          clear hR5 HCt
          go_wp2_with fail
          go_meet
          case rel => exact HR5.out
      · have hd : decide (k < nl) = false := decide_eq_false hlt
        go_wp2_with fail
        go_meet
        case rel => exact HR.out.set
    case rest =>
      have HO := Lib.hid (hcut.open hm3 (by omega) (by omega))
      clear hcut HR
      unfold ptrV at HO
      go_wp2_with fail
      refine (HO.out).mono ?_
      rintro e w6 (⟨p, v6, R, rfl, hR, hxv, hdis, hW⟩ | ⟨rfl, hlt, hOff⟩)
      · clear HO
        obtain ⟨a6, c6, rfl⟩ := ownsRow_form hxv
        obtain ⟨a8, c8, rfl⟩ : ∃ a c, u8 = .slice a T.length c := by obtain ⟨_, _, _, _, _, _, _, _, _, hx, _⟩ := hW; exact ownsRow_form hx
        have hTl : T.length ≤ 200000 := by obtain ⟨_, _, _, _, _, _, _, _, _, hx, h, _⟩ := hW; exact h
        have HW := Lib.hid hW
        have HXV := Lib.hid hxv
        have HRR := Lib.hid hR
        have hdis2 : ∀ x, x ∈ own (.slice a6 R.length c6) → x ∉ own (.slice a8 T.length c8) := hdis
        have HDI := Lib.hid hdis2
        clear hR hxv hW hdis hdis2
        generalize hnR : R.length = nR at HXV HDI
        have HNR := Lib.hid hnR
        clear hnR
        unfold ptrV
        go_upto_region 15 with fail
        go_cut [79] (fun s79 wx => w6 = wx ∧ ∃ bb : Bool, s79 = .bool bb ∧ ((bb = false ∧ R = T) ∨ (bb = true ∧ R = T ++ [y.data.toList])))
        case first =>
          rcases HRR.out with e | ⟨hM, e⟩
          · have hne : nR = T.length := by have := HNR.out; rw [e] at this; exact this.symm
            have b1 : ((nR : Int) == (T.length : Int) + 1) = false := beq_eq_false_iff_ne.2 (by omega)
            have HE := Lib.hid e
            clear e hne
            by_cases hy : y.size = 0
            · obtain rfl : y = ⟨#[]⟩ := by
                cases y with
                | mk d => congr 1; exact Array.eq_empty_of_size_eq_zero hy
              clear hy
              go_wp2_with fail
              go_meet
              case rel => exact ⟨rfl, _, rfl, .inl ⟨rfl, HE.out⟩⟩
            · have hn1 := notEmpty y (by omega)
              have hn2 : (y.toList == (ByteArray.mk #[]).toList) = false := by
                rw [beq_eq_false_iff_ne, ByteArray.toList_eq, ByteArray.toList_eq]
                intro e
                have := congrArg List.length e
                rw [toList_length] at this
                exact hy this
              clear hy
              go_wp2_with fail
              go_meet
              case rel => exact ⟨rfl, _, rfl, .inl ⟨rfl, HE.out⟩⟩
          · have hne : nR = T.length + 1 := by have := HNR.out; rw [e, List.length_append] at this; exact this.symm
            have b1 : ((nR : Int) == (T.length : Int) + 1) = true := beq_iff_eq.2 (by omega)
            have hl1 : T.length < nR := by omega
            have hl2 : (T.length : Int) < nR := by omega
            obtain ⟨g6, c6', e6, hq1, hq2, -, hcell, -⟩ := ownsRow_at HXV.out (by rw [HNR.out]; omega)
            simp only [Value.slice.injEq] at e6
            obtain ⟨rfl, -, rfl⟩ := e6
            have hcy : w6.cell? ⟨g6, T.length, none⟩ = some (.string y) := by
              have := hcell T.length (strV y.data.toList) (by rw [e]; simp)
              rw [this]; unfold strV; rw [bytes_eta]
            have HE := Lib.hid e
            have hy : ¬ y.size = 0 := fun h => hM (by
              have := toList_length y
              rw [h] at this; exact List.eq_nil_of_length_eq_zero this)
            have hn1 := notEmpty y (by omega)
            have hn2 : (y.toList == (ByteArray.mk #[]).toList) = false := by
              rw [beq_eq_false_iff_ne, ByteArray.toList_eq, ByteArray.toList_eq]
              intro e
              have := congrArg List.length e
              rw [toList_length] at this
              exact hy this
            clear e hne hy hcell hM
            unfold maxLen at hq2
            go_wp2_with fail
            go_meet
            case rel => exact ⟨rfl, _, rfl, .inr ⟨rfl, HE.out⟩⟩
        case rest =>
          obtain ⟨rfl, bb, rfl, hbb⟩ := hcut
          have HBB := Lib.hid hbb
          clear hbb HRR
          go_upto_if 79 with fail
          go_cut [8] (fun vt' wx => WorkRel w bd ps m k nl p R R vt' wx ∧ Texts wx (.slice a6 nR c6) R)
          case first =>
            rcases HBB.out with ⟨rfl, e⟩ | ⟨rfl, e⟩
            · have HW2 : Hid (WorkRel w bd ps m k nl p R R (.slice a8 T.length c8) w6) := by have := HW.out; rw [← e] at this; rw [← e]; exact this
              clear e
              go_wp2_with fail
              go_meet
              case rel => exact ⟨HW2.out, HXV.out⟩
            · have HE := Lib.hid e
              have hown : Own w6 9 1 (.slice a8 T.length c8) T.length (T.map strV) := by obtain ⟨_, _, _, _, _, _, _, _, _, hx, _⟩ := HW.out; exact hx
              have hTl2 : T.length + 1 ≤ 150000 := by
                have := HW.out.count
                rw [e, List.length_append] at this
                exact this
              clear e
              go_wp2_with (at_builtin; go_loud (refine wpList_app1 (by rfl) (by rfl) Tryd.underlying23 infoStr rfl (by decide) (by rfl) hown (by rfl) (by rfl) ?c1 ?c2 ?c3 ?c4))
              case c1 => simp [Value.oneCell']
              case c2 => unfold maxLen; omega
              case c3 => omega
              case c4 =>
                intro v' w7 ho hk7 hf
                have HG7 : Hid (WorkRel w bd ps m k nl p R R v' w7 ∧ Texts w7 (.slice a6 nR c6) R) := by
                  have hx7 : Texts w7 v' (T ++ [y.data.toList]) := by
                    have := ho; unfold Texts strV at *; simpa using this
                  have h7 := HW.out.grow (by omega) hx7 hk7 hf
                  rw [← HE.out] at h7
                  exact ⟨h7, ownsRow_keeps hk7 HXV.out (fun x hx hx' => HDI.out x hx hx')⟩
                clear ho hk7 hf hown
                go_wp2_with fail
                go_meet
                case rel => exact HG7.out
          case rest =>
            obtain ⟨hW2, hX2⟩ := hcut
            have hx8 : Texts wc u8 R := by obtain ⟨_, _, _, _, _, _, _, _, _, hx, _⟩ := hW2; exact hx
            have hX2' : Texts wc (.slice a6 R.length c6) R := by rw [HNR.out]; exact hX2
            have heq := equal_any (.slice a6 R.length c6) u8 R R wc (Sees.of_own (by rw [List.length_map]; exact hX2')) (Sees.of_own (by rw [List.length_map]; exact hx8))
            rw [decide_eq_true (rfl : R = R), HNR.out] at heq
            have HEq := Lib.hid heq
            have HW2 := Lib.hid hW2
            clear heq hx8 hX2 hX2' hW2 HW HXV HDI HBB hTl
            go_wp2_with fail
            refine (HEq.out).mono ?_
            rintro e w8 ⟨rfl, hk8⟩
            have HW8 := Lib.hid (HW2.out.quiet hk8)
            clear hk8 HEq HW2
            go_wp2_with fail
            go_loopg [8, 9, 10, 14] (nb - j) (fun g vt vm vi ve wr => ∃ (i : Nat), i ≤ nb ∧ g = nb - i ∧ vi = .int .i64 i ∧ ((ve = .int .i64 0 ∧ vm = .string ⟨#[]⟩ ∧ ∃ R, WorkRel w bd ps m k nl p R R vt wr) ∨ (ve = .int .i64 11 ∧ k < nl ∧ ∃ R y, vm = .string y ∧ OffRel w bd ps m k R y.data.toList vt wr)))
            case atStart => exact ⟨j, hj, rfl, rfl, .inl ⟨rfl, rfl, R, HW8.out⟩⟩
            case round =>
              obtain ⟨i, hi, hgi, rfl, hst⟩ := hrel
              have HGI := Lib.hid hgi
              clear hgi HW8
              rcases hst with ⟨rfl, rfl, R2, hW⟩ | ⟨rfl, hlt, R2, y2, rfl, hOff⟩
              · by_cases hib : i < nb
                · have hlt' : i < bs.length := by omega
                  obtain ⟨b, off, rfl, hb, hcell⟩ := HC.out.resolve_left (by intro h; have := congrArg List.length h; simp at this; rw [this] at hlt'; simp at hlt')
                  have hck : wr.cell? ⟨b, off + i, none⟩ = some (strV bs[i]) := hW.keeps.cell (hcell i _ (by simp [List.getElem?_eq_getElem hlt'])) (by simp)
                  have hbz := HBZ.out _ (List.getElem_mem hlt')
                  have HW := Lib.hid hW
                  clear hW
                  generalize bs[i] = x at hck hbz
                  unfold strV at hck
                  have hxz : (ByteArray.mk x.toArray).size ≤ maxLen := by rw [size_mk]; exact hbz
                  generalize ByteArray.mk x.toArray = s at hck hxz
                  unfold maxLen at hxz
                  obtain ⟨c, hc⟩ : ∃ c, c = min s.size 500 := ⟨_, rfl⟩
                  have hcm : min (s.size : Int) 500 = (c : Int) := by omega
                  have hc1' : c ≤ s.size := by omega
                  have hc2' : c ≤ 500 := by omega
                  have hc3' : (0 : Int) ≤ c := by omega
                  have hc4' : (c : Int) ≤ s.size := by omega
                  have hyz : (s.extract 0 c).size ≤ maxLen := by rw [ByteArray.size_extract]; unfold maxLen; omega
                  have HYZ := Lib.hid hyz
                  clear hcell hb hbz hc hyz
                  go_wp2_with fail
                  go_quiet (fail)
                  have HA := Lib.hid ((HW.out.quiet (Keeps.drewN wr nq)).app (s.extract 0 c) HYZ.out)
                  clear HW hck hcm hc1' hc2' hc3' hc4' HYZ hxz
                  generalize s.extract 0 c = z at HA ⊢
                  unfold ptrV at HA
                  go_wp2_with fail
                  refine (HA.out).mono ?_
                  rintro e w9 (⟨rfl, hW9⟩ | ⟨rfl, hlt9, hOff9⟩ | ⟨cc, h0, h11, rfl, hW9⟩)
                  · have hown : Own w9 9 1 u8 R2.length (R2.map strV) := by obtain ⟨_, _, _, _, _, _, _, _, _, hx, _⟩ := hW9; exact hx
                    have hcnt : R2.length + 1 ≤ 150000 := by have := hW9.count; rw [List.length_append] at this; exact this
                    have HW9 := Lib.hid hW9
                    clear hW9 HA
                    go_wp2_with (at_builtin; go_loud (refine wpList_app1 (by rfl) (by rfl) Tryd.underlying23 infoStr rfl (by decide) (by rfl) hown (by rfl) (by rfl) ?d1 ?d2 ?d3 ?d4))
                    case d1 => simp [Value.oneCell']
                    case d2 => unfold maxLen; omega
                    case d3 => omega
                    case d4 =>
                      intro v' w10 ho hk10 hf
                      have HG10 : Hid (WorkRel w bd ps m k nl p (R2 ++ [z.data.toList]) (R2 ++ [z.data.toList]) v' w10) := by
                        have hx10 : Texts w10 v' (R2 ++ [z.data.toList]) := by
                          have := ho; unfold Texts strV at *; simpa using this
                        exact HW9.out.grow (by omega) hx10 hk10 hf
                      clear ho hk10 hf hown
                      go_wp2_with fail
                      go_roundg (nb - (i + 1))
                      case measure => have := HGI.out; omega
                      case rel => exact ⟨i + 1, by omega, rfl, by go_num, .inl ⟨rfl, rfl, _, HG10.out⟩⟩
                  · have HO9 := Lib.hid hOff9
                    clear hOff9 HA
                    go_wp2_with fail
                    go_roundg (nb - (i + 1))
                    case measure => have := HGI.out; omega
                    case rel => exact ⟨i + 1, by omega, rfl, by go_num, .inr ⟨rfl, hlt9, _, _, rfl, HO9.out⟩⟩
                  · have HW9 := Lib.hid hW9
                    clear hW9 HA
                    go_wp2_with fail
                    go_roundg (nb - (i + 1))
                    case measure => have := HGI.out; omega
                    case rel => exact ⟨i + 1, by omega, rfl, by go_num, .inl ⟨rfl, rfl, _, HW9.out⟩⟩
                · have HOn := Lib.hid hW.on
                  clear hW
                  unfold ptrV at HOn
                  go_wp2_with fail
                  refine (HOn.out).mono ?_
                  rintro e w9 ⟨rfl, hR9⟩
                  have HO9 := Lib.hid (hR9.opened hm3 (by omega) (by omega))
                  clear hR9 HOn
                  unfold ptrV at HO9
                  go_wp2_with fail
                  refine (HO9.out).mono ?_
                  rintro e w10 ⟨p10, v10, ts, rfl, hx10, hx11, hR10⟩
                  have heq := equal_any v10 u8 ts ts w10 (Sees.of_own (by rw [List.length_map]; exact hx10)) (Sees.of_own (by rw [List.length_map]; exact hx11))
                  rw [decide_eq_true (rfl : ts = ts)] at heq
                  obtain ⟨a10, c10, rfl⟩ := ownsRow_form hx10
                  have HEq := Lib.hid heq
                  have HR10 := Lib.hid hR10
                  clear heq hx10 hx11 hR10 HO9
                  unfold ptrV
                  go_wp2_with fail
                  refine (HEq.out).mono ?_
                  rintro e w11 ⟨rfl, hk11⟩
                  have HR11 := Lib.hid (HR10.out.quiet hk11)
                  clear hk11 HR10 HEq
                  go_wp2_with fail
                  go_ret
                  obtain ⟨_, _, _, _, _, _, _, _, _, _, _, _, hkp⟩ := HR11.out
                  exact ⟨rfl, hkp⟩
              · have HOn := Lib.hid hOff.on
                have bk : decide ((nl : Int) ≤ (k : Int)) = false := decide_eq_false (by omega)
                have bk2 : ¬ nl ≤ k := by omega
                have hk3 : k + 1 ≤ nl := by omega
                clear hOff
                unfold ptrV at HOn
                by_cases hib : i < nb
                · go_wp2_with fail
                  refine (HOn.out).mono ?_
                  rintro e w9 ⟨rfl, hR9⟩
                  have HR9 := Lib.hid hR9
                  clear hR9 HOn
                  go_wp2_with fail
                  go_roundg (nl + 1 - (k + 1))
                  case measure => have := HG.out; omega
                  case rel => exact ⟨k + 1, i, R2, y2, hk3, rfl, by go_num, hi, rfl, rfl, HR9.out⟩
                · go_wp2_with fail
                  refine (HOn.out).mono ?_
                  rintro e w9 ⟨rfl, hR9⟩
                  have HR9 := Lib.hid hR9
                  clear hR9 HOn
                  go_wp2_with fail
                  go_roundg (nl + 1 - (k + 1))
                  case measure => have := HG.out; omega
                  case rel => exact ⟨k + 1, i, R2, y2, hk3, rfl, by go_num, hi, rfl, rfl, HR9.out⟩
      · have HOn := Lib.hid hOff.on
        have bk : decide ((nl : Int) ≤ (k : Int)) = false := decide_eq_false (by omega)
        have bk2 : ¬ nl ≤ k := by omega
        have hk3 : k + 1 ≤ nl := by omega
        clear hOff HO
        unfold ptrV at HOn
        go_wp2_with fail
        refine (HOn.out).mono ?_
        rintro e w9 ⟨rfl, hR9⟩
        have HR9 := Lib.hid hR9
        clear hR9 HOn
        go_wp2_with fail
        go_roundg (nl + 1 - (k + 1))
        case measure => have := HG.out; omega
        case rel => exact ⟨k + 1, j, T, y, hk3, rfl, by go_num, hj, rfl, rfl, HR9.out⟩
end Go.Proofs.YtepnbfpclhincaaDoor

namespace Go.Proofs.YtepnbfpclhincaaDoor
open Go.ChangeShapes Go.WideShapes Go.RowKit Go.Deep Go.Joins

theorem cellsLoss : Tryd.prog.cellsOf 45 = 2 := by kernel_rfl
theorem cellsInt : Tryd.prog.cellsOf 3 = 1 := by kernel_rfl
theorem cellsU64 : Tryd.prog.cellsOf 43 = 1 := by kernel_rfl
theorem int_wf {n : Int} (h : (Lit.int .i64 n).wf = true) : n ≤ 9223372036854775807 := by
  simp [Lit.wf, IntKind.min, IntKind.max, IntKind.signed, IntKind.bits] at h; omega
theorem u64_wf {n : Int} (h : (Lit.int .u64 n).wf = true) : 0 ≤ n ∧ n < 2 ^ 64 := by
  simp [Lit.wf, IntKind.min, IntKind.max, IntKind.signed, IntKind.bits] at h; omega
set_option maxRecDepth 100000 in
theorem sees_losses {H : Type} {enc : TypeId × Value → H} {W : World} {base : Nat} {v : Value} {d : DataW H} {p : List MemPlace} (hval : Value.okWide Tryd.prog W .any base 41 v)
    (h : DataW.Trod enc Tryd.prog W 0 (fun _ => true) true 41 v d p) : ∃ ls : List (Int × Nat), SeesL W v ls ∧ ∀ x ∈ ls, x.1 ≤ 9223372036854775807 ∧ x.2 < 2 ^ 64 := by
  obtain ⟨a0, len0, cap0, rfl⟩ := okWide_slice Tryd.underlying41 hval
  obtain ⟨fuel, hf⟩ := h
  rcases open_slice_pairs Tryd.underlying41 Tryd.underlying45 cellsLoss rfl rfl cellsInt cellsU64 hf with ⟨hcs, hx⟩ | ⟨a, len, cap, m, n, V0, V1, D0, D1, P0, P1, hcs, _, hl, hm, hmm, hx, hi⟩
  · simp [Value.cells] at hcs
    obtain ⟨rfl, rfl, rfl⟩ := hcs
    exact ⟨[], ⟨_, _, rfl, Nat.le_refl _, by simp [maxLen], .inl rfl⟩, by simp⟩
  · simp [Value.cells] at hcs
    obtain ⟨rfl, rfl, rfl⟩ := hcs
    simp only [if_true] at hmm
    have hr : ∀ i, i < m → ∃ N : Int, ∃ K : Int, V0 i = .int .i64 N ∧ V1 i = .int .u64 K ∧ N ≤ 9223372036854775807 ∧ 0 ≤ K ∧ K < 2 ^ 64 := fun i h => by
      obtain ⟨_, _, h0, h1⟩ := hi i h
      obtain ⟨N, e0, _, w0⟩ := DataW.trod_int Tryd.underlying3 h0
      obtain ⟨K, e1, _, w1⟩ := DataW.trod_int Tryd.underlying43 h1
      simp only [List.cons.injEq, and_true] at e0 e1
      exact ⟨N, K, e0, e1, int_wf w0, u64_wf w1⟩
    refine ⟨(List.range len0).map fun i => (intOf (V0 i), (intOf (V1 i)).toNat), ⟨some a, cap0, by simp, by simpa using hl, hm, ?_⟩, ?_⟩
    · by_cases h0 : len0 = 0
      · subst h0; exact .inl rfl
      · obtain ⟨hc0, _, _, _⟩ := hi 0 (by omega)
        rw [Nat.zero_mul] at hc0
        have e0 : a.add 0 = a := by simp [Addr.add]
        rw [e0] at hc0
        have hsp := World.cell?_spot hc0
        have ha : a = ⟨a.block, a.off, none⟩ := by cases a; simp_all
        have hadd : ∀ j, a.add j = ⟨a.block, a.off + j, none⟩ := fun j => by
          unfold Addr.add; split
          · subst_vars; exact ha
          · rfl
        refine .inr ⟨a.block, a.off, congrArg some ha, World.block_lt_of_cell? W a hc0, fun j x hj => ?_⟩
        rw [List.getElem?_map, Option.map_eq_some_iff] at hj
        obtain ⟨j', hj', rfl⟩ := hj
        have hlt : j < len0 := by have := getElem?_lt hj'; simpa using this
        rw [List.getElem?_range hlt] at hj'
        injection hj' with hj'; subst hj'
        obtain ⟨c0, c1, _, _⟩ := hi j (by omega)
        obtain ⟨N, K, e0, e1, _, k0, _⟩ := hr j (by omega)
        rw [hadd] at c0 c1
        rw [e0] at c0; rw [e1] at c1
        refine ⟨by rw [c0, e0]; rfl, ?_⟩
        rw [e1]
        show W.cell? ⟨a.block, a.off + j * 2 + 1, none⟩ = some (u64V K.toNat)
        rw [show a.off + j * 2 + 1 = a.off + (j * 2 + 1) by omega, c1]
        unfold u64V
        rw [Int.toNat_of_nonneg k0]
    · intro x hx
      obtain ⟨i, hi', rfl⟩ := List.mem_map.1 hx
      obtain ⟨N, K, e0, e1, h1, h2, h3⟩ := hr i (by have := List.mem_range.1 hi'; omega)
      rw [e0, e1]
      exact ⟨h1, by show K.toNat < 2 ^ 64; omega⟩
end Go.Proofs.YtepnbfpclhincaaDoor

namespace Go.Proofs.YtepnbfpclhincaaDoor
open Go.ChangeShapes Go.WideShapes Go.ChangeMaps Go.RowKit

set_option maxRecDepth 100000 in
theorem streamLasts_walk : LawWalk 6 Tryd.f6 := by
  intro H enc W base args ds p hval hA hlt
  rw [Tryd.params6] at hA hval
  obtain ⟨v0, v1, v2, d0, d1, d2, p0, p1, p2, rfl, rfl, rfl, h0, h1, h2⟩ := trodAll_three hA
  obtain ⟨n, rfl, rfl, rfl, hn⟩ := open_int Tryd.underlying3 (hval 0 3 v0 rfl rfl) h0
  obtain ⟨bs, hb, hbz⟩ := sees_strings (hval 1 23 v1 rfl rfl) h1 (fun x hx => hlt x (by simp [hx]))
  obtain ⟨ls, hl, hlz⟩ := sees_losses (hval 2 41 v2 rfl rfl) h2
  exact (StreamLasts_true n (int_wf hn) v1 bs v2 ls W hb hbz hl hlz).mono fun e W' ⟨he, hk⟩ => ⟨he, hk.below⟩

set_option maxRecDepth 100000 in
theorem streamLasts_lifted (os : Os) (started : os.Started) (H : Type) (enc : TypeId × Value → H) :
    ReturnsInHanded {} Tryd.checked os 6 .any (fun w args => (Rows.streamLastsSpec.pre enc Tryd.prog Tryd.f6 [] false w args ∧ laidMetH Tryd.prog Rows.streamLastsRow.laid w) ∧ sizedMet enc Tryd.prog Tryd.f6 (OpenSpec.ofChange Rows.streamLastsSpec) false w args)
      (Rows.streamLastsSpec.post enc Tryd.prog Tryd.f6 false true false false) :=
  law_lifted (f := 6) (fn := Tryd.f6) Tryd.func6 (by kernel_rfl) (by kernel_rfl) (by kernel_rfl) (s := Rows.streamLastsSpec) rfl (fun H ds hl => by
    have hl' : ds.length = 3 := hl
    match ds, hl' with
    | [d0, d1, d2], _ => rfl)
    (laid := Rows.streamLastsRow.laid) os started H enc
    (ChangeSpec.witness_shaped (enc := enc) (C := Tryd.checked) (os := os) (X := fun w _ => laidMetH Tryd.prog Rows.streamLastsRow.laid w) false (World.laidAll Tryd.prog os Rows.streamLastsRow.laid) #[.int .i64 0, .slice none 0 0, .slice none 0 0] 8 (World.laidAll_os _ _ _)
      (World.shaped_of_ZipB (by kernel_rfl) (by kernel_rfl)) (by kernel_rfl) (by kernel_rfl) (by kernel_rfl)
      (by rw [MakeChecks.laidMetH_plain _ _ _ (by kernel_rfl)]; exact laidMet_laidAll _ (by kernel_rfl) (by kernel_rfl)))
    streamLasts_walk

theorem streamLasts_said : Rows.StreamLastsSaid :=
  OpenClaim.holds_of_wide 6 Tryd.f6 rfl rfl rfl rfl rfl rfl rfl ⟨rfl, rfl, rfl, rfl, rfl⟩ rfl rfl rfl rfl rfl (by kernel_rfl) Tryd.func6 (by kernel_rfl)
    (of_decide_eq_true (by kernel_rfl)) (by unfold Func.isWrapper; first | (rw [if_pos (by decide +kernel)]; kernel_rfl) | (rw [if_neg (by decide +kernel)]; exact ⟨rfl, rfl⟩))
    (fun os started H enc _ => streamLasts_lifted os started H enc)

/-- The card. -/
theorem streamLasts_holds : Rows.StreamLastsCardSaid :=
  Claim7.holds_tied_plain_at .later [] _ _ _ _ streamLasts_said (fun _ h => by cases h) (by kernel_rfl) (fun _ h => by cases h) streamLasts_row_tie rfl ⟨rfl, rfl⟩ (by kernel_rfl) rfl
    (fun f fn hf hfn => by
      obtain rfl : f = 6 := Option.some.inj ((show Tryd.prog.funcNamed "precinct/precinctlaw08.StreamLasts" = some 6 by kernel_rfl).symm.trans hf) |>.symm
      obtain rfl : fn = Tryd.f6 := (Option.some.inj (Tryd.func6.symm.trans hfn)).symm
      exact ⟨by kernel_rfl, fun j t ht => by
        rw [Tryd.params6] at ht
        have hm : t ∈ [3, 23, 41] := by simpa using Array.mem_of_getElem? ht
        have hall : ([3, 23, 41].all fun u => !Tryd.prog.wantsStandIn u) = true := by kernel_rfl
        exact (show Tryd.prog.wantsStandIn t = false by simpa using List.all_eq_true.1 hall t hm)⟩)
    (by kernel_rfl)
end Go.Proofs.YtepnbfpclhincaaDoor
