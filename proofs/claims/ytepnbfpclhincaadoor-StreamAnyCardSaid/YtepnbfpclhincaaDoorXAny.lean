/-
  Whatever lies in a region, what it is opened with is opened again the same: for every size, image and bodies.
  StreamAny: whatever lies in a region, what it is opened with is opened again the same, and what is appended then stands behind it: the law returns true for every size, image and bodies; nothing that was there is changed. Conditions: the two listed library tables hold what the program lays in them (the card ties them).
-/
import Derived.Test.YtepnbfpclhincaaDoorMG
import Derived.Test.YtepnbfpclhincaaDoorMF
set_option linter.unusedVariables false
set_option linter.unusedSimpArgs false
namespace Go.Proofs.YtepnbfpclhincaaDoor
open Go.RowKit

/-- At work: the stream, and the texts that a slice of the law holds. -/
def AnyRel (w : World) (bd : Nat) (ps : List Nat) (p m sz g : Nat) (v : Value) (wr : World) : Prop :=
  ∃ F D l S ts, Live wr bd ps F D p l S ts ∧ D.tleft = 0 ∧ l.length = m ∧ S.sz = sz ∧ S.gen = g ∧ Texts wr v ts ∧ (∀ x ∈ F, w.heap.size ≤ x) ∧ (∀ k, k ∈ own v → w.heap.size ≤ k ∧ k ≠ p ∧ k ∉ F) ∧ Keeps [] w wr
/-- At rest: the disk, and the texts. -/
def RestRel (w : World) (bd : Nat) (ps : List Nat) (m g : Nat) (v : Value) (wr : World) : Prop :=
  ∃ F D l ts, Rest wr bd ps F D l ∧ l.length = m ∧ openRecs l = ts ∧ (openS l).gen ≤ g ∧ (framesL ts).length ≤ (openS l).sz * 55 - 1 ∧ Texts wr v ts ∧ (∀ x ∈ F, w.heap.size ≤ x) ∧ (∀ k, k ∈ own v → w.heap.size ≤ k ∧ k ∉ F) ∧ Keeps [] w wr
theorem AnyRel.rest {w wr : World} {bd p m sz g : Nat} {ps : List Nat} {v : Value} (h : AnyRel w bd ps p m sz g v wr) : RestRel w bd ps m g v wr := by
  obtain ⟨F, D, l, S, ts, hL, ht, hl, -, hg, hx, hF, hv, hk⟩ := h
  have ho := hL.holds.open
  refine ⟨F, D, l, ts, hL.rest ht, hl, ho.1, by rw [ho.2]; exact Nat.le_of_eq hg, ?_, hx, hF, fun k hk => ⟨(hv k hk).1, (hv k hk).2.2⟩, hk⟩
  rw [ho.2, ← hL.holds.data]
  exact hL.holds.okay.data
theorem AnyRel.quiet {w wr w' : World} {bd p m sz g : Nat} {ps : List Nat} {v : Value} (h : AnyRel w bd ps p m sz g v wr) (k : Keeps [] wr w') : AnyRel w bd ps p m sz g v w' := by
  obtain ⟨F, D, l, S, ts, hL, ht, hl, hs, hg, hx, hF, hv, hk⟩ := h
  exact ⟨F, D, l, S, ts, hL.keeps k, ht, hl, hs, hg, ownsRow_keeps k hx (by simp), hF, hv, hk.trans k⟩
/-- A slice that was disjoint from what has moved is so still. -/
theorem own_moves {w wr w' : World} {F G : List Nat} {v : Value} (hv : ∀ k, k ∈ own v → w.heap.size ≤ k ∧ k ∉ F) (hlt : ∀ k, k ∈ own v → k < wr.heap.size) (hm : Moves F wr G w') : ∀ k, k ∈ own v → w.heap.size ≤ k ∧ k ∉ G := fun k hk =>
  ⟨(hv k hk).1, fun hg => (hm.2 k hg).elim (hv k hk).2 (fun h => by have := hlt k hk; omega)⟩
theorem AnyRel.gen {w wr : World} {bd p m sz g : Nat} {ps : List Nat} {v : Value} (h : AnyRel w bd ps p m sz g v wr) : Calls Tryd.prog 14 #[ptrV p] wr fun e w' => e = .returned (.int .i64 g) ∧ wr = w' := by
  obtain ⟨F, D, l, S, ts, hL, ht, hl, hs, hg, hx, hF, hv, hk⟩ := h
  rw [← hg]
  exact Gen_any wr p bd _ hL.st
def AnyApp (w : World) (bd : Nat) (ps : List Nat) (p m sz g : Nat) (v : Value) (b : List UInt8) (e : Ending) (w' : World) : Prop :=
  (∃ F D l S ts, e = .returned (.int .i64 0) ∧ Live w' bd ps F D p l S (ts ++ [b]) ∧ D.tleft = 0 ∧ l.length = m ∧ S.sz = sz ∧ S.gen = g ∧ Texts w' v ts ∧ ts.length ≤ 200000 ∧ (∀ x ∈ F, w.heap.size ≤ x) ∧ (∀ k, k ∈ own v → w.heap.size ≤ k ∧ k ≠ p ∧ k ∉ F) ∧ Keeps [] w w') ∨
  ∃ c : Int, (c == 0) = false ∧ e = .returned (.int .i64 c) ∧ AnyRel w bd ps p m sz g v w'
theorem AnyRel.app {w wr : World} {bd p m sz g : Nat} {ps : List Nat} {v : Value} (h : AnyRel w bd ps p m sz g v wr) (hpw : w.heap.size ≤ p) (s : ByteArray) (hz : s.size ≤ maxLen) :
    Calls Tryd.prog 11 #[ptrV p, .string s] wr (AnyApp w bd ps p m sz g v s.data.toList) := by
  have h' := h
  obtain ⟨F, D, l, S, ts, hL, ht, hl, hs, hg, hx, hF, hv, hk⟩ := h
  refine (Append_live_any wr bd p ps F D l ts S s hL ht hz).mono ?_
  rintro e w' (⟨F', D', l', rfl, hL', ht', hl', hm⟩ | ⟨c, hc, -, rfl, hk'⟩)
  · refine .inl ⟨F', D', l', _, ts, rfl, hL', ht', by rw [hl', hl], hs, hg, ?_, ?_, ?_, ?_, (hk.moves hm ?_).1⟩
    · exact ownsRow_keeps hm.1 hx (fun k hk hk' => (List.mem_cons.1 hk').elim (fun e => (hv k hk).2.1 e) (hv k hk).2.2)
    · have h1 := framesL_count ts
      have h2 := hL.holds.okay.data
      rw [hL.holds.data] at h2
      have h3 := hL.holds.okay.sz2
      omega
    · exact fun x hx => (hk.moves hm (fun x hx => (List.mem_cons.1 hx).elim (fun e => by rw [e]; exact hpw) (hF x))).2 x (List.mem_cons_of_mem _ hx)
    · intro k hk2
      have := own_moves (w := w) (F := p :: F) (v := v) (fun k hk => ⟨(hv k hk).1, fun hm => (List.mem_cons.1 hm).elim (hv k hk).2.1 (hv k hk).2.2⟩) (ownsRow_lt hx) hm k hk2
      exact ⟨this.1, fun e => this.2 (by rw [e]; exact List.mem_cons_self ..), fun hF => this.2 (List.mem_cons_of_mem _ hF)⟩
    · exact fun x hx => (List.mem_cons.1 hx).elim (fun e => by rw [e]; exact hpw) (hF x)
  · exact .inr ⟨c, beq_eq_false_iff_ne.2 hc, rfl, h'.quiet hk'⟩
/-- The texts have grown by one. -/
theorem AnyRel.grow {w w5 w6 : World} {bd p m sz g : Nat} {ps F : List Nat} {D : DiskM} {l ts : List (List UInt8)} {S : StM} {v v' : Value} {b : List UInt8} (hpw : w.heap.size ≤ p) (hL : Live w5 bd ps F D p l S (ts ++ [b])) (ht : D.tleft = 0) (hl : l.length = m) (hs : S.sz = sz) (hg : S.gen = g)
    (hF : ∀ x ∈ F, w.heap.size ≤ x) (hv : ∀ k, k ∈ own v → w.heap.size ≤ k ∧ k ≠ p ∧ k ∉ F) (hk : Keeps [] w w5) (hx : Texts w6 v' (ts ++ [b])) (hk6 : Keeps (own v) w5 w6) (hf : ∀ k, k ∈ own v' → k ∈ own v ∨ w5.heap.size ≤ k) : AnyRel w bd ps p m sz g v' w6 := by
  refine ⟨F, D, l, S, ts ++ [b], ⟨hL.disk.keeps hk6 (fun k hk hk' => (hv k hk').2.2 hk), hL.up, hL.st.keeps hk6 (fun h => (hv p h).2.1 rfl), hL.out, hL.holds⟩, ht, hl, hs, hg, hx, hF, fun k hk' => ?_, hk.trans' hk6 (fun x hx hl => by have := (hv x hx).1; omega)⟩
  rcases hf k hk' with h | h
  · exact hv k h
  · have h1 := hk.size
    have h2 := hL.st.lt
    exact ⟨by omega, by omega, fun hF' => by have := hL.disk.lt k hF'; omega⟩
/-- One more round of Crash and Open. -/
theorem RestRel.crash {w wr : World} {bd m g : Nat} {ps : List Nat} {v : Value} (h : RestRel w bd ps m g v wr) :
    Calls Tryd.prog 17 #[ptrV bd, .slice none 0 0] wr fun e w' => e = .returned (.tuple #[]) ∧ RestRel w bd ps m g v w' := by
  obtain ⟨F, D, l, ts, hR, hl, ho, hg, hf, hx, hF, hv, hk⟩ := h
  refine (Crash_rest wr bd ps F D l hR).mono ?_
  rintro e w' ⟨rfl, F', D', hR', hm⟩
  have := hk.moves hm hF
  exact ⟨rfl, F', D', l, ts, hR', hl, ho, hg, hf, ownsRow_keeps hm.1 hx (fun k hk => (hv k hk).2), this.2, own_moves hv (ownsRow_lt hx) hm, this.1⟩
def OpenedPost (w : World) (bd : Nat) (ps : List Nat) (m g : Nat) (v : Value) (e : Ending) (w' : World) : Prop :=
  ∃ p v' ts, e = .returned (.tuple #[ptrV p, v', .int .i64 0]) ∧ Texts w' v' ts ∧ Texts w' v ts ∧ RestRel w bd ps m g v w'
theorem RestRel.opened {w wr : World} {bd m g : Nat} {ps : List Nat} {v : Value} (h : RestRel w bd ps m g v wr) (hm3 : 3 ≤ m) (hm4 : m ≤ 4096) (hg' : g < 281474976710655) :
    Calls Tryd.prog 8 #[ptrV bd, .int .i64 0] wr (OpenedPost w bd ps m (g + 1) v) := by
  obtain ⟨F, D, l, ts, hR, hl, ho, hg, hf, hx, hF, hv, hk⟩ := h
  have hnf : ¬ openFull l := by unfold openFull; rw [ho]; omega
  refine (Open_live wr bd ps F D l hR.disk hR.up hR.l64 (by omega) (by omega) hnf hR.left).mono ?_
  rintro e w' ⟨p, v', F', D', l', rfl, hL, ht, hl', hx', hn', hv', hp, hm⟩
  rw [ho] at hx' hL
  have hop := hL.holds.open
  have := hk.moves hm hF
  have hx2 : Texts w' v ts := ownsRow_keeps hm.1 hx (fun k hk => (hv k hk).2)
  refine ⟨p, v', ts, rfl, hx', hx2, F', D', l', ts, hL.rest ht, by rw [hl', hl], hop.1, ?_, ?_, hx2, this.2, own_moves hv (ownsRow_lt hx) hm, this.1⟩
  · rw [hop.2]; show (openS l).gen + 1 ≤ g + 1; omega
  · rw [hop.2]; exact hf
theorem RestRel.quiet {w wr w' : World} {bd m g : Nat} {ps : List Nat} {v : Value} (h : RestRel w bd ps m g v wr) (k : Keeps [] wr w') : RestRel w bd ps m g v w' := by
  obtain ⟨F, D, l, ts, hR, hl, ho, hg, hf, hx, hF, hv, hk⟩ := h
  exact ⟨F, D, l, ts, hR.keeps k, hl, ho, hg, hf, ownsRow_keeps k hx (by simp), hF, hv, hk.trans k⟩

set_option maxRecDepth 100000 in
set_option maxHeartbeats 8000000 in
theorem StreamAny_true (n : Int) (hn : n ≤ 9223372036854775807) (s : ByteArray) (hs : s.size ≤ maxLen) (v : Value) (bs : List (List UInt8)) (w : World) (hv : Sees w v (bs.map strV)) (hbz : ∀ b ∈ bs, b.length ≤ maxLen) :
    Calls Tryd.prog 5 #[.int .i64 n, .string s, v] w fun e w' => e = .returned (.bool true) ∧ Keeps [] w w' := by
  obtain ⟨av, cap, rfl, hc1, hc2, hcell⟩ := hv
  rw [List.length_map] at *
  have HC := Lib.hid hcell; clear hcell
  have HBZ := Lib.hid hbz; clear hbz
  unfold maxLen at hc2
  obtain ⟨m0, hm0⟩ : ∃ m : Nat, max (0 : Int) n = m := ⟨(max 0 n).toNat, by omega⟩
  have hm0b : m0 ≤ 9223372036854775807 := by omega
  obtain ⟨m, hm⟩ : ∃ m : Nat, m = 3 + m0 % 60 := ⟨_, rfl⟩
  have hm3 : 3 ≤ m := by omega
  have hm4 : m ≤ 62 := by omega
  have hq : 3 + (m0 : Int) % 60 = (m : Int) := by omega
  have hfs : ∀ w1 v1, Sees w1 v1 [intV m] → Calls Tryd.prog 9 #[v1] w1 fun e w' => ∃ bd ps F D, e = .returned (ptrV bd) ∧ DiskAt w' bd ps D F ∧ Up D (List.replicate m noneL) ∧ D.tleft = 0 ∧ (∀ x, x ∈ F → w1.heap.size ≤ x) ∧ Keeps [] w1 w' := fun w1 v1 h => New1 v1 m w1 h (by omega) (by omega)
  have HN := Lib.hid hfs
  have HSZ := Lib.hid hs
  obtain ⟨nb, hnb⟩ : ∃ nb, nb = min bs.length 20 := ⟨_, rfl⟩
  have hmin : min (bs.length : Int) 20 = (nb : Int) := by omega
  have hnb1 : nb ≤ bs.length := by omega
  have hnb2 : nb ≤ cap := by omega
  have hnb3 : (nb : Int) ≤ cap := by omega
  clear hfs hm hnb hs
  go_enter Tryd.func5, Tryd.ntmps5
  go_wp2_with fail
  refine (HN.out _ _ (Sees.alloc1 _ _ _ rfl)).mono ?_
  rintro e w1 ⟨bd, ps, F, D, rfl, hD, hU, ht, hF, hk⟩
  have HK1 : Hid (Keeps [] w w1) := ((Keeps.refl [] w).alloc _).trans hk
  have HLy := Lib.hid (Lay_one w1 bd ps F D (List.replicate m noneL) s hD hU (by simp; omega) HSZ.out ht)
  have HF : Hid (∀ x ∈ F, w.heap.size ≤ x) := fun x hx => by have := hF x hx; simp at this; omega
  clear hD hU ht hF hk HN
  unfold ptrV at HLy ⊢
  go_wp2_with fail
  refine (HLy.out).mono ?_
  rintro e w2 ⟨rfl, F2, D2, hD2, hU2, ht2, hm2⟩
  rw [List.length_replicate] at hU2
  have hl0 := layL_length m s.data.toList
  have h64 := layL_64 m s.data.toList
  generalize layL m s.data.toList = l0 at hU2 hl0 h64
  have HX := Lib.hid (HK1.out.moves hm2 HF.out)
  have HR2 : Hid (Rest w2 bd ps F2 D2 l0) := ⟨hD2, hU2, ht2, h64⟩
  have HO := Lib.hid (Open_rest w2 bd ps F2 D2 l0 HR2.out (by omega) (by omega))
  have HL0 := Lib.hid hl0
  clear hD2 hU2 ht2 hm2 hl0 h64 HK1 HF HLy HSZ HR2
  unfold ptrV at HO
  go_wp2_with fail
  refine (HO.out).mono ?_
  rintro e w3 (⟨-, rfl, hk3⟩ | ⟨-, p, v3, F3, D3, l3, rfl, hL3, ht3, hl3, htx3, hnw3, hvn3, hp3, hm3⟩)
  · have HK3 : Hid (Keeps [] w w3) := HX.out.1.trans hk3
    clear hk3 HO
    go_wp2_with fail
    refine (wakes_true _).mono ?_
    rintro e w4 ⟨rfl, hk4⟩
    have HK4 : Hid (Keeps [] w w4) := HK3.out.trans hk4
    clear hk4 HK3
    go_wp2_with fail
    refine (wakes_true _).mono ?_
    rintro e w5 ⟨rfl, hk5⟩
    have HK5 : Hid (Keeps [] w w5) := HK4.out.trans hk5
    clear hk5 HK4
    go_wp2_with fail
    go_ret
    exact ⟨rfl, HK5.out⟩
  · have hx := HX.out.1.moves hm3 HX.out.2
    have hpw : w.heap.size ≤ p := by have := HX.out.1.size; omega
    have HP := Lib.hid hpw
    obtain ⟨g, hg⟩ : ∃ g, g = (openS l0).gen + 1 := ⟨_, rfl⟩
    have HR3 : Hid (AnyRel w bd ps p m (openS l0).sz g v3 w3) := ⟨F3, D3, l3, _, _, hL3, ht3, by rw [hl3, HL0.out], rfl, hg.symm, htx3, hx.2, fun k hk => ⟨by have := hnw3 k hk; have := HX.out.1.size; omega, hvn3 k hk⟩, hx.1⟩
    obtain ⟨a3, c3, rfl⟩ := ownsRow_form htx3
    generalize (openRecs l0).length = n3 at HR3
    clear hL3 ht3 hl3 htx3 hnw3 hvn3 hp3 hm3 hx hg HO HX hpw
    generalize (openS l0).sz = sz at HR3
    unfold ptrV
    go_wp2_with fail
    refine (wakes_true _).mono ?_
    rintro e w4 ⟨rfl, hk4⟩
    have HR4 := Lib.hid (HR3.out.quiet hk4)
    have HG := Lib.hid HR4.out.gen
    clear hk4 HR3
    unfold ptrV at HG
    by_cases hgl : 281474976710647 < g
    · have bg : decide ((281474976710647 : Int) < (g : Int)) = true := decide_eq_true (by omega)
      have bg2 : (281474976710647 : Int) < (g : Int) := by omega
      go_wp2_with fail
      refine (HG.out).mono ?_
      rintro e w5 ⟨rfl, rfl⟩
      clear HG
      go_wp2_with fail
      go_ret
      obtain ⟨_, _, _, _, _, _, _, _, _, _, _, _, _, hk⟩ := HR4.out
      exact ⟨rfl, hk⟩
    · have bg : decide ((281474976710647 : Int) < (g : Int)) = false := decide_eq_false (by omega)
      have bg2 : (g : Int) ≤ 281474976710647 := by omega
      go_wp2_with fail
      refine (HG.out).mono ?_
      rintro e w5 ⟨rfl, rfl⟩
      clear HG
      go_wp2_with fail
      go_loopw [9, 60] (fun v i wr => ∃ k : Nat, k ≤ nb ∧ i = .int .i64 k ∧ AnyRel w bd ps p m sz g v wr) (fun _ i _ => nb - (intOf i).toNat)
      case atStart => exact ⟨0, by omega, rfl, HR4.out⟩
      case round =>
        obtain ⟨k, hk, rfl, hR⟩ := hrel
        have HR := Lib.hid hR
        clear HR4
        by_cases hlt : k < nb
        · have hlt' : k < bs.length := by omega
          obtain ⟨b, off, rfl, hb, hcell⟩ := HC.out.resolve_left (by intro h; have := congrArg List.length h; simp at this; rw [this] at hlt'; simp at hlt')
          have hck : wr.cell? ⟨b, off + k, none⟩ = some (strV bs[k]) := by
            obtain ⟨_, _, _, _, _, _, _, _, _, _, _, _, _, hkp⟩ := hR
            exact hkp.cell (hcell k _ (by simp [List.getElem?_eq_getElem hlt'])) (by simp)
          have hbz := HBZ.out _ (List.getElem_mem hlt')
          clear hR
          generalize bs[k] = x at hck hbz
          unfold strV at hck
          have hxz : (ByteArray.mk x.toArray).size ≤ maxLen := by rw [size_mk]; exact hbz
          generalize ByteArray.mk x.toArray = y at hck hxz
          have HA := Lib.hid (HR.out.app HP.out y hxz)
          clear hcell hb hbz hxz HR
          unfold ptrV at HA
          go_wp2_with fail
          refine (HA.out).mono ?_
          rintro e w5 (⟨F, D, l, S, ts, rfl, hL, ht, hl, hs, hg, hx, htl, hF, hv, hkp⟩ | ⟨c, hc0, rfl, hR⟩)
          · have HE := Lib.hid (And.intro hL (And.intro ht (And.intro hl (And.intro hs (And.intro hg (And.intro hF (And.intro hv hkp)))))))
            have hown : Own w5 9 1 u9 ts.length (ts.map strV) := hx
            clear hL ht hl hs hg hx hF hv hkp HA hck
            go_wp2_with (at_builtin; go_loud (refine wpList_app1 (by rfl) (by rfl) Tryd.underlying23 infoStr rfl (by decide) (by rfl) hown (by rfl) (by rfl) ?c1 ?c2 ?c3 ?c4))
            case c1 => simp [Value.oneCell']
            case c2 => unfold maxLen; omega
            case c3 => omega
            case c4 =>
              intro v' w6 ho hk6 hf
              have HG : Hid (AnyRel w bd ps p m sz g v' w6) := by
                obtain ⟨hL, ht, hl, hs, hg, hF, hv, hkp⟩ := HE.out
                refine AnyRel.grow HP.out hL ht hl hs hg hF hv hkp ?_ hk6 hf
                have := ho; unfold Texts strV at *; simpa using this
              clear ho hk6 hf hown HE
              go_wp2_with fail
              go_roundw
              case rel => exact ⟨k + 1, by omega, by go_num, HG.out⟩
              case measure => simp [intOf]; omega
          · have HG := Lib.hid hR
            clear hR HA hck
            go_wp2_with fail
            go_roundw
            case rel => exact ⟨k + 1, by omega, by go_num, HG.out⟩
            case measure => simp [intOf]; omega
        · have HRR := Lib.hid HR.out.rest
          clear HR hR
          go_wp2_with fail
          go_loopw [73] (fun i wr => ∃ k : Nat, k ≤ 2 ∧ i = .int .i64 k ∧ RestRel w bd ps m (g + k) u9 wr) (fun i _ => 2 - (intOf i).toNat)
          case atStart => exact ⟨0, by omega, rfl, HRR.out⟩
          case round =>
            obtain ⟨j, hj, rfl, hR⟩ := hrel
            have HR := Lib.hid hR
            clear hR HRR
            by_cases hlt2 : j < 2
            · have HCr := Lib.hid HR.out.crash
              clear HR
              unfold ptrV at HCr
              go_wp2_with fail
              refine (HCr.out).mono ?_
              rintro e w7 ⟨rfl, hR7⟩
              have HO := Lib.hid (hR7.opened hm3 (by omega) (by omega))
              clear hR7 HCr
              unfold ptrV at HO
              go_wp2_with fail
              refine (HO.out).mono ?_
              rintro e w8 ⟨p8, v8, ts8, rfl, hx8, hx9, hR8⟩
              have heq := equal_any u9 v8 ts8 ts8 w8 (Sees.of_own (by rw [List.length_map]; exact hx9)) (Sees.of_own (by rw [List.length_map]; exact hx8))
              rw [decide_eq_true (rfl : ts8 = ts8)] at heq
              have HEq := Lib.hid heq
              have HR8 := Lib.hid hR8
              obtain ⟨a8, c8, rfl⟩ := ownsRow_form hx8
              clear heq hx8 hx9 hR8 HO
              unfold ptrV
              go_wp2_with fail
              refine (HEq.out).mono ?_
              rintro e w9 ⟨rfl, hk9⟩
              have HR9 := Lib.hid (HR8.out.quiet hk9)
              clear hk9 HR8 HEq
              go_wp2_with fail
              go_roundw
              case rel => exact ⟨j + 1, by omega, by go_num, HR9.out⟩
              case measure => simp [intOf]; omega
            · go_wp2_with fail
              go_ret
              obtain ⟨_, _, _, _, _, _, _, _, _, _, _, _, hkp⟩ := HR.out
              exact ⟨rfl, hkp⟩
end Go.Proofs.YtepnbfpclhincaaDoor

namespace Go.Proofs.YtepnbfpclhincaaDoor
open Go.ChangeShapes Go.WideShapes Go.ChangeMaps Go.RowKit

set_option maxRecDepth 100000 in
theorem streamAny_walk : LawWalk 5 Tryd.f5 := by
  intro H enc W base args ds p hval hA hlt
  rw [Tryd.params5] at hA hval
  obtain ⟨v0, v1, v2, d0, d1, d2, p0, p1, p2, rfl, rfl, rfl, h0, h1, h2⟩ := trodAll_three hA
  obtain ⟨n, rfl, rfl, rfl, hn⟩ := open_int Tryd.underlying3 (hval 0 3 v0 rfl rfl) h0
  have hn2 : n ≤ 9223372036854775807 := by have := hn; simp [Lit.wf, IntKind.min, IntKind.max, IntKind.signed, IntKind.bits] at this; omega
  obtain ⟨s, rfl, rfl, rfl, hs⟩ := open_string Tryd.underlying9 (hval 1 9 v1 rfl rfl) h1
  obtain ⟨bs, hb, hbz⟩ := sees_strings (hval 2 23 v2 rfl rfl) h2 (fun x hx => hlt x (by simp [hx]))
  exact (StreamAny_true n hn2 s hs v2 bs W hb hbz).mono fun e W' ⟨he, hk⟩ => ⟨he, hk.below⟩

set_option maxRecDepth 100000 in
theorem streamAny_lifted (os : Os) (started : os.Started) (H : Type) (enc : TypeId × Value → H) :
    ReturnsInHanded {} Tryd.checked os 5 .any (fun w args => (Rows.streamAnySpec.pre enc Tryd.prog Tryd.f5 [] false w args ∧ laidMetH Tryd.prog Rows.streamAnyRow.laid w) ∧ sizedMet enc Tryd.prog Tryd.f5 (OpenSpec.ofChange Rows.streamAnySpec) false w args)
      (Rows.streamAnySpec.post enc Tryd.prog Tryd.f5 false true false false) :=
  law_lifted (f := 5) (fn := Tryd.f5) Tryd.func5 (by kernel_rfl) (by kernel_rfl) (by kernel_rfl) (s := Rows.streamAnySpec) rfl (fun H ds hl => by
    have hl' : ds.length = 3 := hl
    match ds, hl' with
    | [d0, d1, d2], _ => rfl)
    (laid := Rows.streamAnyRow.laid) os started H enc
    (ChangeSpec.witness_shaped (enc := enc) (C := Tryd.checked) (os := os) (X := fun w _ => laidMetH Tryd.prog Rows.streamAnyRow.laid w) false (World.laidAll Tryd.prog os Rows.streamAnyRow.laid) #[.int .i64 0, .string ⟨#[]⟩, .slice none 0 0] 8 (World.laidAll_os _ _ _)
      (World.shaped_of_ZipB (by kernel_rfl) (by kernel_rfl)) (by kernel_rfl) (by kernel_rfl) (by kernel_rfl)
      (by rw [MakeChecks.laidMetH_plain _ _ _ (by kernel_rfl)]; exact laidMet_laidAll _ (by kernel_rfl) (by kernel_rfl)))
    streamAny_walk

theorem streamAny_said : Rows.StreamAnySaid :=
  OpenClaim.holds_of_wide 5 Tryd.f5 rfl rfl rfl rfl rfl rfl rfl ⟨rfl, rfl, rfl, rfl, rfl⟩ rfl rfl rfl rfl rfl (by kernel_rfl) Tryd.func5 (by kernel_rfl)
    (of_decide_eq_true (by kernel_rfl)) (by unfold Func.isWrapper; first | (rw [if_pos (by decide +kernel)]; kernel_rfl) | (rw [if_neg (by decide +kernel)]; exact ⟨rfl, rfl⟩))
    (fun os started H enc _ => streamAny_lifted os started H enc)

/-- The card. -/
theorem streamAny_holds : Rows.StreamAnyCardSaid :=
  Claim7.holds_tied_plain_at .later [] _ _ _ _ streamAny_said (fun _ h => by cases h) (by kernel_rfl) (fun _ h => by cases h) streamAny_row_tie rfl ⟨rfl, rfl⟩ (by kernel_rfl) rfl
    (fun f fn hf hfn => by
      obtain rfl : f = 5 := Option.some.inj ((show Tryd.prog.funcNamed "precinct/precinctlaw08.StreamAny" = some 5 by kernel_rfl).symm.trans hf) |>.symm
      obtain rfl : fn = Tryd.f5 := (Option.some.inj (Tryd.func5.symm.trans hfn)).symm
      exact ⟨by kernel_rfl, fun j t ht => by
        rw [Tryd.params5] at ht
        have hm : t ∈ [3, 9, 23] := by simpa using Array.mem_of_getElem? ht
        have hall : ([3, 9, 23].all fun u => !Tryd.prog.wantsStandIn u) = true := by kernel_rfl
        exact (show Tryd.prog.wantsStandIn t = false by simpa using List.all_eq_true.1 hall t hm)⟩)
    (by kernel_rfl)
end Go.Proofs.YtepnbfpclhincaaDoor
