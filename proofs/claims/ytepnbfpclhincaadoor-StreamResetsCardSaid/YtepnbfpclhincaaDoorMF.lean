/-
  From the walk of a law to its statement and to its card: for every law whose parameters can be read, and that leaves all that was there.
  Arguments as they are read: a slice of texts.
-/
import Derived.Test.YtepnbfpclhincaaDoorCards
import Derived.Test.YtepnbfpclhincaaDoorTie
import Derived.WalkKit
import Derived.ProofKit
import Derived.OpenShut
import Derived.Carry
import Derived.Lay
import Derived.LaidOnce
import Derived.SliceStrings
import Derived.SevenTiedAt
import Derived.Test.YtepnbfpclhincaaDoorMB
set_option linter.unusedVariables false
set_option linter.unusedSimpArgs false
namespace Go.Proofs.YtepnbfpclhincaaDoor
open Go.ChangeShapes Go.WideShapes Go.RowKit

theorem noKnob : ownKnob Tryd.prog.godebug = none := by kernel_rfl
theorem allLaidOut : laidOutB Tryd.prog = true := by kernel_rfl

/-- What can be read and is inside the table of types. -/
noncomputable def readT (ts : List TypeId) : Bool := ts.all fun t => Tryd.prog.readableRec t && decide (t < Tryd.prog.types.size)

theorem trodAll_below {H : Type} {enc : TypeId × Value → H} {W W' : World} (hb : Below W.heap.size W W') : ∀ {ts : List TypeId} {vs : List Value} {ds : List (DataW H)} {ps : List MemPlace}, (∀ t ∈ ts, Tryd.prog.readableRec t = true ∧ t < Tryd.prog.types.size) →
    DataW.TrodAll enc Tryd.prog W 0 (fun _ => true) true ts vs ds ps → (∀ x ∈ ps, x.block < W.heap.size) → DataW.TrodAll enc Tryd.prog W' 0 (fun b => decide (b < W.heap.size)) true ts vs ds ps
  | [], [], [], _, _, h, _ => h
  | _ :: _, _ :: _, _ :: _, _, hT, ⟨p, q, h1, h2, e⟩, hs => ⟨p, q, Below.trod allLaidOut (hT _ (List.mem_cons_self ..)).1 (hT _ (List.mem_cons_self ..)).2 h1 hb (fun x hx => hs x (by rw [e]; exact List.mem_append_left _ hx)),
      trodAll_below hb (fun t ht => hT t (List.mem_cons_of_mem _ ht)) h2 (fun x hx => hs x (by rw [e]; exact List.mem_append_right _ hx)), e⟩
  | [], _ :: _, _, _, _, h, _ => by simp [DataW.TrodAll] at h
  | [], [], _ :: _, _, _, h, _ => by simp [DataW.TrodAll] at h
  | _ :: _, [], _, _, _, h, _ => by simp [DataW.TrodAll] at h
  | _ :: _, _ :: _, [], _, _, h, _ => by simp [DataW.TrodAll] at h

/-- What the walk of a law shows. -/
def LawWalk (f : FuncId) (fn : Func) : Prop := ∀ (H : Type) (enc : TypeId × Value → H) (W : World) (base : Nat) (args : Array Value) (ds : List (DataW H)) (p : List MemPlace),
  (∀ (j : Nat) t v, fn.params[j]? = some t → args[j]? = some v → Value.okWide Tryd.prog W .any base t v) → DataW.TrodAll enc Tryd.prog W 0 (fun _ => true) true fn.params.toList args.toList ds p → (∀ x ∈ p, x.block < W.heap.size) →
  Calls Tryd.prog f args W fun e W' => e = .returned (.bool true) ∧ Below W.heap.size W W'

set_option maxRecDepth 100000 in
theorem law_lifted {f : FuncId} {fn : Func} (hfn : Tryd.prog.funcs[f]? = some fn) (hni : Tryd.prog.inits.idxOf? f = none) (hr : fn.resultTypes = #[4]) (hT : readT fn.params.toList = true)
    {s : ChangeSpec} (hv : s.vars = []) (hs : ∀ (H : Type) (ds : List (DataW H)), ds.length = fn.params.size → s.fn H ds = { results := [.lit (.bool true)], args := ds })
    {laid : List (String × DataW Unit)} (os : Os) (started : os.Started) (H : Type) (enc : TypeId × Value → H)
    (hwit : ∃ (w : World) (tape : Tape) (i : Input), w.os = os ∧ (w.forCall tape i).Shaped Tryd.prog ∧ i.vars = [] ∧ Input.okWide Tryd.prog (w.forCall tape i) .any w.heap.size f i ∧
      ((s.pre enc Tryd.prog fn [] false (w.forCall tape i).memory i.args ∧ laidMetH Tryd.prog laid (w.forCall tape i).memory) ∧ sizedMet enc Tryd.prog fn (OpenSpec.ofChange s) false (w.forCall tape i).memory i.args) ∧ ({} : Assume).holds Tryd.prog (lone (Frame.enter Tryd.prog f i.args .normal) [] (w.forCall tape i)))
    (walk : LawWalk f fn) :
    ReturnsInHanded {} Tryd.checked os f .any (fun w args => (s.pre enc Tryd.prog fn [] false w args ∧ laidMetH Tryd.prog laid w) ∧ sizedMet enc Tryd.prog fn (OpenSpec.ofChange s) false w args)
      (s.post enc Tryd.prog fn false true false false) := by
  refine returnsInHanded_of_change_and (C := Tryd.checked) (X := fun w _ => laidMetH Tryd.prog laid w) (fun _ _ _ hh h => h.of_heap hh) noKnob started hni hfn hwit ?_
  intro W base args ds gs before hval hW _ _ _ _
  have hW' := hW
  obtain ⟨p, q, hA, hV, rfl, _, _⟩ := hW
  rw [hv] at hV
  obtain ⟨rfl, rfl⟩ := trodVars_none hV
  have hlt : ∀ x ∈ p, x.block < W.heap.size := fun x hx => hW'.lt x (List.mem_append_left _ hx)
  refine (walk H enc W base args ds p hval hA hlt).mono fun e W' ⟨he, hb⟩ => ?_
  subst he
  have hl : ds.length = fn.params.size := by
    have h1 : ∀ {ts : List TypeId} {vs : List Value} {ds : List (DataW H)} {ps : List MemPlace}, DataW.TrodAll enc Tryd.prog W 0 (fun _ => true) true ts vs ds ps → ds.length = ts.length := by
      intro ts
      induction ts with
      | nil => intro vs ds ps h; cases vs <;> cases ds <;> simp_all [DataW.TrodAll]
      | cons t ts ih =>
        intro vs ds ps h
        cases vs with
        | nil => simp [DataW.TrodAll] at h
        | cons v vs =>
          cases ds with
          | nil => simp [DataW.TrodAll] at h
          | cons d ds => obtain ⟨p, q, _, h2, _⟩ := h; simp [ih h2]
    simpa using h1 hA
  have hTT : ∀ t ∈ fn.params.toList, Tryd.prog.readableRec t = true ∧ t < Tryd.prog.types.size := fun t ht => by
    have := List.all_eq_true.1 hT t ht
    simpa using this
  refine ⟨_, rfl, ds, [], p ++ [], [], p, [], hW', ?_, ?_, ?_, hb.frame _, fun h => by cases h⟩
  · rw [List.append_nil, hs H ds hl, hr]
    exact trodAll_mk1 (shut_bool Tryd.underlying4 true)
  · rw [List.append_nil, hs H ds hl]
    exact trodAll_below hb hTT hA hlt
  · rw [List.append_nil, hs H ds hl, hv]
    rfl
end Go.Proofs.YtepnbfpclhincaaDoor

namespace Go.Proofs.YtepnbfpclhincaaDoor
open Go.ChangeShapes Go.WideShapes Go.RowKit

theorem cellsStr : Tryd.prog.cellsOf 9 = 1 := by kernel_rfl
set_option maxRecDepth 100000 in
theorem sees_strings {H : Type} {enc : TypeId × Value → H} {W : World} {base : Nat} {v : Value} {d : DataW H} {p : List MemPlace} (hval : Value.okWide Tryd.prog W .any base 23 v)
    (h : DataW.Trod enc Tryd.prog W 0 (fun _ => true) true 23 v d p) (_hlt : ∀ x ∈ p, x.block < W.heap.size) : ∃ bs : List (List UInt8), Sees W v (bs.map strV) ∧ ∀ b ∈ bs, b.length ≤ maxLen := by
  obtain ⟨a0, len0, cap0, rfl⟩ := okWide_slice Tryd.underlying23 hval
  obtain ⟨fuel, hf⟩ := h
  rcases open_strings Tryd.underlying23 Tryd.underlying9 cellsStr hf with ⟨hcs, hx⟩ | ⟨a, len, cap, ss, hcs, _, hl, hm, hz, hx, hcell, hsz⟩
  · simp [Value.cells] at hcs
    obtain ⟨rfl, rfl, rfl⟩ := hcs
    exact ⟨[], ⟨_, _, rfl, Nat.le_refl _, by simp [maxLen], .inl rfl⟩, by simp⟩
  · simp [Value.cells] at hcs
    obtain ⟨rfl, rfl, rfl⟩ := hcs
    simp only [if_true] at hz
    have hn : (ss.take len0).length = len0 := by rw [List.length_take]; omega
    refine ⟨(ss.take len0).map (·.data.toList), ⟨some a, cap0, by rw [List.length_map, List.length_map, hn], by rw [List.length_map, List.length_map, hn]; exact hl, hm, ?_⟩, ?_⟩
    · by_cases h0 : len0 = 0
      · subst h0; exact .inl rfl
      · have hc0 := hcell 0 (by omega)
        have hsp : a.spot = none := by
          have := World.cell?_spot hc0
          rwa [show a.add 0 = a by simp [Addr.add]] at this
        have ha : a = ⟨a.block, a.off, none⟩ := by cases a; simp_all
        refine .inr ⟨a.block, a.off, congrArg some ha, ?_, fun j u hj => ?_⟩
        · rw [show a.add 0 = a by simp [Addr.add]] at hc0
          exact World.block_lt_of_cell? W a hc0
        · simp only [List.map_map, List.getElem?_map, Option.map_eq_some_iff] at hj
          obtain ⟨s, hs, rfl⟩ := hj
          rw [List.getElem?_take] at hs
          split at hs
          · have := hcell j (getElem?_lt hs)
            rw [List.getD_eq_getElem?_getD, hs] at this
            have hadd : a.add j = ⟨a.block, a.off + j, none⟩ := by
              unfold Addr.add; split
              · subst_vars; exact ha
              · rfl
            rw [hadd] at this
            exact this.trans (congrArg some (by show Value.string s = Value.string ⟨s.data.toList.toArray⟩; rw [bytes_eta]))
          · cases hs
    · intro b hb
      obtain ⟨s, hs, rfl⟩ := List.mem_map.1 hb
      have := hsz s (List.mem_of_mem_take hs)
      rw [toList_length]; exact this
end Go.Proofs.YtepnbfpclhincaaDoor
