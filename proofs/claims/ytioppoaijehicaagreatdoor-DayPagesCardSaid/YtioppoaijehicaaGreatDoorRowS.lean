/-
  THE ROW OF A LAW THAT LISTS PACKAGE-LEVEL VARIABLES: where the call returns true and turns nothing that was there, the row holds.
-/
import Derived.Test.YtioppoaijehicaaGreatDoorRow
import Derived.LaidMore
import Derived.LaidHandle
import Derived.OpenShut
import Derived.Stop.Joined
import Derived.Stop.LaidErr
import Derived.HandedShaped
set_option linter.all false
namespace Go.Proofs.YtioppoaijehicaaGreatDoor
open Go.ChangeShapes Go.WideShapes Go.ChangeAt Go.RowKit

set_option maxRecDepth 100000 in
theorem law_lifted_laid {fid : FuncId} {F : Func} {s : ChangeSpec} {T : TypeId} {os : Os} (laid : List (String × DataW Unit)) (started : os.Started) {H : Type} {enc : TypeId × Value → H}
    (noInit : Tryz.checked.prog.inits.idxOf? fid = none) (hfn : Tryz.checked.prog.funcs[fid]? = some F)
    (hvars : s.vars = []) (hres : F.resultTypes = #[T]) (hT : Tryz.prog.underlying T = some .bool)
    (hread : ∀ t ∈ F.params.toList, Tryz.prog.readableRec t = true ∧ t < Tryz.prog.types.size)
    (hsp : ∀ ds : List (DataW H), ds.length = F.params.toList.length → s.fn H ds = { results := [.lit (.bool true)], args := ds })
    (witness : ∃ (w : World) (tape : Tape) (i : Input), w.os = os ∧ (w.forCall tape i).Shaped Tryz.checked.prog ∧ i.vars = [] ∧ Input.okWide Tryz.checked.prog (w.forCall tape i) .any w.heap.size fid i ∧
      ((s.pre enc Tryz.checked.prog F [] false (w.forCall tape i).memory i.args ∧ laidMetH Tryz.prog laid (w.forCall tape i).memory) ∧ sizedMet enc Tryz.checked.prog F (OpenSpec.ofChange s) false (w.forCall tape i).memory i.args) ∧ ({} : Assume).holds Tryz.checked.prog (lone (Frame.enter Tryz.checked.prog fid i.args .normal) [] (w.forCall tape i)))
    (contract : ∀ (W : World) (base : Nat) (args : Array Value) (ds : List (DataW H)) (p : List MemPlace),
      (∀ (j : Nat) t v, F.params[j]? = some t → args[j]? = some v → Value.okWide Tryz.prog W .any base t v) →
      DataW.TrodAll enc Tryz.prog W 0 (fun _ => true) true F.params.toList args.toList ds p →
      (∀ x ∈ p, x.block < W.heap.size) →
      (DataW.weightsEach Tryz.prog F.params.toList ds).all (· ≤ reachBytes) = true → laidMetH Tryz.prog laid W →
      Calls Tryz.prog fid args W fun e W' => e = .returned (.bool true) ∧ Below W.heap.size W W') :
    ReturnsInHanded {} Tryz.checked os fid .any (fun w args => (s.pre enc Tryz.prog F [] false w args ∧ laidMetH Tryz.prog laid w) ∧ sizedMet enc Tryz.prog F (OpenSpec.ofChange s) false w args) (s.post enc Tryz.prog F false true false false) := by
  refine returnsInHanded_of_change_and (C := Tryz.checked) (X := fun w _ => laidMetH Tryz.prog laid w) (fun _ _ _ hh h => h.of_heap hh) Tryz.own started noInit hfn witness ?_
  intro W base args ds gs before hval hW _ hsz hL _
  have hW0 := hW
  have hlt : ∀ p ∈ before, p.block < W.heap.size := fun p hp => hW.lt p hp
  obtain ⟨p, q, hA, hV, rfl, hfz, hnd⟩ := hW
  have hV' := hV
  rw [hvars] at hV'
  obtain ⟨rfl, rfl⟩ := trodVars_none hV'
  have hvt : s.plain.varTypes Tryz.checked.prog = [] := by
    simp [DataSpec.varTypes, ChangeSpec.plain, hvars]
  rw [hvt] at hsz
  simp only [List.append_nil] at hlt hsz
  refine (contract W base args ds p hval hA hlt hsz hL).mono fun e W' ⟨he, hb⟩ => ?_
  exact ⟨_, he, law_post Tryz.laidOut hvars hres hT hread hsp hW0 hb⟩

end Go.Proofs.YtioppoaijehicaaGreatDoor
/-
  THE ROW OF A LAW THAT LISTS PACKAGE-LEVEL VARIABLES, where the walk wants the heap's shape, too.
-/
namespace Go.Proofs.YtioppoaijehicaaGreatDoor
open Go.ChangeShapes Go.WideShapes Go.ChangeAt Go.RowKit

section
variable {H : Type} {enc : TypeId × Value → H}

theorem returns_and_shaped {a : Assume} {C : Checked} {os : Os} {f : FuncId} {fn : Func} {s : ChangeSpec} {conds : List PathCond} {apart fresh handsOn again : Bool} {X : World → Array Value → Prop}
    (hX : ∀ (w w' : World) (args : Array Value), w.heap = w'.heap → X w args → X w' args)
    (own : ownKnob C.prog.godebug = none) (started : os.Started) (noInit : C.prog.inits.idxOf? f = none) (hfn : C.prog.funcs[f]? = some fn)
    (witness : ∃ (w : World) (tape : Tape) (i : Input), w.os = os ∧ (w.forCall tape i).Shaped C.prog ∧ i.vars = [] ∧ Input.okWide C.prog (w.forCall tape i) .any w.heap.size f i ∧
      ((s.pre enc C.prog fn conds apart (w.forCall tape i).memory i.args ∧ X (w.forCall tape i).memory i.args) ∧ sizedMet enc C.prog fn (OpenSpec.ofChange s) apart (w.forCall tape i).memory i.args) ∧ a.holds C.prog (lone (Frame.enter C.prog f i.args .normal) [] (w.forCall tape i)))
    (contract : ∀ (W : World) (base : Nat) (args : Array Value) (ds gs : List (DataW H)) (before : List MemPlace),
      (∀ (j : Nat) t v, fn.params[j]? = some t → args[j]? = some v → Value.okWide C.prog W .any base t v) →
      DataW.Whole enc C.prog fn.params.toList s.vars apart W args.toList ds gs before →
      (DataW.weightsEach C.prog (fn.params.toList ++ s.plain.varTypes C.prog) (ds ++ gs)).all (· ≤ reachBytes) = true → X W args →
      W.ShapedOpen C.prog →
      Calls C.prog f args W fun e W' => ∃ v, e = .returned v ∧ s.post enc C.prog fn apart fresh handsOn again W args v W') :
    ReturnsInHanded a C os f .any (fun w args => (s.pre enc C.prog fn conds apart w args ∧ X w args) ∧ sizedMet enc C.prog fn (OpenSpec.ofChange s) apart w args) (s.post enc C.prog fn apart fresh handsOn again) := by
  refine returnsInHanded_of_calls own started noInit witness ?_
  intro w tape i _ hsh _ hok hpre _
  obtain ⟨_, _, _, fn', hfn', _, _, _, _, hval⟩ := hok
  have e : fn' = fn := Option.some.inj (hfn'.symm.trans hfn)
  subst e
  obtain ⟨⟨⟨ds, gs, before, hw, hc⟩, hx⟩, hz⟩ := hpre
  have hw' := DataW.Whole.of_heap (w' := w.forCall tape i) (by rfl) hw
  refine (contract (w.forCall tape i) w.heap.size i.args ds gs before hval hw' (hz.weights hw) (hX _ _ _ (by rfl) hx) hsh).mono fun e W' ⟨v, he, hp⟩ => ?_
  subst he
  exact ChangeSpec.post_blind hp
end

set_option maxRecDepth 100000 in
theorem law_lifted_shaped {fid : FuncId} {F : Func} {s : ChangeSpec} {T : TypeId} {os : Os} (laid : List (String × DataW Unit)) (started : os.Started) {H : Type} {enc : TypeId × Value → H}
    (noInit : Tryz.checked.prog.inits.idxOf? fid = none) (hfn : Tryz.checked.prog.funcs[fid]? = some F)
    (hvars : s.vars = []) (hres : F.resultTypes = #[T]) (hT : Tryz.prog.underlying T = some .bool)
    (hread : ∀ t ∈ F.params.toList, Tryz.prog.readableRec t = true ∧ t < Tryz.prog.types.size)
    (hsp : ∀ ds : List (DataW H), ds.length = F.params.toList.length → s.fn H ds = { results := [.lit (.bool true)], args := ds })
    (witness : ∃ (w : World) (tape : Tape) (i : Input), w.os = os ∧ (w.forCall tape i).Shaped Tryz.checked.prog ∧ i.vars = [] ∧ Input.okWide Tryz.checked.prog (w.forCall tape i) .any w.heap.size fid i ∧
      ((s.pre enc Tryz.checked.prog F [] false (w.forCall tape i).memory i.args ∧ laidMetH Tryz.prog laid (w.forCall tape i).memory) ∧ sizedMet enc Tryz.checked.prog F (OpenSpec.ofChange s) false (w.forCall tape i).memory i.args) ∧ ({} : Assume).holds Tryz.checked.prog (lone (Frame.enter Tryz.checked.prog fid i.args .normal) [] (w.forCall tape i)))
    (contract : ∀ (W : World) (base : Nat) (args : Array Value) (ds : List (DataW H)) (p : List MemPlace),
      (∀ (j : Nat) t v, F.params[j]? = some t → args[j]? = some v → Value.okWide Tryz.prog W .any base t v) →
      DataW.TrodAll enc Tryz.prog W 0 (fun _ => true) true F.params.toList args.toList ds p →
      (∀ x ∈ p, x.block < W.heap.size) →
      (DataW.weightsEach Tryz.prog F.params.toList ds).all (· ≤ reachBytes) = true → laidMetH Tryz.prog laid W → W.ShapedOpen Tryz.prog →
      Calls Tryz.prog fid args W fun e W' => e = .returned (.bool true) ∧ Below W.heap.size W W') :
    ReturnsInHanded {} Tryz.checked os fid .any (fun w args => (s.pre enc Tryz.prog F [] false w args ∧ laidMetH Tryz.prog laid w) ∧ sizedMet enc Tryz.prog F (OpenSpec.ofChange s) false w args) (s.post enc Tryz.prog F false true false false) := by
  refine returns_and_shaped (C := Tryz.checked) (X := fun w _ => laidMetH Tryz.prog laid w) (fun _ _ _ hh h => h.of_heap hh) Tryz.own started noInit hfn witness ?_
  intro W base args ds gs before hval hW hsz hL hsh
  have hW0 := hW
  have hlt : ∀ p ∈ before, p.block < W.heap.size := fun p hp => hW.lt p hp
  obtain ⟨p, q, hA, hV, rfl, hfz, hnd⟩ := hW
  have hV' := hV
  rw [hvars] at hV'
  obtain ⟨rfl, rfl⟩ := trodVars_none hV'
  have hvt : s.plain.varTypes Tryz.checked.prog = [] := by
    simp [DataSpec.varTypes, ChangeSpec.plain, hvars]
  rw [hvt] at hsz
  simp only [List.append_nil] at hlt hsz
  refine (contract W base args ds p hval hA hlt hsz hL hsh).mono fun e W' ⟨he, hb⟩ => ?_
  exact ⟨_, he, law_post Tryz.laidOut hvars hres hT hread hsp hW0 hb⟩

end Go.Proofs.YtioppoaijehicaaGreatDoor
