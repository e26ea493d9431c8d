/-
  THE ROW OF A LAW WHERE WHAT IT READS IS SMALL: whatever its parameters: where the call returns true and turns nothing that was there, the row holds.
-/
import Derived.Test.YtfpcfpjnafnjiaaRows
import Derived.Test.YtfpcfpjnafnjiaaRow
import Derived.JoinedCond
set_option linter.all false
namespace Go.Proofs.Ytfpcfpjnafnjiaa
open Go.ChangeShapes Go.WideShapes Go.ChangeAt Go.RowKit

set_option maxRecDepth 100000 in
/-- A law's second row, lifted. -/
theorem law_lifted_upto {fid : FuncId} {F : Func} {s : ChangeSpec} {T : TypeId} {os : Os} (started : os.Started) {H : Type} {enc : TypeId × Value → H} {Fi : Stop.Interp}
    (noInit : Try.checked.prog.inits.idxOf? fid = none) (hfn : Try.checked.prog.funcs[fid]? = some F)
    (hvars : s.vars = []) (hres : F.resultTypes = #[T]) (hT : Try.prog.underlying T = some .bool)
    (hread : ∀ t ∈ F.params.toList, Try.prog.readableRec t = true ∧ t < Try.prog.types.size)
    (hsp : ∀ ds : List (DataW H), ds.length = F.params.toList.length → s.fn H ds = { results := [.lit (.bool true)], args := ds })
    (witness : ∃ (w : World) (tape : Tape) (i : Input), w.os = os ∧ (w.forCall tape i).Shaped Try.checked.prog ∧ i.vars = [] ∧ Input.okWide Try.checked.prog (w.forCall tape i) .any w.heap.size fid i ∧
      (Rows.OpenSpec.upto s).pre6 enc Try.checked.prog F [] false (w.forCall tape i).memory i.args ∧ ({} : Assume).holds Try.checked.prog (lone (Frame.enter Try.checked.prog fid i.args .normal) [] (w.forCall tape i)))
    (contract : ∀ (W : World) (base : Nat) (args : Array Value) (ds : List (DataW H)) (p : List MemPlace),
      (∀ (j : Nat) t v, F.params[j]? = some t → args[j]? = some v → Value.okWide Try.prog W .any base t v) →
      DataW.TrodAll enc Try.prog W 0 (fun _ => true) true F.params.toList args.toList ds p →
      (∀ x ∈ p, x.block < W.heap.size) → Rows.uptoSmall H ds = true →
      Calls Try.prog fid args W fun e W' => e = .returned (.bool true) ∧ Below W.heap.size W W') :
    ReturnsInHanded {} Try.checked os fid .any ((Rows.OpenSpec.upto s).pre6 enc Try.prog F [] false) (((Rows.OpenSpec.upto s).at Fi).post enc Try.prog F false true false false) := by
  refine returnsInHanded_of_cond (C := Try.checked) (s := Rows.OpenSpec.upto s) (k := Rows.uptoSmall) rfl Try.own started noInit hfn witness ?_
  intro W base args ds gs before hval hW _ hk _
  have hW0 : DataW.Whole enc Try.prog F.params.toList s.vars false W args.toList ds gs before := hW
  have hlt : ∀ p ∈ before, p.block < W.heap.size := fun p hp => hW0.lt p hp
  obtain ⟨p, q, hA, hV, rfl, hfz, hnd⟩ := hW
  have hV' := hV
  rw [show (Rows.OpenSpec.upto s).vars = s.vars from rfl, hvars] at hV'
  obtain ⟨rfl, rfl⟩ := trodVars_none hV'
  simp only [List.append_nil] at hlt hk
  refine (contract W base args ds p hval hA hlt hk).mono fun e W' ⟨he, hb⟩ => ?_
  exact ⟨_, he, law_post Try.laidOut hvars hres hT hread hsp hW0 hb⟩

end Go.Proofs.Ytfpcfpjnafnjiaa
