/-
  OPENING: blocks as they come in; and THE ROW OF A LAW, SECOND FORM, THAT LISTS VARIABLES.
-/
import Derived.Test.YtioppoaijehicaaGreatDoorRows
import Derived.Test.YtioppoaijehicaaGreatDoorRow
import Derived.Test.YtioppoaijehicaaGreatDoorOpv
import Derived.Test.YtioppoaijehicaaGreatDoorTbe
import Derived.Deep.DeepHandedRow
import Derived.OpenShut
set_option linter.all false
namespace Go.Proofs.YtioppoaijehicaaGreatDoor
open Go.ChangeShapes Go.WideShapes Go.ChangeAt Go.Deep Go.RowKit

section
variable {H : Type} {enc : TypeId × Value → H} {w : World} {base : Nat} {held : Bool}

theorem in64_wf {k : Int} (h : (Lit.int .i64 k).wf = true) : In64 k := by
  unfold In64
  simp only [Lit.wf, IntKind.min, IntKind.max, IntKind.signed, IntKind.bits, Bool.and_eq_true, decide_eq_true_eq, if_true] at h
  omega

set_option maxRecDepth 100000 in
theorem open_kids {fuel : Nat} {cs : List Value} {x : DataW H × List MemPlace} (h : DataW.trod enc Tryz.prog w base (fun _ => true) held fuel 28 cs = some x) :
    ∃ (l : List Int) (A : Option Addr) (c : Nat), cs = [.slice A l.length c] ∧ l.length ≤ c ∧ IntsAt w A l ∧ ∀ k ∈ l, In64 k := by
  obtain ⟨A, len, cap, l, rfl, h1, h2, _, rfl, hq⟩ := open_elems (Q := fun cs (k : Int) => cs = [.int .i64 k] ∧ In64 k) Tryz.underlying28 (show Tryz.prog.cellsOf 3 = 1 by kernel_rfl) (by decide)
    (fun n _ cs x h => by
      obtain ⟨k, e, _, hw⟩ := DataW.trod_int Tryz.underlying3 h
      exact ⟨k, e, in64_wf hw⟩) h
  refine ⟨l, A, cap, rfl, h1, fun hp => ?_, fun k hk => ?_⟩
  · obtain ⟨b, off, rfl, hb, hi⟩ := hq hp
    refine ⟨b, off, rfl, hb, fun j hj => ?_⟩
    obtain ⟨cs', ⟨rfl, _⟩, _, hc⟩ := hi j hj
    have := hc 0 _ rfl
    rwa [Nat.mul_one, Nat.add_zero] at this
  · obtain ⟨j, hj, rfl⟩ := List.getElem_of_mem hk
    obtain ⟨b, off, rfl, hb, hi⟩ := hq (by omega)
    obtain ⟨cs', ⟨_, h⟩, _, _⟩ := hi j hj
    exact h

theorem open_propsC {fuel : Nat} {cs : List Value} {x : DataW H × List MemPlace} (h : DataW.trod enc Tryz.prog w base (fun _ => true) held fuel 80 cs = some x) :
    ∃ (l : List PR) (A : Option Addr) (c : Nat), cs = [.slice A l.length c] ∧ PsAt w A l := by
  obtain ⟨A, len, cap, l, rfl, h1, h2, h3, rfl, hq⟩ := open_elems Tryz.underlying80 (show Tryz.prog.cellsOf 118 = 6 by kernel_rfl) (by decide) (fun n _ cs x h => open_prop n cs x h) h
  refine ⟨l, A, cap, rfl, by omega, fun hp => ?_⟩
  obtain ⟨b, off, rfl, hb, hi⟩ := hq hp
  refine ⟨b, off, rfl, hb, fun j hj => ?_⟩
  obtain ⟨cs', ⟨hs, _, rfl, A, c, rfl, hl⟩, _, hc⟩ := hi j hj
  exact ⟨hc 0 _ rfl, hs, VAt_iff.2 ⟨hc 1 _ rfl, hc 2 _ rfl, hc 3 _ rfl, hc 4 _ rfl, A, c, hc 5 _ rfl, hl⟩⟩

def BlkCells (w : World) (cs : List Value) (x : BK) : Prop := ∃ (A1 : Option Addr) (c1 : Nat) (A2 : Option Addr) (c2 : Nat), cs = [.int .i64 x.id, .int .i64 x.par, .slice A1 x.kids.length c1, .string x.txt, .slice A2 x.ps.length c2] ∧ IntsAt w A1 x.kids ∧ PsAt w A2 x.ps ∧ x.kids.length ≤ c1 ∧ ∀ k ∈ x.kids, In64 k

set_option maxRecDepth 100000 in
theorem open_block (fuel : Nat) (cs : List Value) (x : DataW H × List MemPlace) (h : DataW.trod enc Tryz.prog w base (fun _ => true) held fuel 82 cs = some x) : ∃ b : BK, BlkCells w cs b := by
  obtain ⟨ys, n, rfl, _, hlen, hyl, hf⟩ := DataW.trod_struct Tryz.underlying82 h
  have hC : Tryz.prog.cellsOf 82 = 5 := by kernel_rfl
  rw [hC] at hlen
  match cs, hlen with
  | [q0, q1, q2, q3, q4], _ =>
    have hys : ys.length = 5 := hyl
    match ys, hys with
    | [y0, y1, y2, y3, y4], _ =>
      have hi1 : Tryz.prog.cellsOf 3 = 1 := by kernel_rfl
      have hs1 : Tryz.prog.cellsOf 9 = 1 := by kernel_rfl
      have hk1 : Tryz.prog.cellsOf 28 = 1 := by kernel_rfl
      have hp1 : Tryz.prog.cellsOf 80 = 1 := by kernel_rfl
      have t0 : DataW.trod enc Tryz.prog w base (fun _ => true) held n 3 (([q0, q1, q2, q3, q4].drop 0).take (Tryz.prog.cellsOf 3)) = some y0 := hf 0 _ rfl
      rw [hi1] at t0
      have t1 : DataW.trod enc Tryz.prog w base (fun _ => true) held n 3 (([q0, q1, q2, q3, q4].drop 1).take (Tryz.prog.cellsOf 3)) = some y1 := hf 1 _ rfl
      rw [hi1] at t1
      have t2 : DataW.trod enc Tryz.prog w base (fun _ => true) held n 28 (([q0, q1, q2, q3, q4].drop 2).take (Tryz.prog.cellsOf 28)) = some y2 := hf 2 _ rfl
      rw [hk1] at t2
      have t3 : DataW.trod enc Tryz.prog w base (fun _ => true) held n 9 (([q0, q1, q2, q3, q4].drop 3).take (Tryz.prog.cellsOf 9)) = some y3 := hf 3 _ rfl
      rw [hs1] at t3
      have t4 : DataW.trod enc Tryz.prog w base (fun _ => true) held n 80 (([q0, q1, q2, q3, q4].drop 4).take (Tryz.prog.cellsOf 80)) = some y4 := hf 4 _ rfl
      rw [hp1] at t4
      simp only [List.drop_zero, List.drop_succ_cons, List.take_succ_cons, List.take_zero] at t0 t1 t2 t3 t4
      obtain ⟨k0, e0, _, _⟩ := DataW.trod_int Tryz.underlying3 t0
      obtain ⟨k1, e1, _, _⟩ := DataW.trod_int Tryz.underlying3 t1
      obtain ⟨ks, A1, c1, e2, hc1, hk, h64⟩ := open_kids t2
      obtain ⟨s, e3, _, _⟩ := DataW.trod_string Tryz.underlying9 t3
      obtain ⟨ps, A2, c2, e4, hp⟩ := open_propsC t4
      simp only [List.cons.injEq, and_true] at e0 e1 e2 e3 e4
      subst e0 e1 e2 e3 e4
      exact ⟨⟨k0, k1, ks, s, ps⟩, A1, c1, A2, c2, rfl, hk, hp, hc1, h64⟩

set_option maxRecDepth 100000 in
/-- A base that comes in. -/
theorem open_blocks {v : Value} {d : DataW H} {ps : List MemPlace} {r : Reach} {b0 : Nat} (hv : Value.okWide Tryz.prog w r b0 22 v) (h : DataW.Trod enc Tryz.prog w base (fun _ => true) held 22 v d ps) :
    ∃ (l : List BK) (A : Option Addr) (c : Nat), v = .slice A l.length c ∧ l.length ≤ c ∧ BsAt w A l ∧ ∀ b ∈ l, ∀ k ∈ b.kids, In64 k := by
  obtain ⟨A0, len0, cap0, rfl⟩ := okWide_slice Tryz.underlying22 hv
  obtain ⟨fuel, hf⟩ := h
  obtain ⟨A, len, cap, l, e, h1, h2, h3, rfl, hq⟩ := open_elems Tryz.underlying22 (show Tryz.prog.cellsOf 82 = 5 by kernel_rfl) (by decide) (fun n _ cs x h => open_block n cs x h) hf
  have e : [Value.slice A0 len0 cap0] = [.slice A l.length cap] := e
  simp only [List.cons.injEq, and_true] at e
  refine ⟨l, A, cap, e, h1, ⟨by omega, fun hp => ?_⟩, fun b hb k hk => ?_⟩
  · obtain ⟨b, off, rfl, hb, hi⟩ := hq hp
    refine ⟨b, off, rfl, hb, fun j hj => ?_⟩
    obtain ⟨cs', ⟨A1, c1, A2, c2, rfl, hk, hps, hc1, _⟩, _, hc⟩ := hi j hj
    exact ⟨hc 0 _ rfl, hc 1 _ rfl, hc 3 _ rfl, A1, c1, A2, c2, hc 2 _ rfl, hk, hc 4 _ rfl, hps, hc1⟩
  · obtain ⟨j, hj, rfl⟩ := List.getElem_of_mem hb
    obtain ⟨b, off, rfl, hb, hi⟩ := hq (by omega)
    obtain ⟨cs', ⟨A1, c1, A2, c2, rfl, _, _, _, h64⟩, _, _⟩ := hi j hj
    exact h64 k hk
end

set_option maxRecDepth 100000 in
/-- A law's second row, variables listed, lifted. -/
theorem law_lifted_row {fid : FuncId} {F : Func} {s : ChangeSpec} {T : TypeId} {os : Os} (laid : List (String × DataW Unit)) (started : os.Started) {H : Type} {enc : TypeId × Value → H} {Fi : Stop.Interp}
    (noInit : Tryz.checked.prog.inits.idxOf? fid = none) (hfn : Tryz.checked.prog.funcs[fid]? = some F)
    (hvars : s.vars = []) (hres : F.resultTypes = #[T]) (hT : Tryz.prog.underlying T = some .bool)
    (hread : ∀ t ∈ F.params.toList, Tryz.prog.readableRec t = true ∧ t < Tryz.prog.types.size)
    (hsp : ∀ ds : List (DataW H), ds.length = F.params.toList.length → s.fn H ds = { results := [.lit (.bool true)], args := ds })
    (witness : ∃ (w : World) (tape : Tape) (i : Input), w.os = os ∧ (w.forCall tape i).Shaped Tryz.checked.prog ∧ i.vars = [] ∧ Input.okWide Tryz.checked.prog (w.forCall tape i) .any w.heap.size fid i ∧
      (Rows.OpenSpec.upto s).preRow enc Tryz.checked.prog F [] false laid (w.forCall tape i).memory i.args ∧ ({} : Assume).holds Tryz.checked.prog (lone (Frame.enter Tryz.checked.prog fid i.args .normal) [] (w.forCall tape i)))
    (contract : ∀ (W : World) (base : Nat) (args : Array Value) (ds : List (DataW H)) (p : List MemPlace),
      (∀ (j : Nat) t v, F.params[j]? = some t → args[j]? = some v → Value.okWide Tryz.prog W .any base t v) →
      DataW.TrodAll enc Tryz.prog W 0 (fun _ => true) true F.params.toList args.toList ds p →
      (∀ x ∈ p, x.block < W.heap.size) → Rows.uptoSmall H ds = true → laidMetH Tryz.prog laid W → W.ShapedOpen Tryz.prog →
      Calls Tryz.prog fid args W fun e W' => e = .returned (.bool true) ∧ Below W.heap.size W W') :
    ReturnsInHanded {} Tryz.checked os fid .any ((Rows.OpenSpec.upto s).preRow enc Tryz.prog F [] false laid) (((Rows.OpenSpec.upto s).at Fi).post enc Tryz.prog F false true false false) := by
  refine returnsInHanded_of_row (C := Tryz.checked) (s := Rows.OpenSpec.upto s) Tryz.own started noInit hfn witness ?_
  intro W base args ds gs before hval hW _ hk _ hL hsh _
  have hk := hk _ rfl
  have hW0 : DataW.Whole enc Tryz.prog F.params.toList s.vars false W args.toList ds gs before := hW
  have hlt : ∀ p ∈ before, p.block < W.heap.size := fun p hp => hW0.lt p hp
  obtain ⟨p, q, hA, hV, rfl, hfz, hnd⟩ := hW
  have hV' := hV
  rw [show (Rows.OpenSpec.upto s).vars = s.vars from rfl, hvars] at hV'
  obtain ⟨rfl, rfl⟩ := trodVars_none hV'
  simp only [List.append_nil] at hlt hk
  refine (contract W base args ds p hval hA hlt hk hL hsh).mono fun e W' ⟨he, hb⟩ => ?_
  exact ⟨_, he, law_post Tryz.laidOut hvars hres hT hread hsp hW0 hb⟩

end Go.Proofs.YtioppoaijehicaaGreatDoor
