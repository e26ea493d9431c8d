/-
  THE LAW FindSnippets, WHERE WHAT IT READS IS SMALL.
-/
import Derived.Test.YtfnooipkghfmoaaSnl
import Derived.Test.YtfnooipkghfmoaaSnm
import Derived.Test.YtfnooipkghfmoaaSnn
import Derived.Test.YtfnooipkghfmoaaSno
import Derived.ChangeMaps5
set_option linter.all false
namespace Go.Proofs.Ytfnooipkghfmoaa
open Go.ChangeShapes Go.WideShapes Go.ChangeAt Go.RowKit
open Go.ChangeMaps (open_string shut_string)

set_option maxHeartbeats 3200000 in
set_option maxRecDepth 100000 in
theorem findSnippets_any (s : ByteArray) (cs : List Cq) (Wd0 : Int) (A : Option Addr) (c : Nat) (w : World) (hs : s.size ≤ 1900000) (hA : CqsAt w A cs) (hN : nParts cs ≤ 1048576) (hL : cs.length ≤ 1048576) (hB : ∀ x ∈ cs, ∀ p ∈ x.ps, p.ws.length ≤ 1048576 ∧ ∀ y ∈ p.ws, y.size ≤ 1900000) :
    Calls Try.prog 3 #[.string s, .agg #[.slice A cs.length c], .int .i64 Wd0] w fun e w' => e = .returned (.bool true) ∧ Below w.heap.size w w' := by
  have H1 := hide (fun W (hb : Below w.heap.size w W) => snippet_any s cs Wd0 A c W hs (hA.below hb) hN hL hB)
  have H2 := hide (fun W (hb : Below w.heap.size w W) => snippetOf_any s cs Wd0 A c W hs (hA.below hb) hN hL hB)
  have hlen := snipAll_len s cs Wd0
  unfold SnpOut at H1 H2
  clear hA hN hL hB hs
  generalize snipAll s cs Wd0 = R at *
  obtain ⟨⟨f, u, ms⟩, E⟩ := R
  simp only at H1 H2 hlen
  have H3 := hide (fun A1 A2 c1 c2 W (h1 : MksAt W A1 ms) (h2 : MksAt W A2 ms) => alikeSnip_same f u A1 A2 c1 c2 ms W h1 h2 (by omega))
  go_enter Try.func3, Try.ntmps3
  go_wp2_with (first
    | (go_at_call 5; refine (H1.out _ ?hbw).mono ?_; (case hbw => exact (by repeat (first | with_reducible exact Below.refl _ _ | with_reducible refine bl_plus ?_ | with_reducible refine bl_alloc ?_ _ | with_reducible refine bl_drew ?_ | with_reducible refine bl_drewN ?_ _))); rintro e w' ⟨A1, c1, rfl, hr, hbl⟩; have HR1 := hide hr; obtain ⟨os1, n1, rfl⟩ := below_plus hbl; clear hbl hr)
    | (go_at_call 6; refine (H2.out _ ?hbw).mono ?_; (case hbw => exact (by repeat (first | with_reducible exact Below.refl _ _ | with_reducible refine bl_plus ?_ | with_reducible refine bl_alloc ?_ _ | with_reducible refine bl_drew ?_ | with_reducible refine bl_drewN ?_ _))); rintro e w' ⟨A2, c2, rfl, hr, hbl⟩; have HR2 := hide hr; obtain ⟨os2, n2, rfl⟩ := below_plus hbl; clear hbl hr)
    | (go_at_call 7; with_reducible refine Calls.mono (H3.out A1 A2 c1 c2 _ ?h1 ?h2) ?_; (case h1 => exact HR1.out.below (by repeat (first | with_reducible exact Below.refl _ _ | with_reducible refine bl_plus ?_ | with_reducible refine bl_alloc ?_ _ | with_reducible refine bl_drew ?_ | with_reducible refine bl_drewN ?_ _))); (case h2 => exact HR2.out.below (by repeat (first | with_reducible exact Below.refl _ _ | with_reducible refine bl_plus ?_ | with_reducible refine bl_alloc ?_ _ | with_reducible refine bl_drew ?_ | with_reducible refine bl_drewN ?_ _))); rintro e w' ⟨rfl, hbl⟩; obtain ⟨os3, n3, rfl⟩ := below_plus hbl; clear hbl))
  go_ret
  exact ⟨rfl, (by repeat (first | with_reducible exact Below.refl _ _ | with_reducible refine bl_plus ?_ | with_reducible refine bl_alloc ?_ _ | with_reducible refine bl_drew ?_ | with_reducible refine bl_drewN ?_ _))⟩

set_option maxRecDepth 100000 in
theorem findSnippets_lifted (os : Os) (started : os.Started) (H : Type) (enc : TypeId × Value → H) (Fi : Stop.Interp) :
    ReturnsInHanded {} Try.checked os 3 .any ((Rows.OpenSpec.upto Rows.findSnippetsSpec).pre6 enc Try.prog Try.f3 [] false) (((Rows.OpenSpec.upto Rows.findSnippetsSpec).at Fi).post enc Try.prog Try.f3 false true false false) := by
  refine law_lifted_upto started (by kernel_rfl) Try.func3 rfl (by kernel_rfl) Try.underlying4 (fun t ht => ?_) (fun ds hds => ?_)
    (OpenSpec.witness (enc := enc) (C := Try.checked) (s := Rows.OpenSpec.upto Rows.findSnippetsSpec) (k := Rows.uptoSmall) rfl false ⟨#[], #[.string .empty, .agg #[.slice none 0 0], .int .i64 0], []⟩ 8 (by kernel_rfl) (by kernel_rfl) (by kernel_rfl)
      (x := ([.lit (.string []), .agg [.nil], .lit (.int .i64 0)], [], [])) (by kernel_rfl) rfl (by kernel_rfl)) ?_
  · rw [Try.params3] at ht
    simp only [List.mem_cons, List.not_mem_nil, or_false] at ht
    rcases ht with rfl | rfl | rfl <;> exact ⟨by kernel_rfl, of_decide_eq_true (by kernel_rfl)⟩
  · rw [Try.params3] at hds
    match ds, hds with
    | [d1, d2, d3], _ => rfl
  · intro W b0 args ds p hval hA hlt hk
    rw [Try.params3] at hA hval
    obtain ⟨v0, v1, v2, d0, d1, d2, p0, p1, p2, rfl, rfl, rfl, h0, h1, h2⟩ := trodAll_three hA
    obtain ⟨a, rfl, rfl, rfl, ma⟩ := open_string Try.underlying9 (hval 0 _ v0 rfl rfl) h0
    obtain ⟨cs, A, c, rfl, hcs, hbulk⟩ := open_query (hval 1 _ v1 rfl rfl) h1
    obtain ⟨wd, rfl, rfl, rfl, wm⟩ := open_int Try.underlying3 (hval 2 _ v2 rfl rfl) h2
    have hk2 : Rows.uptoBulkAll [DataW.lit (H := H) (.string a.data.toList), d1, .lit (.int .i64 wd)] ≤ 1048576 := of_decide_eq_true hk
    simp only [Rows.uptoBulkAll] at hk2
    have e : Rows.uptoBulk (DataW.lit (H := H) (.string a.data.toList)) = a.size + 1 := by
      simp only [Rows.uptoBulk, Array.length_toList]
      rfl
    rw [e] at hk2
    obtain ⟨q1, q2, q3⟩ := query_small (cs := cs) (M := 1048576) (by omega)
    exact findSnippets_any a cs wd A c W (by omega) hcs q1 q2 (fun x hx p hp => ⟨(q3 x hx p hp).1, fun y hy => Nat.le_trans ((q3 x hx p hp).2 y hy) (by decide)⟩)

set_option maxRecDepth 100000 in
theorem findSnippets_holds : Rows.FindSnippetsUptoSaid :=
  OpenClaim.holds_of_cond 3 Try.f3 rfl rfl rfl rfl rfl rfl rfl ⟨rfl, rfl, rfl, rfl, rfl⟩ rfl rfl rfl rfl rfl (by kernel_rfl) Try.func3 (by kernel_rfl)
    (of_decide_eq_true (by kernel_rfl)) (by unfold Func.isWrapper; first | (rw [if_pos (by decide +kernel)]; kernel_rfl) | (rw [if_neg (by decide +kernel)]; exact ⟨rfl, rfl⟩))
    (fun os started H enc _ F => findSnippets_lifted os started H enc F)

#print axioms findSnippets_holds
end Go.Proofs.Ytfnooipkghfmoaa
