/-
  PROVED: the tied card of RuleReads: for every string RuleReads returns true and turns nothing: ReadRule computes what the reference's does. Condition: the listed variables of Go's library read as the card ties them to the program's text.
-/
import Derived.Test.YtjaoiehjhnmahaaGreatDoorRows
import Derived.Test.YtjaoiehjhnmahaaGreatDoorCards
import Derived.Test.YtjaoiehjhnmahaaGreatDoorTie
import Derived.Test.YtjaoiehjhnmahaaGreatDoorRro
import Derived.Test.YtjaoiehjhnmahaaGreatDoorRowS
import Derived.SevenTiedAt
import Derived.SliceStrings
import Derived.Lib.LaidTab
import Derived.ChangeMaps5
import Derived.Lay
set_option linter.all false
namespace Go.Proofs.YtjaoiehjhnmahaaGreatDoor
open Go.ChangeShapes Go.WideShapes Go.ChangeAt Go.RowKit Go.Deep
open Go.ChangeMaps (open_string)

theorem strs_inj : ∀ {a b : List ByteArray}, (strs a : List (DataW Unit)) = strs b → a = b
  | [], [], _ => rfl
  | [], _ :: _, h => by simp [strs] at h
  | _ :: _, [], h => by simp [strs] at h
  | x :: a, y :: b, h => by
    simp only [strs, List.map_cons, List.cons.injEq] at h
    obtain ⟨h1, h2⟩ := h
    have hxy : x = y := by
      injection h1 with h1
      injection h1 with h1
      exact ByteArray.ext (Array.toList_inj.1 h1)
    rw [hxy, strs_inj (a := a) (b := b) h2]

theorem strsTab_of_head {P : Program} {W : World} {name : String} {xs : List ByteArray} {rest : List (String × DataW Unit)} {g : Nat} {t e : TypeId}
    (hg : P.globalNamed name = some g) (hty : (P.globals[g]?).map (·.type) = some t) (ht : P.underlying t = some (.slice e)) (he : P.underlying e = some .string) (hce : P.cellsOf e = 1) (hx : 0 < xs.length)
    (h : laidMet P ((name, .slice (strs xs) []) :: rest) W) : ∃ b o c, StrsTab W g b o c xs := by
  obtain ⟨ps, ⟨g', t', cs, fuel, p, q, hg', ht', hvar, hd, _, _⟩, _⟩ := h
  obtain rfl := Option.some.inj (hg.symm.trans hg')
  obtain rfl := Option.some.inj (hty.symm.trans ht')
  rcases open_strings ht he hce hd with ⟨_, h0⟩ | ⟨a, len, cap, ss, hcs, _, hl, _, hlen, hxx, hcell, _⟩
  · cases h0
  · obtain ⟨h1, _⟩ := Prod.mk.inj hxx
    injection h1 with h1 h2
    have hxs := strs_inj h1
    simp only [if_true] at hlen
    have hln : len = xs.length := by rw [hxs, List.length_take]; omega
    have c0 := hcell 0 (by omega)
    have hspot : a.spot = none := by simpa [Addr.add] using World.cell?_spot c0
    obtain ⟨b, off, spot⟩ := a
    simp only at hspot
    subst hspot
    have hb : b < W.heap.size := by
      have := lt_of_cell c0
      simpa [Addr.add] using this
    have htop : W.cell? ⟨g, 0, none⟩ = some (.slice (some ⟨b, off, none⟩) xs.length cap) := by
      have := World.var?_cell hg hvar 0
      rw [this, ← Array.getElem?_toList, hcs, ← hln]
      rfl
    refine ⟨b, off, cap, htop, lt_of_cell htop, hb, fun k hk => ?_⟩
    have hc := hcell k (by omega)
    rw [add_plain] at hc
    rw [hc]
    have : xs[k] = ss.getD k ByteArray.empty := by
      have hks : k < ss.length := by omega
      rw [List.getD_eq_getElem?_getD, List.getElem?_eq_getElem hks]
      subst hxs
      rw [List.getElem_take]
      rfl
    rw [this]

/-- A heap that is laid from the row's own data meets the condition. -/
theorem ruleReads_met (os : Os) (args : Array Value) : laidMetH Tryz.prog Rows.ruleReadsRow.laid ((World.laidAll Tryz.prog os Rows.ruleReadsRow.laid).forCall (fun _ _ => 0) ⟨#[], args, []⟩).memory := by
  rw [MakeChecks.laidMetH_plain _ _ _ (by kernel_rfl)]
  exact laidMet_laidAll _ (by kernel_rfl) (by kernel_rfl)

theorem tPow : (Tryz.prog.globals[5]?).map (·.type) = some 306 := by kernel_rfl

/-- What the condition gives the walks. -/
theorem tabs_of_laid {W : World} (h : laidMetH Tryz.prog Rows.ruleReadsRow.laid W) : PowTab W ∧ (∃ b o c, StrsTab W 1 b o c wdaysL) ∧ (∃ b o c, StrsTab W 0 b o c unitsL) := by
  rw [MakeChecks.laidMetH_plain _ _ _ (by kernel_rfl)] at h
  refine ⟨Lib.tabIs_of_head gPow tPow Tryz.underlying306 Tryz.underlying265 (by kernel_rfl) (by kernel_rfl) h.tail.tail, ?_, ?_⟩
  · exact strsTab_of_head (t := 61) (e := 9) (by kernel_rfl) (by kernel_rfl) Tryz.underlying61 Tryz.underlying9 (by kernel_rfl) (by decide) h.tail.tail.tail.tail.tail.tail
  · exact strsTab_of_head (t := 61) (e := 9) (by kernel_rfl) (by kernel_rfl) Tryz.underlying61 Tryz.underlying9 (by kernel_rfl) (by decide) h.tail.tail.tail.tail.tail.tail.tail

set_option maxRecDepth 100000 in
theorem ruleReads_lifted (os : Os) (started : os.Started) (H : Type) (enc : TypeId × Value → H) :
    ReturnsInHanded {} Tryz.checked os 4 .any (fun w args => (Rows.ruleReadsSpec.pre enc Tryz.prog Tryz.f4 [] false w args ∧ laidMetH Tryz.prog Rows.ruleReadsRow.laid w) ∧ sizedMet enc Tryz.prog Tryz.f4 (OpenSpec.ofChange Rows.ruleReadsSpec) false w args) (Rows.ruleReadsSpec.post enc Tryz.prog Tryz.f4 false true false false) := by
  refine law_lifted_shaped Rows.ruleReadsRow.laid started (by kernel_rfl) Tryz.func4 rfl (by kernel_rfl) Tryz.underlying4 (fun t ht => ?_) (fun ds hds => ?_)
    (ChangeSpec.witness_shaped (enc := enc) (C := Tryz.checked) (os := os) (X := fun w _ => laidMetH Tryz.prog Rows.ruleReadsRow.laid w) false (World.laidAll Tryz.prog os Rows.ruleReadsRow.laid) #[.string .empty] 8 (World.laidAll_os _ _ _) (World.shaped_of_ZipB (by kernel_rfl) (by kernel_rfl)) (by kernel_rfl) (by kernel_rfl) (by kernel_rfl) (ruleReads_met os _)) ?_
  · rw [Tryz.params4] at ht
    simp only [List.mem_cons, List.not_mem_nil, or_false] at ht
    rcases ht with rfl; exact ⟨by kernel_rfl, of_decide_eq_true (by kernel_rfl)⟩
  · rw [Tryz.params4] at hds
    match ds, hds with
    | [d1], _ => rfl
  · intro W b0 args ds p hval hA hlt hsz hL hsh
    rw [Tryz.params4] at hA hval
    obtain ⟨v0, d0, rfl, rfl, h0⟩ := trodAll_one hA
    obtain ⟨s, rfl, rfl, rfl, ws⟩ := open_string Tryz.underlying9 (hval 0 _ v0 rfl rfl) h0
    obtain ⟨hp, ⟨bs, os', cs, hS⟩, ⟨bu, ou, cu, hU⟩⟩ := tabs_of_laid hL
    exact ruleReads_any s W hp (maxTold_shaped hsh) bu ou cu bs os' cs hU hS

set_option maxHeartbeats 6400000 in
set_option maxRecDepth 100000 in
theorem ruleReads_holds : Rows.RuleReadsSaid :=
  OpenClaim.holds_of_wide 4 Tryz.f4 rfl rfl rfl rfl rfl rfl rfl ⟨rfl, rfl, rfl, rfl, rfl⟩ rfl rfl rfl rfl rfl (by as_aux_lemma => kernel_rfl) Tryz.func4 (by as_aux_lemma => kernel_rfl)
    (of_decide_eq_true (by as_aux_lemma => kernel_rfl)) (by unfold Func.isWrapper; first | (rw [if_pos (by decide +kernel)]; kernel_rfl) | (rw [if_neg (by decide +kernel)]; exact ⟨rfl, rfl⟩))
    (fun os started H enc _ => ruleReads_lifted os started H enc)

set_option maxHeartbeats 6400000 in
theorem ruleReads_card : Rows.RuleReadsCardSaid :=
  Claim7.holds_tied_plain_at .later [] [.data, .data, .data, .data, .sentinel, .sentinel, .widerDeep, .widerDeep, .pinned] true Rows.ruleReadsCard.stood.harness true
    ruleReads_holds (fun _ h => by cases h) (by as_aux_lemma => kernel_rfl) (fun _ h => by cases h) ruleReads_row_tie rfl ⟨rfl, rfl⟩ (by as_aux_lemma => kernel_rfl) rfl
    (fun f fn hf hfn => by
      obtain rfl : f = 4 := Option.some.inj ((show Tryz.prog.funcNamed Rows.ruleReadsRow.func = some 4 by as_aux_lemma => kernel_rfl).symm.trans hf) |>.symm
      obtain rfl : fn = Tryz.f4 := (Option.some.inj (Tryz.func4.symm.trans hfn)).symm
      exact ⟨by as_aux_lemma => kernel_rfl, fun j t ht => by
        rw [Tryz.params4] at ht
        have hm : t ∈ [9] := by simpa using Array.mem_of_getElem? ht
        have hall : ([9].all fun u => !Tryz.prog.wantsStandIn u) = true := by as_aux_lemma => kernel_rfl
        exact (show Tryz.prog.wantsStandIn t = false by simpa using List.all_eq_true.1 hall t hm)⟩)
    (by as_aux_lemma => kernel_rfl)

#print axioms ruleReads_card
end Go.Proofs.YtjaoiehjhnmahaaGreatDoor
