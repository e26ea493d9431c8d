/-
  WALKS: the pages of days, in the program.
-/
import Derived.Test.YtioppoaijehicaaGreatDoorDpa
import Derived.Test.YtioppoaijehicaaGreatDoorRrb
import Derived.Test.YtioppoaijehicaaGreatDoorTbo
import Derived.Test.YtioppoaijehicaaGreatDoorCnI
set_option linter.all false
namespace Go.Proofs.YtioppoaijehicaaGreatDoor
open Go.RowKit Go.Lib Go.Maps Go.WideElems Go.WideMaps Go.Shelf

def DysOut (l : List BK) (w : World) (e : Ending) (w' : World) : Prop := ∃ g n D, e = .returned (.map (some g)) ∧ w.heap.size ≤ g ∧ NF g w' n D (dyF l l.length) ∧ n ≤ l.length ∧ Below w.heap.size w w'

set_option maxHeartbeats 3200000 in
set_option maxRecDepth 100000 in
theorem dailies_any (l : List BK) (A : Option Addr) (c : Nat) (w : World) (R : Right l) (hA : BsAt w A l) (hmt : MaxTold w) :
    Calls Tryz.prog 25 #[.slice A l.length c] w (DysOut l w) := by
  have hmm := @run_makeMap Tryz.prog
  have hln := R.len
  have HR := hide R
  have HA := hide hA
  generalize hPO : DysOut l w = PO at *
  go_enter Tryz.func25, Tryz.ntmps25
  go_upto_block 1 with (fail)
  have HMT := hide hmt
  clear hA hmt R
  go_loopw [13] (fun i9 wr => ∃ (j n : Nat) (D : DataW Unit), j ≤ l.length ∧ i9 = .int .i64 j ∧ n ≤ j ∧ Hid (NF w.heap.size wr n D (dyF l j)) ∧ Hid (Below w.heap.size w wr)) (fun i9 _ => l.length - (intOf i9).toNat)
  case atStart => exact ⟨0, 0, .map [], Nat.zero_le _, rfl, Nat.le_refl _, hide (by rw [dyF_zero]; exact nf_made w rfl), hide (by repeat (first | with_reducible exact Below.refl _ _ | with_reducible refine bl_plus ?_ | with_reducible refine bl_alloc ?_ _ | with_reducible refine bl_drew ?_ | with_reducible refine bl_drewN ?_ _))⟩
  case round =>
    obtain ⟨j, n, D, hj, rfl, hn, HNF, HB⟩ := hrel
    by_cases hlt : j < l.length
    · obtain ⟨b, o, A1, c1, A2, c2, rfl, hlb, q0, q1, q2, q3, q4, -, -⟩ := HA.out.getB HB.out hlt
      have i1 : (j : Int) < (l.length : Int) := by omega
      have HKD := hide (HA.out.getB HB.out HR.out.pos)
      go_upto_region 5 with (fail)
      have HN2 := hide (HNF.out.below (bl_alloc (Below.refl _ _) (.cells #[.int .i64 l[j].id, .int .i64 l[j].par, .slice A1 l[j].kids.length c1, .string l[j].txt, .slice A2 l[j].ps.length c2] 82)))
      have HB2 := hide (bl_alloc HB.out (.cells #[.int .i64 l[j].id, .int .i64 l[j].par, .slice A1 l[j].kids.length c1, .string l[j].txt, .slice A2 l[j].ps.length c2] 82))
      have HX := hide (Blk.new wr 82 #[.int .i64 l[j].id, .int .i64 l[j].par, .slice A1 l[j].kids.length c1, .string l[j].txt, .slice A2 l[j].ps.length c2])
      have HRD := hide (fun W => readDate_any l[j].txt W (by have := HR.out.txt _ (List.getElem_mem hlt); omega))
      have HBX := hide (bl_alloc (Below.refl wr.heap.size wr) (.cells #[.int .i64 l[j].id, .int .i64 l[j].par, .slice A1 l[j].kids.length c1, .string l[j].txt, .slice A2 l[j].ps.length c2] 82))
      generalize wr.alloc (.cells #[.int .i64 l[j].id, .int .i64 l[j].par, .slice A1 l[j].kids.length c1, .string l[j].txt, .slice A2 l[j].ps.length c2] 82) = W2 at *
      obtain ⟨b', o', K1, k1, K2, k2, e9, hlb9, -, -, z2, -, -, hks, -⟩ := HKD.out
      injection e9 with e9
      injection e9 with e91 e92
      subst e91 e92
      rw [← pgs_eq HR.out.pos] at z2 hks
      have hz2 : wr.cell? ⟨b, o + 2, none⟩ = some (.slice K1 (pgs l).length k1) := by simpa using z2
      have HKS := hide hks
      have HQ := hide (fun W (hb : Below W2.heap.size W2 W) => (⟨(HX.out.below hb HX.out.lt).cell 0, (HX.out.below hb HX.out.lt).cell 3, Nat.lt_of_lt_of_le HX.out.lt hb.size, ((below_chainT HBX.out hb).cell (p := ⟨b, o + 2, none⟩) hlb).trans hz2, Nat.lt_of_lt_of_le hlb (below_chainT HBX.out hb).size⟩ : W.cell? ⟨wr.heap.size, 0, none⟩ = some (.int .i64 l[j].id) ∧ W.cell? ⟨wr.heap.size, 3, none⟩ = some (.string l[j].txt) ∧ wr.heap.size < W.heap.size ∧ W.cell? ⟨b, o + 2, none⟩ = some (.slice K1 (pgs l).length k1) ∧ b < W.heap.size))
      have HRD2 := hide (show ∀ W, Calls Tryz.prog 61 #[.string l[j].txt] W fun e w' => e = .returned (.tuple #[.int .i64 (dyR l[j]).1, .int .i64 (dyR l[j]).2]) ∧ Below W.heap.size W w' from HRD.out)
      have hdi := dyR_in l[j]
      have HLK := hide (fun W (hb : Below W2.heap.size W2 W) => (HN2.out.below hb).lookOk (x := (dyR l[j]).1) ⟨hdi.1, hdi.2.1⟩)
      have HCN := hide (fun W (hb : Below W2.heap.size W2 W) => containsI_any K1 k1 (pgs l) l[j].id W (HKS.out.below (below_chainT HB2.out hb)) (by have := HR.out.pgs_len; omega))
      have HPT := hide (fun (h1 : (dyR l[j]).2 = 0) (h2 : dyF l j (dyR l[j]).1 = none) (h3 : l[j].id ∈ pgs l) => dyF_put hlt h1 h2 (decide_eq_true h3))
      have HSK := hide (fun h => dyF_skip hlt h)
      clear HKD z2 hks hz2 hlb9 HRD q0 q1 q2 q3 q4 HX HBX
      obtain ⟨qa, qb, qc, qd, qe⟩ := HQ.out W2 (Below.refl _ _)
      generalize wr.heap.size = gb at *
      generalize hdy : dyR l[j] = dy at *
      obtain ⟨d, er⟩ := dy
      (try simp only at *)
      go_upto_region 7 with (go_at_call 61; refine (HRD2.out _).mono ?_; rintro e w3 ⟨rfl, hb3⟩; obtain ⟨qa3, qb3, qc3, qd3, qe3⟩ := HQ.out w3 hb3; have hlk3 := HLK.out w3 hb3; have HB3 := hide hb3; clear hb3)
      clear HRD2 HLK hlk3 qa qb qc qd qe qb3
      have HCN3 := hide (fun n => HCN.out (w3.drewN n) (bl_drewN HB3.out n))
      clear HCN HKS
      go_cut [48] from 29 to 48 (fun s48 wx => s48 = .bool ((er == 0) && (!(dyF l j d).isSome && ((l[j].id != 0) && decide (l[j].id ∈ pgs l)))) ∧ ∃ n9, wx = w3.drewN n9)
      case first =>
        generalize hb1 : (er == 0) = b1 at *
        generalize hb2 : (dyF l j d).isSome = b2 at *
        generalize hb3 : (l[j].id != 0) = b3 at *
        generalize decide (l[j].id ∈ pgs l) = b4 at *
        cases b1 <;> cases b2 <;> cases b3
        all_goals
          go_quiet ((go_at_call 44; exact Calls.quiet_of_same ((HCN3.out _).mono fun _ _ h => ⟨h.1, h.2.symm⟩)))
          go_wp2
          go_meet
          exact ⟨rfl, _, rfl⟩
      case rest =>
        obtain ⟨rfl, n9, rfl⟩ := hcut
        have HB5 := hide (bl_drewN HB3.out n9)
        have HN5 := hide (HN2.out.below HB5.out)
        obtain ⟨qa5, -, qc5, -, -⟩ := HQ.out _ HB5.out
        have HBW := hide (below_chainT HB2.out HB5.out)
        clear HN2 HB2 HQ HB3 HB5 HCN3
        generalize w3.drewN n9 = W5 at *
        cases hcb : ((er == 0) && (!(dyF l j d).isSome && ((l[j].id != 0) && decide (l[j].id ∈ pgs l)))) with
        | true =>
          simp only [Bool.and_eq_true, Bool.not_eq_true', decide_eq_true_eq, beq_iff_eq] at hcb
          obtain ⟨k1, k2, k3, k4⟩ := hcb
          have hpp := HR.out.pgs_pos k4
          have hput := HPT.out k1 (Option.isNone_iff_eq_none.1 (by simp [Option.isNone, k2] <;> cases hx : dyF l j d <;> simp_all)) k4
          obtain ⟨p, hp⟩ : ∃ p : Nat, l[j].id = (p : Int) := ⟨l[j].id.toNat, by omega⟩
          rw [hp, Int.toNat_natCast] at hput
          rw [hp] at qa5 hpp
          have hkey := keyOf_int_mk (P := Tryz.prog) Tryz.underlying3 (show In64 d from ⟨hdi.1, hdi.2.1⟩).wf
          have hn9 : n < maxLen := by unfold maxLen; omega
          go_wp2_with (at_mapUpdate; go_loud (refine wpList_mapUpdate_own _ rfl _ _ _ 52 rfl 3 3 lawI Tryz.underlying52 _ w.heap.size n D rfl HN5.out.own hn9 _ _ _ rfl rfl hkey _ [] (plainElem_int Tryz.underlying3 (wf_nat (d := p) (by omega))) ?_; intro w8 hown8 hgr8; have HN8 := hide (HN5.out.put (d := p) hown8); have HB8 := hide (HBW.out.grown hgr8 (Below.size HBW.out) (fun k hk => by injection hk with hk; rw [← hk]; exact Nat.le_refl _)); clear hown8 hgr8))
          go_roundw
          case rel => exact ⟨j + 1, n + 1, _, by omega, by go_num, by omega, hide (by rw [← hput]; exact HN8.out), HB8⟩
          case measure => simp [intOf]; omega
        | false =>
          have hsk := HSK.out (fun ⟨a1, a2, a3⟩ => by
            have hpp := HR.out.pgs_pos (of_decide_eq_true a3)
            have h3 : (l[j].id != 0) = true := bne_iff_ne.2 (by omega)
            have h4 : decide (l[j].id ∈ pgs l) = true := a3
            have a1' : er = 0 := a1
            have a2' : dyF l j d = none := a2
            rw [a1', a2', h3, h4] at hcb
            exact absurd hcb (by decide))
          clear hcb
          go_wp2
          go_roundw
          case rel => exact ⟨j + 1, n, D, by omega, by go_num, by omega, hide (by rw [hsk]; exact HN5.out), HBW⟩
          case measure => simp [intOf]; omega
    · obtain rfl : j = l.length := by omega
      have HR9 := hide (show PO (.returned (.map (some w.heap.size))) wr from by rw [← hPO]; exact ⟨w.heap.size, n, D, rfl, Nat.le_refl _, HNF.out, hn, HB.out⟩)
      go_wp2
      exact HR9.out

end Go.Proofs.YtioppoaijehicaaGreatDoor
