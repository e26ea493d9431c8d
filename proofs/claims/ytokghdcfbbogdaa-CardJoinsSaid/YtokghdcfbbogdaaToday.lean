/-
  PLAIN: what is asked on a day.
-/
import Derived.Test.YtokghdcfbbogdaaDueD
import Derived.Test.YtokghdcfbbogdaaMapA
namespace Go.Proofs.Ytokghdcfbbogdaa
open Go.RowKit

/-- The cards of the first k reviews. -/
def seenKV (rs : List Rv) : Nat → KV
  | 0 => []
  | k + 1 => match rs[k]? with
    | none => seenKV rs k
    | some r => kvPut (r.bl, r.no) (.bool true) (seenKV rs k)
theorem seenKV_succ {rs : List Rv} {k : Nat} {r : Rv} (h : rs[k]? = some r) : seenKV rs (k + 1) = kvPut (r.bl, r.no) (.bool true) (seenKV rs k) := by simp [seenKV, h]
theorem seenKV_set (rs : List Rv) (k : Nat) : kvSet (seenKV rs k) := by
  induction k with
  | zero => intro p hp; simp [seenKV] at hp
  | succ k ih =>
    unfold seenKV
    split
    · exact ih
    · exact kvSet_put ih
/-- Of the first k reviews: how many are of the day; how many of these are the first of their card. -/
def cntAll (rs : List Rv) (d : Int) : Nat → Nat
  | 0 => 0
  | k + 1 => match rs[k]? with
    | none => cntAll rs d k
    | some r => if r.da = d then cntAll rs d k + 1 else cntAll rs d k
def cntFirst (rs : List Rv) (d : Int) : Nat → Nat
  | 0 => 0
  | k + 1 => match rs[k]? with
    | none => cntFirst rs d k
    | some r => if r.da = d ∧ kvHas (r.bl, r.no) (seenKV rs k) = false then cntFirst rs d k + 1 else cntFirst rs d k
theorem cntAll_yes {rs : List Rv} {d : Int} {k : Nat} {r : Rv} (h : rs[k]? = some r) (hd : r.da = d) : cntAll rs d (k + 1) = cntAll rs d k + 1 := by simp [cntAll, h, hd]
theorem cntAll_no {rs : List Rv} {d : Int} {k : Nat} {r : Rv} (h : rs[k]? = some r) (hd : ¬ r.da = d) : cntAll rs d (k + 1) = cntAll rs d k := by simp [cntAll, h, hd]
theorem cntFirst_yes {rs : List Rv} {d : Int} {k : Nat} {r : Rv} (h : rs[k]? = some r) (hd : r.da = d) (hk : kvHas (r.bl, r.no) (seenKV rs k) = false) : cntFirst rs d (k + 1) = cntFirst rs d k + 1 := by simp [cntFirst, h, hd, hk]
theorem cntFirst_no {rs : List Rv} {d : Int} {k : Nat} {r : Rv} (h : rs[k]? = some r) (hd : ¬ (r.da = d ∧ kvHas (r.bl, r.no) (seenKV rs k) = false)) : cntFirst rs d (k + 1) = cntFirst rs d k := by
  simp only [cntFirst, h]; rw [if_neg hd]
theorem cntAll_le (rs : List Rv) (d : Int) (k : Nat) : cntAll rs d k ≤ k := by
  induction k with
  | zero => exact Nat.le_refl _
  | succ k ih =>
    unfold cntAll
    split
    · omega
    · split <;> omega
theorem cntFirst_le (rs : List Rv) (d : Int) (k : Nat) : cntFirst rs d k ≤ k := by
  induction k with
  | zero => exact Nat.le_refl _
  | succ k ih =>
    unfold cntFirst
    split
    · omega
    · split <;> omega

/-- Never asked, and not put off. -/
def freshOn (d : Int) (x : St) : Bool := decide (x.du < 0 ∧ x.bu < d)
def tdLeft (all ba : Int) : Nat := (max (ba - all) 0).toNat
def tdOut (xs : List St) (d all ba : Int) : List Int := (dueList xs d).take (tdLeft all ba)
def tdRoom (xs : List St) (d first all bn ba : Int) : Nat := (min ((tdLeft all ba : Int) - ((tdOut xs d all ba).length : Int)) (max (bn - first) 0)).toNat
def tdTo (xs : List St) (d first all bn ba : Int) (k : Nat) : List Int := tdOut xs d all ba ++ (pick (freshOn d) xs k).take (tdRoom xs d first all bn ba)
def todayList (xs : List St) (d first all bn ba : Int) : List Int := tdTo xs d first all bn ba xs.length

theorem take_more {α : Type} {l : List α} {a : α} {n : Nat} (h : l.length < n) : (l ++ [a]).take n = l.take n ++ [a] := by
  rw [List.take_of_length_le (by simp; omega), List.take_of_length_le (by omega)]
theorem take_full {α : Type} {l m : List α} {n : Nat} (h : n ≤ l.length) : (l ++ m).take n = l.take n := by
  rw [List.take_append_of_le_length h]
theorem tdTo_yes {xs : List St} {d first all bn ba : Int} {k : Nat} {x : St} (h : xs[k]? = some x) (hp : freshOn d x = true) (hl : (pick (freshOn d) xs k).length < tdRoom xs d first all bn ba) :
    tdTo xs d first all bn ba (k + 1) = tdTo xs d first all bn ba k ++ [(k : Int)] := by
  unfold tdTo; rw [pick_yes h hp, take_more hl, List.append_assoc]
theorem tdTo_full {xs : List St} {d first all bn ba : Int} {k : Nat} {x : St} (h : xs[k]? = some x) (hl : tdRoom xs d first all bn ba ≤ (pick (freshOn d) xs k).length) :
    tdTo xs d first all bn ba (k + 1) = tdTo xs d first all bn ba k := by
  unfold tdTo
  cases hp : freshOn d x with
  | true => rw [pick_yes h hp, take_full hl]
  | false => rw [pick_no h hp]
theorem tdTo_no {xs : List St} {d first all bn ba : Int} {k : Nat} {x : St} (h : xs[k]? = some x) (hp : freshOn d x = false) : tdTo xs d first all bn ba (k + 1) = tdTo xs d first all bn ba k := by
  unfold tdTo; rw [pick_no h hp]
/-- How many more may be asked for the first time. -/
def tdRest (xs : List St) (d first all bn ba : Int) (k : Nat) : Nat := tdRoom xs d first all bn ba - (pick (freshOn d) xs k).length
theorem tdTo_len (xs : List St) (d first all bn ba : Int) (k : Nat) : (tdTo xs d first all bn ba k).length ≤ xs.length + k := by
  unfold tdTo tdOut
  have h1 := dueList_le xs d
  have h2 := pick_le (freshOn d) xs k
  simp only [List.length_append, List.length_take]
  omega
end Go.Proofs.Ytokghdcfbbogdaa
/-
  WALKS: today.
-/
namespace Go.Proofs.Ytokghdcfbbogdaa
open Go.RowKit
attribute [local go_sem high] run_max_i run_min_i

def TodayOut (ns : List Int) (w : World) (e : Ending) (w' : World) : Prop := ∃ v, e = .returned v ∧ HalfOwn w' w.heap.size v ns ∧ Below w.heap.size w w'
theorem HalfOwn.clip {w : World} {base : Nat} {A : Option Addr} {n c : Nat} {ns : List Int} (h : HalfOwn w base (.slice A n c) ns) : HalfOwn w base (.slice A n n) ns := by
  obtain ⟨A', c', hv, h1, h2, h3⟩ := h
  injection hv with e1 e2 e3
  subst e1 e2 e3
  refine ⟨A, ns.length, rfl, Nat.le_refl _, by omega, ?_⟩
  rcases h3 with ⟨h4, h5, h6⟩ | ⟨g, cur, hA, hg, hb, h4, h5⟩
  · exact .inl ⟨h4, h5, by omega⟩
  · exact .inr ⟨g, cur, hA, hg, hb, by omega, h5⟩
theorem HalfOwn.form {w : World} {base : Nat} {v : Value} {ns : List Int} (h : HalfOwn w base v ns) : ∃ A c, v = .slice A ns.length c ∧ ns.length ≤ c := by
  obtain ⟨A, c, rfl, h1, _⟩ := h
  exact ⟨A, c, rfl, h1⟩

set_option maxHeartbeats 3200000 in
set_option maxRecDepth 100000 in
theorem today_ok (A : Option Addr) (c : Nat) (xs : List St) (d first all bn ba : Int) (w : World) (hA : StsAt w A xs) (h : statesErr xs = 0) (hf : 0 ≤ first ∧ first ≤ 100000) (hal : 0 ≤ all ∧ all ≤ 100000) (hbn : 0 ≤ bn ∧ bn ≤ 5000) (hba : 0 ≤ ba ∧ ba ≤ 5000) :
    Calls Try.prog 69 #[.slice A xs.length c, .int .i64 d, .int .i64 first, .int .i64 all, .agg #[.int .i64 bn, .int .i64 ba]] w (TodayOut (todayList xs d first all bn ba) w) := by
  have hl := len_of_statesErr h
  have hdue := fun w h' => due_any A c xs d w h' h
  have HDu := hide hdue
  have HA := hide hA
  have zL : max (ba - all) 0 = (tdLeft all ba : Int) := by unfold tdLeft; omega
  have hL5 : tdLeft all ba ≤ 5000 := by unfold tdLeft; omega
  have hM : ∃ M : Nat, max (bn - first) 0 = (M : Int) := ⟨(max (bn - first) 0).toNat, by omega⟩
  obtain ⟨M, zM⟩ := hM
  have hM5 : M ≤ 5000 := by omega
  have hdl := dueList_le xs d
  have hout : (tdOut xs d all ba).length = min (dueList xs d).length (tdLeft all ba) := by unfold tdOut; rw [List.length_take]; omega
  have hroom : (tdRoom xs d first all bn ba : Int) = min ((tdLeft all ba : Int) - ((tdOut xs d all ba).length : Int)) (M : Int) := by unfold tdRoom; rw [zM]; omega
  have HT : Hid (∀ k, tdTo xs d first all bn ba k = tdOut xs d all ba ++ (pick (freshOn d) xs k).take (tdRoom xs d first all bn ba)) := fun k => rfl
  have HO : Hid (tdOut xs d all ba = (dueList xs d).take (tdLeft all ba)) := rfl
  have HY := hide (fun (k : Nat) (x : St) (h1 : xs[k]? = some x) (h2 : freshOn d x = true) h3 => tdTo_yes (first := first) (all := all) (bn := bn) (ba := ba) h1 h2 h3)
  have HF := hide (fun (k : Nat) (x : St) (h1 : xs[k]? = some x) h3 => tdTo_full (d := d) (first := first) (all := all) (bn := bn) (ba := ba) h1 h3)
  have HN := hide (fun (k : Nat) (x : St) (h1 : xs[k]? = some x) (h2 : freshOn d x = false) => tdTo_no (first := first) (all := all) (bn := bn) (ba := ba) h1 h2)
  have HLn := hide (tdTo_len xs d first all bn ba)
  unfold todayList
  generalize tdTo xs d first all bn ba = T at HT HY HF HN HLn ⊢
  generalize tdRoom xs d first all bn ba = Rm at hroom HT HY HF
  generalize tdLeft all ba = L at zL hL5 hout hroom HO
  generalize tdOut xs d all ba = O at hout hroom HT HO
  obtain ⟨q, hq⟩ : ∃ q, q = O.length := ⟨_, rfl⟩
  have zq : min ((dueList xs d).length : Int) (L : Int) = (q : Int) := by omega
  have zR : min ((L : Int) - (q : Int)) (M : Int) = (Rm : Int) := by rw [hroom, hq]
  have hqL : q ≤ L := by omega
  have hqn : q ≤ (dueList xs d).length := by omega
  have hRm : Rm ≤ 5000 := by omega
  have HQ := hide hq
  clear hdue hA h hout hroom hq
  go_enter Try.func69, Try.ntmps69
  go_upto_region 3 with (go_at_call 66; refine (HDu.out _ (HA.out.alloc _)).mono ?_; rintro e w' ⟨v, rfl, hhalf, hb⟩; obtain ⟨os2, n2, rfl⟩ := below_plus hb; clear hb)
  obtain ⟨Ad, cd, rfl, hcd⟩ := hhalf.form
  have hqc : q ≤ cd := by omega
  have hh := hhalf.take q hqn
  rw [HQ.out] at hh
  have hO2 : (dueList xs d).take O.length = O := by
    have h1 := HO.out
    have h2 := congrArg List.length h1
    rw [List.length_take] at h2
    have h3 : (dueList xs d).take O.length = (dueList xs d).take L := by rw [List.take_eq_take_iff]; omega
    rw [h3, ← h1]
  rw [hO2, ← HQ.out] at hh
  have HH := hide (hh.lower (base' := w.heap.size) (by rw [World.size_alloc]; omega))
  clear hhalf hh hO2
  go_wp2
  obtain ⟨os4, n4, e4⟩ := below_plus (show Below w.heap.size w (plus (w.alloc (.cells #[.int .i64 bn, .int .i64 ba] 43)) os2 n2) from by repeat (first | exact Below.refl _ _ | refine bl_plus ?_ | refine bl_alloc ?_ _ | refine bl_drew ?_))
  have HH2 : Hid (HalfOwn (plus w os4 n4) w.heap.size (.slice Ad q cd) (T 0)) := by
    have h1 := HH.out
    have h2 : T 0 = O := by rw [HT.out 0]; simp [pick]
    rw [e4] at h1
    rw [h2]
    exact h1
  rw [e4]
  clear e4 HH zL zq zR zM
  go_loopw [11, 12, 41] (fun lf v i wr => ∃ (k r : Nat) (os : Array Obj) (n : Nat), k ≤ xs.length ∧ i = .int .i64 k ∧ lf = .int .i64 r ∧ r = Rm - (pick (freshOn d) xs k).length ∧ wr = plus w os n ∧ HalfOwn wr w.heap.size v (T k))
    (fun _ _ i _ => xs.length - (intOf i).toNat)
  case atStart => exact ⟨0, Rm, _, _, Nat.zero_le _, rfl, rfl, by simp [pick], rfl, HH2.out⟩
  case round =>
    clear HH2
    obtain ⟨k, r, os, n, hk, rfl, rfl, hr, rfl, hown⟩ := hrel
    have hpl := pick_le (freshOn d) xs k
    have hTl := HLn.out k
    by_cases hlt : k < xs.length
    · obtain ⟨b, off, rfl, hb, hcell⟩ := HA.out (by omega)
      have hxk : xs[k]? = some xs[k] := List.getElem?_eq_getElem hlt
      have hc0 := hcell k hlt
      clear hcell
      generalize xs[k] = x at hc0 hxk
      have hcases : ((0 < r ∧ x.du < 0 ∧ x.bu < d) ∧ freshOn d x = true) ∨ (0 < r ∧ (x.du < 0 ∧ ¬ x.bu < d) ∧ freshOn d x = false) ∨ (0 < r ∧ ¬ x.du < 0 ∧ freshOn d x = false) ∨ ¬ 0 < r := by
        unfold freshOn
        simp only [decide_eq_true_eq, decide_eq_false_iff_not]
        omega
      obtain ⟨c0, c1, c2, c3, c4, c5, c6, c7, c8⟩ := hc0
      have HX := hide hxk
      have hr5 : r ≤ 5000 := by omega
      have HR := hide hr
      clear hxk hr
      rcases hcases with ⟨⟨q1, q2, q3⟩, hp⟩ | ⟨q1, ⟨q2, q3⟩, hp⟩ | ⟨q1, q2, hp⟩ | q1
      · have q1z : (0 : Int) < (r : Int) := by omega
        have HP := hide hp
        clear hp
        go_wp2_with ((at_builtin; refine wpList_append_half rfl (.tmp 59) (.tmp 61) rfl rfl w.heap.size _ (T k) _ _ rfl (hown.alloc _) rfl (by simp [plus_size]) (by omega) (by simp [plus_size]; omega) ?_; intro v' w1 hown1 hb1; obtain ⟨os3, n3, rfl⟩ := over_plus (L := w) rfl (by repeat (first | exact Below.refl _ _ | refine bl_plus ?_ | refine bl_alloc ?_ _ | refine bl_drew ?_)) hb1; clear hb1))
        go_roundw
        case rel => exact ⟨k + 1, r - 1, _, _, hlt, by go_num, by go_num, by rw [pick_yes HX.out HP.out]; simp; have := HR.out; omega, rfl, by rw [HY.out k x HX.out HP.out (by have := HR.out; omega)]; exact hown1⟩
        case measure => simp [intOf]; omega
      · have q1z : (0 : Int) < (r : Int) := by omega
        have HP := hide hp
        clear hp
        go_wp2
        go_roundw
        case rel => exact ⟨k + 1, r, _, _, hlt, by go_num, rfl, by rw [pick_no HX.out HP.out]; exact HR.out, by rw [plus_alloc], by rw [HN.out k x HX.out HP.out]; exact hown.alloc _⟩
        case measure => simp [intOf]; omega
      · have q1z : (0 : Int) < (r : Int) := by omega
        have HP := hide hp
        clear hp
        go_wp2
        go_roundw
        case rel => exact ⟨k + 1, r, _, _, hlt, by go_num, rfl, by rw [pick_no HX.out HP.out]; exact HR.out, by rw [plus_alloc], by rw [HN.out k x HX.out HP.out]; exact hown.alloc _⟩
        case measure => simp [intOf]; omega
      · have q1z : ¬ (0 : Int) < (r : Int) := by omega
        go_wp2
        go_roundw
        case rel =>
          refine ⟨k + 1, r, _, _, hlt, by go_num, rfl, ?_, by rw [plus_alloc], by rw [HF.out k x HX.out (by have := HR.out; omega)]; exact hown.alloc _⟩
          have h1 := HR.out
          cases hp : freshOn d x with
          | true => rw [pick_yes HX.out hp]; simp; omega
          | false => rw [pick_no HX.out hp]; exact h1
        case measure => simp [intOf]; omega
    · have hkl : k = xs.length := by omega
      subst hkl
      obtain ⟨B, c', rfl, hnc⟩ := hown.form
      have HW := hide hown
      clear hown
      go_wp2_with (go_at_call 72; refine (clipInts_any _ _ _ _ (by assumption)).mono ?_; rintro e w' ⟨rfl, rfl⟩)
      go_returns
      exact ⟨_, rfl, HW.out.clip, by repeat (first | exact Below.refl _ _ | refine bl_plus ?_ | refine bl_alloc ?_ _ | refine bl_drew ?_)⟩

end Go.Proofs.Ytokghdcfbbogdaa
/-
  WALKS: checkBounds and the reference's; Today.
-/
namespace Go.Proofs.Ytokghdcfbbogdaa
open Go.RowKit

def bndOk (bn ba : Int) : Prop := (0 ≤ bn ∧ bn ≤ 5000) ∧ (0 ≤ ba ∧ ba ≤ 5000)
instance (bn ba : Int) : Decidable (bndOk bn ba) := by unfold bndOk; infer_instance

set_option maxHeartbeats 1600000 in
set_option maxRecDepth 100000 in
theorem checkBounds_any (bn ba : Int) (w : World) :
    Calls Try.prog 68 #[.agg #[.int .i64 bn, .int .i64 ba]] w fun e w' => e = .returned (.int .i64 (if bndOk bn ba then 0 else 2)) ∧ Below w.heap.size w w' := by
  have hc : ((bn < 0 ∨ 5000 < bn) ∧ ¬ bndOk bn ba) ∨ ((0 ≤ bn ∧ bn ≤ 5000) ∧ (ba < 0 ∨ 5000 < ba) ∧ ¬ bndOk bn ba) ∨ ((0 ≤ bn ∧ bn ≤ 5000) ∧ (0 ≤ ba ∧ ba ≤ 5000) ∧ bndOk bn ba) := by unfold bndOk; omega
  rcases hc with ⟨h1, h⟩ | ⟨h1, h2, h⟩ | ⟨h1, h2, h⟩
  · rw [if_neg h]
    have H1 := hide (fun w => outside_yes bn 0 5000 w h1)
    clear h h1
    go_enter Try.func68, Try.ntmps68
    go_wp2_with (go_at_call 61; refine (H1.out _).mono ?_; rintro e w' ⟨rfl, rfl⟩)
    go_ret
    exact ⟨rfl, by repeat (first | exact Below.refl _ _ | refine bl_plus ?_ | refine bl_alloc ?_ _ | refine bl_drew ?_)⟩
  · rw [if_neg h]
    have H1 := hide (fun w => outside_no bn 0 5000 w h1.1 h1.2)
    have H2 := hide (fun w => outside_yes ba 0 5000 w h2)
    clear h h1 h2
    go_enter Try.func68, Try.ntmps68
    go_wp2_with (first | (go_at_call_of 61 (bn); refine (H1.out _).mono ?_; rintro e w' ⟨rfl, rfl⟩) | (go_at_call_of 61 (ba); refine (H2.out _).mono ?_; rintro e w' ⟨rfl, rfl⟩))
    go_ret
    exact ⟨rfl, by repeat (first | exact Below.refl _ _ | refine bl_plus ?_ | refine bl_alloc ?_ _ | refine bl_drew ?_)⟩
  · rw [if_pos h]
    have H1 := hide (fun w => outside_no bn 0 5000 w h1.1 h1.2)
    have H2 := hide (fun w => outside_no ba 0 5000 w h2.1 h2.2)
    clear h h1 h2
    go_enter Try.func68, Try.ntmps68
    go_wp2_with (first | (go_at_call_of 61 (bn); refine (H1.out _).mono ?_; rintro e w' ⟨rfl, rfl⟩) | (go_at_call_of 61 (ba); refine (H2.out _).mono ?_; rintro e w' ⟨rfl, rfl⟩))
    go_ret
    exact ⟨rfl, by repeat (first | exact Below.refl _ _ | refine bl_plus ?_ | refine bl_alloc ?_ _ | refine bl_drew ?_)⟩

set_option maxHeartbeats 1600000 in
set_option maxRecDepth 100000 in
theorem boundsFault_any (bn ba : Int) (w : World) :
    Calls Try.prog 70 #[.agg #[.int .i64 bn, .int .i64 ba]] w fun e w' => e = .returned (.bool (!decide (bndOk bn ba))) ∧ Below w.heap.size w w' := by
  have hc : (decide (bn < 0) = true ∧ bndOk bn ba = False) ∨ (decide (bn < 0) = false ∧ decide (5000 < bn) = true ∧ bndOk bn ba = False) ∨ (decide (bn < 0) = false ∧ decide (5000 < bn) = false ∧ decide (ba < 0) = true ∧ bndOk bn ba = False) ∨
      (decide (bn < 0) = false ∧ decide (5000 < bn) = false ∧ decide (ba < 0) = false ∧ decide (5000 < ba) = true ∧ bndOk bn ba = False) ∨ (decide (bn < 0) = false ∧ decide (5000 < bn) = false ∧ decide (ba < 0) = false ∧ decide (5000 < ba) = false ∧ bndOk bn ba = True) := by
    unfold bndOk
    simp only [eq_iff_iff, iff_false, iff_true, decide_eq_true_eq, decide_eq_false_iff_not]
    omega
  rcases hc with ⟨h1, h⟩ | ⟨h1, h2, h⟩ | ⟨h1, h2, h3, h⟩ | ⟨h1, h2, h3, h4, h⟩ | ⟨h1, h2, h3, h4, h⟩
  all_goals
    simp only [h, decide_false, decide_true, Bool.not_false, Bool.not_true]
    clear h
    go_enter Try.func70, Try.ntmps70
    go_wp2
    go_ret
    exact ⟨rfl, by repeat (first | exact Below.refl _ _ | refine bl_plus ?_ | refine bl_alloc ?_ _ | refine bl_drew ?_)⟩

end Go.Proofs.Ytokghdcfbbogdaa
