/-
  PLAIN: a simulated time is the same as its two parts.
-/
import Derived.Test.YtokghdcfbbogdaaSim
namespace Go.Proofs.Ytokghdcfbbogdaa
open Go.RowKit

theorem simAsk_cnt {gs : List Int} {d : Int} : ∀ (zs : List Int) (xs : List St) (g : Nat) (ys : List St) (h : Nat), simAsk gs d zs xs g = some (ys, h) → h = g + zs.length ∧ (g ≤ 20000 → h ≤ 20000) ∧ ys.length = xs.length := by
  intro zs
  induction zs with
  | nil => intro xs g ys h e; simp only [simAsk, Option.some.injEq, Prod.mk.injEq] at e; rw [← e.1, ← e.2]; simp
  | cons z zs ih =>
    intro xs g ys h e
    simp only [simAsk] at e
    split at e
    · cases e
    · split at e
      · cases e
      · obtain ⟨h1, h2, h3⟩ := ih _ _ _ _ e
        refine ⟨by rw [h1, List.length_cons]; omega, fun hg => h2 (by omega), by rw [h3, List.length_set]⟩
theorem simAsk_shift {gs rs : List Int} {d : Int} {o : Nat} (hn : ∀ k, nextGrade rs k = nextGrade gs (o + k)) : ∀ (zs : List Int) (xs : List St) (g : Nat) (ys : List St) (h : Nat), o + g ≤ 20000 → simAsk gs d zs xs (o + g) = some (ys, h) → ∃ h', h = o + h' ∧ h ≤ 20000 ∧ simAsk rs d zs xs g = some (ys, h') := by
  intro zs
  induction zs with
  | nil => intro xs g ys h hg e; simp only [simAsk, Option.some.injEq, Prod.mk.injEq] at e; exact ⟨g, e.2.symm, by omega, by simp [simAsk, e.1]⟩
  | cons z zs ih =>
    intro xs g ys h hg e
    simp only [simAsk] at e ⊢
    split at e
    · cases e
    · rename_i h1
      rw [if_neg (by omega)]
      split at e
      · cases e
      · rw [hn]
        exact ih _ _ _ _ (by omega) (by rw [← Nat.add_assoc]; exact e)
theorem simDays_shift {gs rs : List Int} {bn ba : Int} {o : Nat} (hn : ∀ k, nextGrade rs k = nextGrade gs (o + k)) : ∀ (n : Nat) (d : Int) (xs : List St) (g : Nat) (cs : List Int) (r : List St × List Int), o + g ≤ 20000 → simDays gs bn ba n d xs (o + g) cs = some r → simDays rs bn ba n d xs g cs = some r := by
  intro n
  induction n with
  | zero => intro d xs g cs r _ e; exact e
  | succ n ih =>
    intro d xs g cs r hg e
    simp only [simDays] at e ⊢
    split at e
    · cases e
    · rename_i ys h he
      obtain ⟨h', rfl, h2, h3⟩ := simAsk_shift hn _ _ _ _ _ hg he
      rw [h3]
      exact ih _ _ _ _ _ (by omega) e

def sumN (l : List Int) : Nat := (l.map Int.toNat).sum
theorem sumN_snoc (l : List Int) (k : Nat) (h : k < l.length) : sumN (l.take (k + 1)) = sumN (l.take k) + l[k].toNat := by
  unfold sumN
  rw [List.take_succ_eq_append_getElem h]
  simp only [List.map_append, List.map_cons, List.map_nil, List.sum_append, List.sum_cons, List.sum_nil, Nat.add_zero]
theorem sumN_le (l : List Int) (k : Nat) : sumN (l.take k) ≤ sumN l := by
  have h : sumN l = sumN (l.take k) + sumN (l.drop k) := by
    unfold sumN; rw [← List.sum_append, ← List.map_append, List.take_append_drop]
  omega
theorem simDays_front {gs : List Int} {bn ba : Int} (c : List Int) : ∀ (n : Nat) (d : Int) (xs : List St) (g : Nat) (cs : List Int), simDays gs bn ba n d xs g (c ++ cs) = (simDays gs bn ba n d xs g cs).map fun r => (r.1, c ++ r.2) := by
  intro n
  induction n with
  | zero => intro d xs g cs; rfl
  | succ n ih =>
    intro d xs g cs
    simp only [simDays]
    split
    · rfl
    · rw [List.append_assoc]; exact ih _ _ _ _
theorem simDays_pre {gs : List Int} {bn ba : Int} : ∀ (n : Nat) (d : Int) (xs : List St) (g : Nat) (ys : List St) (m : List Int), simDays gs bn ba n d xs g [] = some (ys, m) →
    m.length = n ∧ (g ≤ 20000 → g + sumN m ≤ 20000) ∧ ys.length = xs.length := by
  intro n
  induction n with
  | zero => intro d xs g ys t e; simp only [simDays, Option.some.injEq, Prod.mk.injEq] at e; exact ⟨by simp [← e.2], by simp [sumN, ← e.2], by rw [e.1]⟩
  | succ n ih =>
    intro d xs g ys t e
    simp only [simDays] at e
    split at e
    · cases e
    · rename_i zs h he
      rw [List.nil_append, ← List.append_nil [((todayList xs d 0 0 bn ba).length : Int)], simDays_front] at e
      cases hq : simDays gs bn ba n (d + 1) zs h [] with
      | none => rw [hq] at e; cases e
      | some r =>
        rw [hq] at e
        simp only [Option.map_some, Option.some.injEq, Prod.mk.injEq] at e
        obtain ⟨us, m⟩ := r
        obtain ⟨h1, h2, h3⟩ := ih _ _ _ _ _ hq
        obtain ⟨k1, k2, k3⟩ := simAsk_cnt _ _ _ _ _ he
        simp only at e
        rw [← e.2, ← e.1]
        refine ⟨by simp [h1], fun hg => ?_, by rw [h3, k3]⟩
        have := h2 (k2 hg)
        unfold sumN at this ⊢
        simp only [List.cons_append, List.nil_append, List.map_cons, List.sum_cons, Int.toNat_natCast]
        omega
/-- The days in two parts. -/
theorem simDays_add {gs : List Int} {bn ba : Int} (n2 : Nat) : ∀ (n1 : Nat) (d : Int) (xs : List St) (g : Nat) (us : List St) (t : List Int), simDays gs bn ba (n1 + n2) d xs g [] = some (us, t) →
    ∃ ys m m2, simDays gs bn ba n1 d xs g [] = some (ys, m) ∧ simDays gs bn ba n2 (d + n1) ys (g + sumN m) [] = some (us, m2) ∧ t = m ++ m2 := by
  intro n1
  induction n1 with
  | zero => intro d xs g us t e; exact ⟨xs, [], t, rfl, by simpa [sumN] using e, rfl⟩
  | succ n1 ih =>
    intro d xs g us t e
    rw [Nat.add_right_comm] at e
    simp only [simDays] at e ⊢
    split at e
    · cases e
    · rename_i zs h he
      rw [List.nil_append, ← List.append_nil [((todayList xs d 0 0 bn ba).length : Int)], simDays_front] at e ⊢
      cases hq : simDays gs bn ba (n1 + n2) (d + 1) zs h [] with
      | none => rw [hq] at e; cases e
      | some r =>
        obtain ⟨us', t'⟩ := r
        rw [hq] at e
        simp only [Option.map_some, Option.some.injEq, Prod.mk.injEq] at e
        obtain ⟨ys, m, m2, h1, h2, h3⟩ := ih _ _ _ _ _ hq
        obtain ⟨k1, k2, k3⟩ := simAsk_cnt _ _ _ _ _ he
        refine ⟨ys, ((todayList xs d 0 0 bn ba).length : Int) :: m, m2, by rw [h1]; rfl, ?_, by rw [← e.2, h3]; rfl⟩
        have e1 : d + ((n1 + 1 : Nat) : Int) = d + 1 + (n1 : Int) := by omega
        have e2 : g + sumN (((todayList xs d 0 0 bn ba).length : Int) :: m) = h + sumN m := by
          unfold sumN; simp only [List.map_cons, List.sum_cons, Int.toNat_natCast]; omega
        rw [e1, e2, h2, e.1]

/-! ### States stay right -/
theorem simAsk_right {gs : List Int} {d : Int} (hg : gradesOk gs = true) (h0 : 0 < gs.length) (hd : 0 ≤ d ∧ d ≤ 100000) : ∀ (zs : List Int) (xs : List St) (g : Nat) (ys : List St) (h : Nat), statesErr xs = 0 → (∀ z ∈ zs, Askable xs d z) → simAsk gs d zs xs g = some (ys, h) → statesErr ys = 0 := by
  intro zs
  induction zs with
  | nil => intro xs g ys h hx _ e; simp only [simAsk, Option.some.injEq, Prod.mk.injEq] at e; rw [← e.1]; exact hx
  | cons z zs ih =>
    intro xs g ys h hx ha e
    obtain ⟨i, x, rfl, hxi, hl⟩ := ha z (List.mem_cons_self ..)
    have hi : i < xs.length := by
      rcases Nat.lt_or_ge i xs.length with h' | h'
      · exact h'
      · rw [List.getElem?_eq_none h'] at hxi; cases hxi
    have hxx : xs[i] = x := by rw [List.getElem?_eq_getElem hi] at hxi; injection hxi
    simp only [simAsk, Int.toNat_natCast, hxi] at e
    split at e
    · cases e
    · have hgr := nextGrade_ok hg h0 g
      have hxe : x.err = 0 := by rw [← hxx]; exact err_of_statesErr hx i hi
      have hge : gradeErr x (nextGrade gs g) d = 0 := by unfold gradeErr; rw [if_neg (by omega), if_neg (by omega), if_neg (by omega)]
      have hye := St.err_graded hxe hge
      refine ih _ _ _ _ (statesErr_set hx hi hye (by rw [hxx]; rfl) (by rw [hxx]; rfl)) (fun z hz => askable_set (Int.le_refl _) (ha z (List.mem_cons_of_mem _ hz))) e
theorem simDays_right {gs : List Int} {bn ba : Int} (hg : gradesOk gs = true) (h0 : 0 < gs.length) : ∀ (n : Nat) (d : Int) (xs : List St) (g : Nat) (cs : List Int) (ys : List St) (t : List Int), 0 ≤ d → d + n ≤ 100000 → statesErr xs = 0 → simDays gs bn ba n d xs g cs = some (ys, t) → statesErr ys = 0 := by
  intro n
  induction n with
  | zero => intro d xs g cs ys t _ _ hx e; simp only [simDays, Option.some.injEq, Prod.mk.injEq] at e; rw [← e.1]; exact hx
  | succ n ih =>
    intro d xs g cs ys t hd hdn hx e
    simp only [simDays] at e
    split at e
    · cases e
    · rename_i zs h he
      exact ih _ _ _ _ _ _ (by omega) (by omega) (simAsk_right hg h0 ⟨hd, by omega⟩ _ _ _ _ _ hx (todayList_askable hx hd) he) e

/-! ### No day has more than its bounds -/
theorem todayList_bound (xs : List St) (d bn ba : Int) (h : 0 ≤ ba) : ((todayList xs d 0 0 bn ba).length : Int) ≤ ba := by
  unfold todayList tdTo tdRoom
  have h1 : (tdOut xs d 0 ba).length ≤ tdLeft 0 ba := by unfold tdOut; rw [List.length_take]; omega
  have h2 : (tdLeft 0 ba : Int) = ba := by unfold tdLeft; omega
  simp only [List.length_append, List.length_take]
  omega
theorem simDays_bound {gs : List Int} {bn ba : Int} (hb : 0 ≤ ba) : ∀ (n : Nat) (d : Int) (xs : List St) (g : Nat) (cs : List Int) (ys : List St) (t : List Int), (∀ c ∈ cs, 0 ≤ c ∧ c ≤ ba) → simDays gs bn ba n d xs g cs = some (ys, t) → ∀ c ∈ t, 0 ≤ c ∧ c ≤ ba := by
  intro n
  induction n with
  | zero => intro d xs g cs ys t hc e; simp only [simDays, Option.some.injEq, Prod.mk.injEq] at e; rw [← e.2]; exact hc
  | succ n ih =>
    intro d xs g cs ys t hc e
    simp only [simDays] at e
    split at e
    · cases e
    · refine ih _ _ _ _ _ _ (fun c hcm => ?_) e
      rcases List.mem_append.1 hcm with h | h
      · exact hc c h
      · simp only [List.mem_singleton] at h
        subst h
        exact ⟨by omega, todayList_bound xs d bn ba hb⟩

/-! ### The grades, begun elsewhere -/
theorem turned_grade {gs : List Int} {o : Nat} (h0 : 0 < gs.length) (k : Nat) : nextGrade (gs.drop (o % gs.length) ++ gs.take (o % gs.length)) k = nextGrade gs (o + k) := by
  have hr : o % gs.length < gs.length := Nat.mod_lt _ h0
  have hk : k % gs.length < gs.length := Nat.mod_lt _ h0
  have hl : (gs.drop (o % gs.length) ++ gs.take (o % gs.length)).length = gs.length := by simp only [List.length_append, List.length_drop, List.length_take]; omega
  have hm : (o + k) % gs.length = (o % gs.length + k % gs.length) % gs.length := Nat.add_mod ..
  unfold nextGrade
  rw [hl, hm]
  generalize o % gs.length = r at hr hl ⊢
  generalize k % gs.length = q at hk ⊢
  by_cases h : q < gs.length - r
  · rw [List.getElem?_append_left (by simp only [List.length_drop]; omega), List.getElem?_drop, Nat.mod_eq_of_lt (by omega)]
  · have : (r + q) % gs.length = q - (gs.length - r) := by rw [Nat.mod_eq_sub_mod (by omega), Nat.mod_eq_of_lt (by omega)]; omega
    rw [List.getElem?_append_right (by simp only [List.length_drop]; omega), List.length_drop, this, List.getElem?_take_of_lt (by omega)]
theorem turned_ok {gs : List Int} {r : Nat} (h : gradesOk gs = true) : gradesOk (gs.drop r ++ gs.take r) = true := by
  unfold gradesOk at h ⊢
  rw [List.all_eq_true] at h ⊢
  intro g hg
  rcases List.mem_append.1 hg with hg | hg
  · exact h g (List.mem_of_mem_drop hg)
  · exact h g (List.mem_of_mem_take hg)
theorem simErr_of {gs : List Int} {fr days bn ba : Int} (h0 : 0 < gs.length) (h1 : gs.length ≤ 20000) (h2 : gradesOk gs = true) (h3 : 0 ≤ fr ∧ fr ≤ 100000) (h4 : 0 ≤ days ∧ days ≤ 1500) (h5 : fr + days ≤ 100000) (h6 : bndOk bn ba) : simErr gs fr days bn ba = 0 := by
  unfold simErr
  rw [if_neg (by omega), if_neg (by simp [h2]), if_neg (by omega), if_pos h6]

/-- A simulated time in two parts. -/
theorem simulate_two {xs : List St} {gs : List Int} {fr bn ba : Int} {N1 N2 : Nat} {all : List St} {counts : List Int} (h : simulate xs gs fr ((N1 + N2 : Nat) : Int) bn ba = ((all, counts), 0)) (hx : statesErr xs = 0) (hs : simErr gs fr ((N1 + N2 : Nat) : Int) bn ba = 0)
    (h0 : 0 < gs.length) (hgl : gs.length ≤ 20000) (hgk : gradesOk gs = true) (hfr : 0 ≤ fr ∧ fr ≤ 100000) (hN : N1 + N2 ≤ 1500) (hfN : fr + ((N1 + N2 : Nat) : Int) ≤ 100000) (hbd : bndOk bn ba) :
    ∃ one n m, simulate xs gs fr (N1 : Int) bn ba = ((one, n), 0) ∧ n.length = N1 ∧ sumN n ≤ 20000 ∧ (∀ c ∈ n, 0 ≤ c) ∧ simulate one (gs.drop (sumN n % gs.length) ++ gs.take (sumN n % gs.length)) (fr + N1) (N2 : Int) bn ba = ((all, m), 0) ∧ n ++ m = counts ∧ m.length = N2 ∧
      (∀ c ∈ counts, c ≤ ba) ∧ all.length = xs.length := by
  have e : ∀ (xs : List St) (gs : List Int) (fr : Int) (N : Nat), statesErr xs = 0 → simErr gs fr N bn ba = 0 → simulate xs gs fr N bn ba = match simDays gs bn ba N fr xs 0 [] with | none => (([], []), 14) | some r => (r, 0) := fun xs gs fr N a b => by
    unfold simulate; rw [if_pos a, if_pos b, Int.toNat_natCast]; cases simDays gs bn ba N fr xs 0 [] <;> rfl
  rw [e _ _ _ _ hx hs] at h
  cases hD : simDays gs bn ba (N1 + N2) fr xs 0 [] with
  | none => rw [hD] at h; simp at h
  | some r =>
    rw [hD] at h
    simp only [Prod.mk.injEq, and_true] at h
    subst h
    have hbound := simDays_bound hbd.2.1 _ _ _ _ _ _ _ (fun c hc => by cases hc) hD
    obtain ⟨one, n, m, h1, h2, h3⟩ := simDays_add N2 N1 _ _ _ _ _ hD
    obtain ⟨hnl, hsum, _⟩ := simDays_pre _ _ _ _ _ _ h1
    obtain ⟨hml, _, _⟩ := simDays_pre _ _ _ _ _ _ h2
    have hright := simDays_right hgk h0 _ _ _ _ _ _ _ hfr.1 (by omega) hx h1
    have hnb := simDays_bound hbd.2.1 _ _ _ _ _ _ _ (fun c hc => by cases hc) h1
    have hs20 : sumN n ≤ 20000 := by have := hsum (by omega); omega
    have hsh := simDays_shift (rs := gs.drop (sumN n % gs.length) ++ gs.take (sumN n % gs.length)) (o := sumN n) (fun k => turned_grade h0 k) N2 (fr + N1) one 0 [] (all, m) (by omega) (by rw [Nat.zero_add] at h2; exact h2)
    have hrl : (gs.drop (sumN n % gs.length) ++ gs.take (sumN n % gs.length)).length = gs.length := by simp only [List.length_append, List.length_drop, List.length_take]; have := Nat.mod_lt (sumN n) h0; omega
    refine ⟨one, n, m, ?_, hnl, hs20, fun c hc => (hnb c hc).1, ?_, h3.symm, hml, fun c hc => (hbound c hc).2, (simDays_pre _ _ _ _ _ _ hD).2.2⟩
    · rw [e _ _ _ _ hx (simErr_of h0 hgl hgk hfr (by omega) (by omega) hbd), h1]
    · rw [e _ _ _ _ hright (simErr_of (by omega) (by omega) (turned_ok hgk) (by omega) (by omega) (by omega) hbd), hsh]

end Go.Proofs.Ytokghdcfbbogdaa
