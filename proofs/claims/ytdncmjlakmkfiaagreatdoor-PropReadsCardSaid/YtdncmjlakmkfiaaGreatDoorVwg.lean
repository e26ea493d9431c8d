/-
  WALKS: a reader of values: an item, a list.
-/
import Derived.Test.YtdncmjlakmkfiaaGreatDoorVwe
import Derived.Test.YtdncmjlakmkfiaaGreatDoorOwnB
import Derived.Test.YtdncmjlakmkfiaaGreatDoorOwnG
import Derived.Deep.RegionLaw
import Derived.Deep.DeepCutAuto
set_option linter.all false
namespace Go.Proofs.YtdncmjlakmkfiaaGreatDoor
open Go.RowKit

def mk0 (x : V) : CVal := ⟨x, none, 0⟩

def flat0 (xs : List V) : List Value := flatCV (xs.map mk0)

theorem flat0_snoc (xs : List V) (x : V) (h : x.l = []) : flat0 (xs ++ [x]) = flat0 xs ++ [.int .i64 x.k, .int .i64 x.i, .int .i64 x.t, .string x.s, .slice none 0 0] := by
  unfold flat0
  rw [List.map_append, flatCV_append]
  congr 1
  show CVal.cells (mk0 x) ++ [] = _
  rw [List.append_nil]
  unfold CVal.cells mk0
  simp only [h, List.length_nil]

/-- The world of list: besides the value to be handed out, a value whose items are made. -/
structure LL (w W : World) (p : Nat) (s : ByteArray) (q : Nat) (bad far : Bool) (xs : List V) (A : Option Addr) (c : Nat) : Prop where
  st : St w w.heap.size W p s q bad far
  blk : Blk W (w.heap.size + 1) 24 #[.int .i64 7, .int .i64 0, .int .i64 0, .string ⟨#[]⟩, .slice A xs.length c]
  own : OwnK 5 24 W (w.heap.size + 2) (.slice A xs.length c) xs.length (flat0 xs)
  flat : ∀ y ∈ xs, y.l = []
  pw : p < w.heap.size
section
variable {w W W' : World} {p : Nat} {s : ByteArray} {q : Nat} {bad far : Bool} {xs : List V} {A : Option Addr} {c : Nat}

theorem LL.start (h : VR 118 w p s q bad far) : LL w ((w.alloc (.cells zVal 24)).alloc (.cells #[.int .i64 7, .int .i64 0, .int .i64 0, .string ⟨#[]⟩, .slice none 0 0] 24)) p s q bad far [] none 0 :=
  ⟨(St.start h).alloc _, by have := Blk.new (w.alloc (.cells zVal 24)) 24 #[.int .i64 7, .int .i64 0, .int .i64 0, .string ⟨#[]⟩, .slice none 0 0]; rwa [World.size_alloc] at this, OwnK.empty, (fun y hy => by cases hy), h.blk.lt⟩

theorem LL.call {q' : Nat} {b' f' : Bool} (h : LL w W p s q bad far xs A c) (ht : Trn p W W') (hv : VR 118 W' p s q' b' f') : LL w W' p s q' b' f' xs A c :=
  ⟨h.st.step ht hv, ht.blk h.blk (by have := h.pw; omega), h.own.kept fun k hk => by have := h.own.lt k hk; have := h.pw; exact ht.same k (by omega) (by omega), h.flat, h.pw⟩

theorem LL.below_ (h : LL w W p s q bad far xs A c) (hb : Below W.heap.size W W') : LL w W' p s q bad far xs A c := h.call (Trn.of_below hb) (h.st.vr.below_ hb)

theorem LL.bad_ (h : LL w W p s q bad far xs A c) (b : Bool) : LL w (W.setCell ⟨p, 2, none⟩ (.bool b)) p s q b far xs A c := h.call (Trn.set _ _) (h.st.vr.bad_ b)

theorem LL.app {W1 : World} {x : V} {A' : Option Addr} {c' : Nat} (h : LL w W p s q bad far xs A c) (hx : x.l = []) (hb : Below (w.heap.size + 2) W W1) (ho : OwnK 5 24 W1 (w.heap.size + 2) (.slice A' (xs.length + 1) c') (xs.length + 1) (flat0 xs ++ [.int .i64 x.k, .int .i64 x.i, .int .i64 x.t, .string x.s, .slice none 0 0])) :
    LL w (W1.setCell ⟨w.heap.size + 1, 4, none⟩ (.slice A' (xs.length + 1) c')) p s q bad far (xs ++ [x]) A' c' := by
  have hpw := h.pw
  have hb2 : Below (w.heap.size + 1) W (W1.setCell ⟨w.heap.size + 1, 4, none⟩ (.slice A' (xs.length + 1) c')) := (hb.mono (show w.heap.size + 1 ≤ w.heap.size + 2 by omega)).setCell (p := ⟨w.heap.size + 1, 4, none⟩) (Nat.le_refl _) _
  have hl : (xs ++ [x]).length = xs.length + 1 := by simp
  refine ⟨h.st.low hb2 (by omega) (by omega), ?_, ?_, fun y hy => ?_, hpw⟩
  · rw [hl]
    exact (h.blk.below hb (by omega)).set_ 4 _
  · rw [hl, flat0_snoc xs x hx]
    exact ownK_set ho (by simp only; omega) _
  · rcases List.mem_append.1 hy with hy | hy
    · exact h.flat y hy
    · rw [List.mem_singleton] at hy; rw [hy]; exact hx

theorem LL.at_ (h : LL w W p s q bad far xs A c) : (W.cell? ⟨w.heap.size + 1, 0, none⟩ = some (.int .i64 7) ∧ W.cell? ⟨w.heap.size + 1, 1, none⟩ = some (.int .i64 0) ∧ W.cell? ⟨w.heap.size + 1, 2, none⟩ = some (.int .i64 0) ∧ W.cell? ⟨w.heap.size + 1, 3, none⟩ = some (.string ⟨#[]⟩) ∧ W.cell? ⟨w.heap.size + 1, 4, none⟩ = some (.slice A xs.length c)) ∧
    W.frozen? ⟨w.heap.size + 1, 4, none⟩ = false ∧ w.heap.size + 1 < W.heap.size ∧ ¬ w.heap.size + 1 = p ∧ ¬ p = w.heap.size + 1 :=
  ⟨⟨h.blk.cell 0, h.blk.cell 1, h.blk.cell 2, h.blk.cell 3, h.blk.cell 4⟩, h.blk.frozen 4, h.blk.lt, by have := h.pw; omega, by have := h.pw; omega⟩

/-- What the reading of any value hands out. -/
def ValOutB (T : TypeId) (p : Nat) (s : ByteArray) (k : Nat) (far : Bool) (O : Got) (w : World) (e : Ending) (w' : World) : Prop :=
  ∃ (x : V) (A : Option Addr) (c : Nat), e = .returned (x.arg A c) ∧ LIn w' (fun b => w.heap.size ≤ b ∧ b < w'.heap.size) A x.l ∧ x.l.length ≤ 400001 ∧ (∀ y ∈ x.l, y.l = []) ∧ Trn p w w' ∧ ∃ (k' : Nat) (b' f' : Bool), VR T w' p s k' b' f' ∧ k ≤ k' ∧ GotIs O s far x k' b' f'

theorem LeafOut.valB {T : TypeId} {p : Nat} {s : ByteArray} {k : Nat} {far : Bool} {O : Got} {w : World} {e : Ending} {w' : World} (h : LeafOut T p s k far O w e w') : ValOutB T p s k far O w e w' := by
  obtain ⟨x, A, c, h1, h2, h3, h4⟩ := h.val
  exact ⟨x, A, c, h1, h2, Nat.le_succ_of_le h3, h4⟩

/-- The list is handed out. -/
theorem LL.fin {k : Nat} {far0 : Bool} {O : Got} (h : LL w W p s q bad far xs A c) (hk : k ≤ q) (hlen : xs.length ≤ 400001) (hg : GotIs O s far0 (vList xs) q bad far) :
    ValOutB 118 p s k far0 O w (.returned (.agg #[.int .i64 7, .int .i64 0, .int .i64 0, .string ⟨#[]⟩, .slice A xs.length c])) (((((W.setCell ⟨w.heap.size, 0, none⟩ (.int .i64 7)).setCell ⟨w.heap.size, 1, none⟩ (.int .i64 0)).setCell ⟨w.heap.size, 2, none⟩ (.int .i64 0)).setCell ⟨w.heap.size, 3, none⟩ (.string ⟨#[]⟩)).setCell ⟨w.heap.size, 4, none⟩ (.slice A xs.length c)) := by
  have hE := h.st.end (.int .i64 7) (.int .i64 0) (.int .i64 0) (.string ⟨#[]⟩) (.slice A xs.length c)
  have ho := ownK_set (ownK_set (ownK_set (ownK_set (ownK_set h.own (p := ⟨w.heap.size, 0, none⟩) (by simp only; omega) (.int .i64 7)) (p := ⟨w.heap.size, 1, none⟩) (by simp only; omega) (.int .i64 0)) (p := ⟨w.heap.size, 2, none⟩) (by simp only; omega) (.int .i64 0)) (p := ⟨w.heap.size, 3, none⟩) (by simp only; omega) (.string ⟨#[]⟩)) (p := ⟨w.heap.size, 4, none⟩) (by simp only; omega) (.slice A xs.length c)
  generalize (((((W.setCell ⟨w.heap.size, 0, none⟩ (.int .i64 7)).setCell ⟨w.heap.size, 1, none⟩ (.int .i64 0)).setCell ⟨w.heap.size, 2, none⟩ (.int .i64 0)).setCell ⟨w.heap.size, 3, none⟩ (.string ⟨#[]⟩)).setCell ⟨w.heap.size, 4, none⟩ (.slice A xs.length c)) = WZ at *
  obtain ⟨-, -, -, -, -, -, hlin⟩ := ho.lin (P := fun b => w.heap.size ≤ b ∧ b < WZ.heap.size) (fun b h1 h2 => ⟨by omega, h2⟩) (fun y hy => by
    obtain ⟨x, hx, rfl⟩ := List.mem_map.1 hy
    show LIn WZ _ none x.l
    rw [h.flat x hx]
    exact LIn.nil)
  rw [List.map_map, show ((fun q : CVal => q.x) ∘ mk0) = id from rfl, List.map_id] at hlin
  exact ⟨vList xs, A, c, rfl, hlin, hlen, h.flat, hE.2.2.2, q, bad, far, hE.2.2.1, hk, hg⟩
end

theorem pRow_succ (I : List UInt8 → Got) (n : Nat) (acc : List V) (f : Bool) (l : List UInt8) : pRow I (n + 1) acc f l = match I l with
    | some (x, r, f2) => if Lib.hasPrefix r [93] = true then some (vList (acc ++ [x]), r.drop 1, f || f2) else if Lib.hasPrefix r [44, 32] = true then pRow I n (acc ++ [x]) (f || f2) (r.drop 2) else none
    | none => none := rfl

/-- What is left of list's work. -/
def Going (O : Got) (s : ByteArray) (q : Nat) (bad far0 far : Bool) (xs : List V) : Prop := (bad = true ∧ O = none) ∨ (bad = false ∧ xs.length ≤ q ∧ ∃ n f, far = (far0 || f) ∧ (rst s q).length < n ∧ O = pRow pItem n xs f (rst s q))

def lmV (N : Nat) (w : World) (p : Nat) : Nat := match (w.cell? ⟨p, 2, none⟩).getD undef with
  | .bool true => 0
  | _ => N + 1 - (intOf ((w.cell? ⟨p, 1, none⟩).getD undef)).toNat

theorem VR.lm {T : TypeId} {w : World} {p : Nat} {s : ByteArray} {q : Nat} {bad far : Bool} (h : VR T w p s q bad far) : lmV s.size w p = if bad = true then 0 else s.size + 1 - q := by
  unfold lmV
  rw [h.cells.2.2.1, h.cells.2.1]
  cases bad <;> simp [intOf]

theorem info_valL : (Tryz.prog.info? 24).map (fun i => (i.zero, i.size, i.bytes)) = some (some (.agg #[.int .i64 0, .int .i64 0, .int .i64 0, .string ByteArray.empty, .slice none 0 0]), 5, 64) := by kernel_rfl

set_option maxHeartbeats 3200000 in
set_option maxRecDepth 100000 in
theorem itemV_any (p k : Nat) (s : ByteArray) (far : Bool) (w : World) (hP : ∀ w', Trn p w w' → PowTab w') (hM : ∀ w', Trn p w w' → MaxTold w') (h : VR 118 w p s k false far) :
    Calls Tryz.prog 148 #[.pointer (some ⟨p, 0, none⟩)] w (LeafOut 118 p s k far (pItem (rst s k)) w) := by
  have HS := hide (St.start h)
  obtain ⟨⟨c0, c1, c2, c3, z1, z2, z3, hp⟩, ⟨d0, d1, d2, d3, d4, y0, y1, y2, y3, y4, hg⟩, hne, hne2⟩ := HS.out.cells
  have HP := hide hP
  have HM := hide hM
  clear h hP hM
  cases hb2 : Lib.hasPrefix (rst s k) [91, 91] with
  | true =>
    have hO : pItem (rst s k) = pLk (rst s k) := if_pos hb2
    rw [hO]
    have HB2 := hide (show Lib.hasPrefix (rst s k) (⟨#[91, 91]⟩ : ByteArray).data.toList = true from hb2)
    clear hO hb2
    go_enter Tryz.func148, Tryz.ntmps148
    go_wp2_with (first | (go_at_call_of 99 (Value.string ⟨#[91, 91]⟩); with_reducible refine (hasV_b ⟨#[91, 91]⟩ true _ _ _ _ _ _ HB2.out HS.out.vr).mono ?_; rintro e w' ⟨rfl, n9, rfl⟩; have HS1 := hide (HS.out.drewN n9); (try rw [World.drewN_drewN] at HS1); clear c0 c1 c2 c3 z1 z2 z3 hp d0 d1 d2 d3 d4 y0 y1 y2 y3 y4 hg hne hne2; clear HS; have HS := HS1; clear HS1; obtain ⟨⟨c0, c1, c2, c3, z1, z2, z3, hp⟩, ⟨d0, d1, d2, d3, d4, y0, y1, y2, y3, y4, hg⟩, hne, hne2⟩ := HS.out.cells) | (go_at_call 100; (with_reducible refine (linkV_any _ _ _ _ _ (fun w' ht => HM.out w' (HS.out.trn.trans ht)) HS.out.vr).mono ?_); rintro e W1 ⟨x, hx, rfl, ht, k', b', f', hv, hk2, hgi⟩; have HX := hide (And.intro hx (And.intro hk2 hgi)); clear hx hk2 hgi; (try simp only [V.flat]); have HS1 := hide (HS.out.step ht hv); clear c0 c1 c2 c3 z1 z2 z3 hp d0 d1 d2 d3 d4 y0 y1 y2 y3 y4 hg hne hne2; clear HS ht hv; have HS := HS1; clear HS1; obtain ⟨⟨c0, c1, c2, c3, z1, z2, z3, hp⟩, ⟨d0, d1, d2, d3, d4, y0, y1, y2, y3, y4, hg⟩, hne, hne2⟩ := HS.out.cells))
    refine bodyPost_ret (results_cell_row (P := Tryz.prog) (by rfl) _ _ _ 24 #[.int .i64 x.k, .int .i64 x.i, .int .i64 x.t, .string x.s, .slice none 0 0] (0, 0) _ rfl (HS.out.end _ _ _ _ _).1 Tryz.underlying24 rfl (by kernel_rfl)) rfl ?_
    exact ⟨x, HX.out.1, rfl, (HS.out.end _ _ _ _ _).2.2.2, _, _, _, (HS.out.end _ _ _ _ _).2.2.1, HX.out.2.1, HX.out.2.2⟩
  | false =>
    have HB2 := hide (show Lib.hasPrefix (rst s k) (⟨#[91, 91]⟩ : ByteArray).data.toList = false from hb2)
    cases hb : Lib.hasPrefix (rst s k) [91] with
    | true =>
      have hO : pItem (rst s k) = none := by unfold pItem; rw [hb2, hb]; rfl
      rw [hO]
      have HB := hide (show Lib.hasPrefix (rst s k) (⟨#[91]⟩ : ByteArray).data.toList = true from hb)
      clear hO hb hb2
      go_enter Tryz.func148, Tryz.ntmps148
      go_wp2_with (first | (go_at_call_of 99 (Value.string ⟨#[91, 91]⟩); with_reducible refine (hasV_b ⟨#[91, 91]⟩ false _ _ _ _ _ _ HB2.out HS.out.vr).mono ?_; rintro e w' ⟨rfl, n9, rfl⟩; have HS1 := hide (HS.out.drewN n9); (try rw [World.drewN_drewN] at HS1); clear c0 c1 c2 c3 z1 z2 z3 hp d0 d1 d2 d3 d4 y0 y1 y2 y3 y4 hg hne hne2; clear HS; have HS := HS1; clear HS1; obtain ⟨⟨c0, c1, c2, c3, z1, z2, z3, hp⟩, ⟨d0, d1, d2, d3, d4, y0, y1, y2, y3, y4, hg⟩, hne, hne2⟩ := HS.out.cells) | (go_at_call_of 99 (Value.string ⟨#[91]⟩); with_reducible refine (hasV_b ⟨#[91]⟩ true _ _ _ _ _ _ HB.out HS.out.vr).mono ?_; rintro e w' ⟨rfl, n9, rfl⟩; have HS1 := hide (HS.out.drewN n9); (try rw [World.drewN_drewN] at HS1); clear c0 c1 c2 c3 z1 z2 z3 hp d0 d1 d2 d3 d4 y0 y1 y2 y3 y4 hg hne hne2; clear HS; have HS := HS1; clear HS1; obtain ⟨⟨c0, c1, c2, c3, z1, z2, z3, hp⟩, ⟨d0, d1, d2, d3, d4, y0, y1, y2, y3, y4, hg⟩, hne, hne2⟩ := HS.out.cells))
      refine bodyPost_ret (results_cell_row (P := Tryz.prog) (by rfl) _ _ _ 24 #[.int .i64 0, .int .i64 0, .int .i64 0, .string ⟨#[]⟩, .slice none 0 0] (0, 0) _ rfl ((HS.out.bad_ true).end _ _ _ _ _).1 Tryz.underlying24 rfl (by kernel_rfl)) rfl ?_
      exact ⟨vN, rfl, rfl, ((HS.out.bad_ true).end _ _ _ _ _).2.2.2, _, _, _, ((HS.out.bad_ true).end _ _ _ _ _).2.2.1, Nat.le_refl _, .inl ⟨rfl, rfl⟩⟩
    | false =>
      have hO : pItem (rst s k) = lvP (rst s k) := by unfold pItem; rw [hb2, hb]; rfl
      rw [hO]
      have HB := hide (show Lib.hasPrefix (rst s k) (⟨#[91]⟩ : ByteArray).data.toList = false from hb)
      have HBX := hide hb
      clear hO hb hb2
      go_enter Tryz.func148, Tryz.ntmps148
      go_wp2_with (first | (go_at_call_of 99 (Value.string ⟨#[91, 91]⟩); with_reducible refine (hasV_b ⟨#[91, 91]⟩ false _ _ _ _ _ _ HB2.out HS.out.vr).mono ?_; rintro e w' ⟨rfl, n9, rfl⟩; have HS1 := hide (HS.out.drewN n9); (try rw [World.drewN_drewN] at HS1); clear c0 c1 c2 c3 z1 z2 z3 hp d0 d1 d2 d3 d4 y0 y1 y2 y3 y4 hg hne hne2; clear HS; have HS := HS1; clear HS1; obtain ⟨⟨c0, c1, c2, c3, z1, z2, z3, hp⟩, ⟨d0, d1, d2, d3, d4, y0, y1, y2, y3, y4, hg⟩, hne, hne2⟩ := HS.out.cells) | (go_at_call_of 99 (Value.string ⟨#[91]⟩); with_reducible refine (hasV_b ⟨#[91]⟩ false _ _ _ _ _ _ HB.out HS.out.vr).mono ?_; rintro e w' ⟨rfl, n9, rfl⟩; have HS1 := hide (HS.out.drewN n9); (try rw [World.drewN_drewN] at HS1); clear c0 c1 c2 c3 z1 z2 z3 hp d0 d1 d2 d3 d4 y0 y1 y2 y3 y4 hg hne hne2; clear HS; have HS := HS1; clear HS1; obtain ⟨⟨c0, c1, c2, c3, z1, z2, z3, hp⟩, ⟨d0, d1, d2, d3, d4, y0, y1, y2, y3, y4, hg⟩, hne, hne2⟩ := HS.out.cells) | (go_at_call 52; (with_reducible refine (valueV_leaf _ _ _ _ _ (fun w' ht => HP.out w' (HS.out.trn.trans ht)) HBX.out HS.out.vr).mono ?_); rintro e W1 ⟨x, hx, rfl, ht, k', b', f', hv, hk2, hgi⟩; have HX := hide (And.intro hx (And.intro hk2 hgi)); clear hx hk2 hgi; (try simp only [V.flat]); have HS1 := hide (HS.out.step ht hv); clear c0 c1 c2 c3 z1 z2 z3 hp d0 d1 d2 d3 d4 y0 y1 y2 y3 y4 hg hne hne2; clear HS ht hv; have HS := HS1; clear HS1; obtain ⟨⟨c0, c1, c2, c3, z1, z2, z3, hp⟩, ⟨d0, d1, d2, d3, d4, y0, y1, y2, y3, y4, hg⟩, hne, hne2⟩ := HS.out.cells))
      refine bodyPost_ret (results_cell_row (P := Tryz.prog) (by rfl) _ _ _ 24 #[.int .i64 x.k, .int .i64 x.i, .int .i64 x.t, .string x.s, .slice none 0 0] (0, 0) _ rfl (HS.out.end _ _ _ _ _).1 Tryz.underlying24 rfl (by kernel_rfl)) rfl ?_
      exact ⟨x, HX.out.1, rfl, (HS.out.end _ _ _ _ _).2.2.2, _, _, _, (HS.out.end _ _ _ _ _).2.2.1, HX.out.2.1, HX.out.2.2⟩

set_option maxHeartbeats 3200000 in
set_option maxRecDepth 100000 in
theorem listV_any (p k : Nat) (s : ByteArray) (far : Bool) (w : World) (hP : ∀ w', Trn p w w' → PowTab w') (hM : ∀ w', Trn p w w' → MaxTold w') (h : VR 118 w p s k false far) :
    Calls Tryz.prog 101 #[.pointer (some ⟨p, 0, none⟩)] w (ValOutB 118 p s k far (pList pItem (rst s k)) w) := by
  have hz := h.sz
  have hk := h.le
  have HL := hide (LL.start h)
  obtain ⟨⟨c0, c1, c2, c3, z1, z2, z3, hp⟩, ⟨d0, d1, d2, d3, d4, y0, y1, y2, y3, y4, hg⟩, hne, hne2⟩ := HL.out.st.cells; obtain ⟨⟨e0, e1, e2, e3, e4⟩, x4, hgv, hnv, hnv2⟩ := HL.out.at_
  have HP := hide hP
  have HM := hide hM
  generalize hOO : pList pItem (rst s k) = O
  have HOO := hide hOO
  obtain ⟨iP, hiP, hzP0, hzP1, hzP2⟩ := info_parts info_valL
  have HIP := hide (And.intro hiP (And.intro hzP0 (And.intro hzP1 hzP2)))
  clear hiP hzP0 hzP1 hzP2 h hP hM hOO
  cases he : Lib.hasPrefix (rst s k) [93] with
  | true =>
    have HO2 := hide (show O = some (vList [], rst s (k + 1), false) by rw [← HOO.out]; unfold pList; rw [if_pos he, rst_drop])
    have HE := hide (show Lib.hasPrefix (rst s k) (⟨#[93]⟩ : ByteArray).data.toList = true from he)
    clear he
    go_enter Tryz.func101, Tryz.ntmps101
    go_wp2_with (first | (go_at_call_of 97 (Value.string ⟨#[93]⟩); with_reducible refine (takeV_yes ⟨#[93]⟩ _ _ _ _ _ _ 1 rfl HE.out HL.out.st.vr).mono ?_; rintro e W1 ⟨rfl, hv, ht⟩; have HL1 := hide (HL.out.call ht hv); clear c0 c1 c2 c3 z1 z2 z3 hp d0 d1 d2 d3 d4 y0 y1 y2 y3 y4 hg hne hne2 e0 e1 e2 e3 e4 x4 hgv hnv hnv2; clear HL ht hv; have HL := HL1; clear HL1; obtain ⟨⟨c0, c1, c2, c3, z1, z2, z3, hp⟩, ⟨d0, d1, d2, d3, d4, y0, y1, y2, y3, y4, hg⟩, hne, hne2⟩ := HL.out.st.cells; obtain ⟨⟨e0, e1, e2, e3, e4⟩, x4, hgv, hnv, hnv2⟩ := HL.out.at_))
    refine bodyPost_ret (results_cell_row (P := Tryz.prog) (by rfl) _ _ _ 24 #[.int .i64 7, .int .i64 0, .int .i64 0, .string ⟨#[]⟩, .slice none 0 0] (0, 0) _ rfl (HL.out.st.end _ _ _ _ _).1 Tryz.underlying24 rfl (by kernel_rfl)) rfl ?_
    exact HL.out.fin (by omega) (by simp) (.inr ⟨_, false, HO2.out, rfl, (Bool.or_false _).symm, rfl⟩)
  | false =>
    have HG0 := hide (show Going O s k false far far [] from .inr ⟨rfl, Nat.zero_le _, _, false, (Bool.or_false _).symm, Nat.lt_succ_self _, by rw [← HOO.out]; unfold pList; rw [he]; rfl⟩)
    have HE := hide (show Lib.hasPrefix (rst s k) (⟨#[93]⟩ : ByteArray).data.toList = false from he)
    clear he
    go_enter Tryz.func101, Tryz.ntmps101
    go_wp2_with (first | (go_at_call_of 97 (Value.string ⟨#[93]⟩); with_reducible refine (takeV_no ⟨#[93]⟩ _ _ _ _ _ _ HE.out HL.out.st.vr).mono ?_; rintro e W1 ⟨rfl, hv, ht⟩; have HL1 := hide (HL.out.call ht hv); clear c0 c1 c2 c3 z1 z2 z3 hp d0 d1 d2 d3 d4 y0 y1 y2 y3 y4 hg hne hne2 e0 e1 e2 e3 e4 x4 hgv hnv hnv2; clear HL ht hv; have HL := HL1; clear HL1; obtain ⟨⟨c0, c1, c2, c3, z1, z2, z3, hp⟩, ⟨d0, d1, d2, d3, d4, y0, y1, y2, y3, y4, hg⟩, hne, hne2⟩ := HL.out.st.cells; obtain ⟨⟨e0, e1, e2, e3, e4⟩, x4, hgv, hnv, hnv2⟩ := HL.out.at_))
    go_loopw [] (fun wr => ∃ (q : Nat) (bad far' : Bool) (xs : List V) (A : Option Addr) (c : Nat), Hid (LL w wr p s q bad far' xs A c) ∧ Hid (Going O s q bad far far' xs) ∧ Hid (k ≤ q ∧ xs.length ≤ q + 1)) (fun wr => lmV s.size wr p)
    case atStart => exact ⟨k, false, far, [], none, 0, HL, HG0, hide ⟨Nat.le_refl _, Nat.zero_le _⟩⟩
    case round =>
      obtain ⟨q, bad, far', xs, A, c, HLn, HG, HQ⟩ := hrel
      clear c0 c1 c2 c3 z1 z2 z3 hp d0 d1 d2 d3 d4 y0 y1 y2 y3 y4 hg hne hne2 e0 e1 e2 e3 e4 x4 hgv hnv hnv2
      clear HL
      have HL := HLn
      clear HLn
      obtain ⟨⟨c0, c1, c2, c3, z1, z2, z3, hp⟩, ⟨d0, d1, d2, d3, d4, y0, y1, y2, y3, y4, hg⟩, hne, hne2⟩ := HL.out.st.cells; obtain ⟨⟨e0, e1, e2, e3, e4⟩, x4, hgv, hnv, hnv2⟩ := HL.out.at_
      have hqs := HL.out.st.vr.le
      rcases HG.out with ⟨rfl, hO⟩ | ⟨rfl, hxq, n, fl, hfar, hn, hO⟩
      · have HO := hide hO
        clear hO HG hqs
        go_wp2
        (try simp only [Exit.inBlock, Exit.then])
        refine bodyPost_ret (results_cell_row (P := Tryz.prog) (by rfl) _ _ _ 24 #[.int .i64 7, .int .i64 0, .int .i64 0, .string ⟨#[]⟩, .slice A xs.length c] (0, 0) _ rfl (HL.out.st.end _ _ _ _ _).1 Tryz.underlying24 rfl (by kernel_rfl)) rfl ?_
        exact HL.out.fin HQ.out.1 (by have := HQ.out.2; have := HL.out.st.vr.le; omega) (.inl ⟨HO.out, rfl⟩)
      · cases n with
        | zero => exact absurd hn (by omega)
        | succ n =>
          have HN := hide (And.intro hfar (And.intro hn (And.intro hO hxq)))
          have HIT := hide (fun (W : World) (hb : Below wr.heap.size wr W) => itemV_any p q s far' W (fun w' ht => HP.out w' ((HL.out.below_ hb).st.trn.trans ht)) (fun w' ht => HM.out w' ((HL.out.below_ hb).st.trn.trans ht)) (HL.out.below_ hb).st.vr)
          have HBIG := hide (show (xs.length + 1) * iP.bytes ≤ 140737488355328 ∧ xs.length + 1 ≤ 140737488355328 by have := HIP.out.2.2.2; rw [this]; omega)
          have HLM := hide (show lmV s.size wr p = s.size + 1 - q from HL.out.st.vr.lm)
          have HQS := hide hqs
          clear hfar hn hO hxq HG hqs
          go_upto_region 5 with fail
          go_cut [] from 13 to 19 (fun wx => ∃ (w1 : World) (x : V) (A3 : Option Addr) (c3 k' : Nat) (b' f' : Bool), w1 = wx ∧ Hid (LL w w1 p s k' b' f' (xs ++ [x]) A3 c3) ∧ Hid (x.l = [] ∧ q ≤ k' ∧ GotIs (pItem (rst s q)) s far' x k' b' f'))
          case first =>
            clear HN HLM
            go_wp2_with fail
            go_region_law (first | ((refine step_append_b rfl (.tmp 14) (.tmp 17) rfl rfl Tryz.underlying22 HIP.out.1 HIP.out.2.1 HIP.out.2.2.1 (by decide) rfl (by have := HIP.out.2.2.2; omega) (w.heap.size + 2) xs.length (.slice A xs.length c) (flat0 xs) [.int .i64 x.k, .int .i64 x.i, .int .i64 x.t, .string x.s, .slice none 0 0] _ rfl (by repeat (first | with_reducible exact HL2.out.own | with_reducible refine ownK_alloc ?_ _ | with_reducible refine ownK_plus ?_ _ _ | with_reducible refine ownK_drew ?_ | with_reducible refine ownK_drewN ?_ _)) rfl (by intro u hu; simp only [List.mem_cons, List.not_mem_nil, or_false] at hu; rcases hu with rfl | rfl | rfl | rfl | rfl <;> rfl) rfl (newN_cells (cs := [.int .i64 x.k, .int .i64 x.i, .int .i64 x.t, .string x.s, .slice none 0 0]) (by simp only [World.size_alloc, plus_size, World.drew])) HBIG.out (by simp only [World.size_alloc, plus_size, World.drew]; omega) ?_); (intro v' w1 hown1 hgr1 hfr1); (obtain ⟨A3, c3, rfl, _⟩ := ownK_form hown1); (have hb1 : Below (w.heap.size + 2) W2 w1 := (Below.mono (by repeat (first | exact Below.refl _ _ | with_reducible refine bl_plus ?_ | with_reducible refine bl_alloc ?_ _ | with_reducible refine bl_drew ?_ | with_reducible refine bl_drewN ?_ _)) b8).grown hgr1 (by simp only [World.size_alloc, plus_size, World.drew]; omega) (fun k hk => (HL2.out.own.lt k hk).1)); (have RA := hide (HL2.out.app HX.out.1 hb1 hown1)); (have kc := HL2.out.blk.below hb1 (by omega)); (have m4 := kc.cell 4); (simp only [List.getElem?_toArray, List.getElem?_cons_succ, List.getElem?_cons_zero] at m4); (have mf := kc.frozen 4); (have ml := kc.lt); (clear hown1 hgr1 hfr1 hb1 kc)) | (go_simp; go_at_call 148; (refine (HIT.out _ (by repeat (first | exact Below.refl _ _ | with_reducible refine bl_plus ?_ | with_reducible refine bl_alloc ?_ _ | with_reducible refine bl_drew ?_ | with_reducible refine bl_drewN ?_ _))).mono ?_); rintro e W2 ⟨x, hx, rfl, ht, k', b', f', hv, hk2, hgi⟩; have HX := hide (And.intro hx (And.intro hk2 hgi)); have HL2 := hide ((HL.out.below_ (by repeat (first | exact Below.refl _ _ | with_reducible refine bl_plus ?_ | with_reducible refine bl_alloc ?_ _ | with_reducible refine bl_drew ?_ | with_reducible refine bl_drewN ?_ _))).call ht hv); obtain ⟨⟨f0, f1, f2, f3, f4⟩, g4, b8, hnw, hnw2⟩ := HL2.out.at_; clear hx hk2 hgi ht hv; (try simp only [V.flat])))
            all_goals
              go_wp2_with fail
              go_meet
              exact ⟨_, x, A3, c3, k', b', f', rfl, RA, HX⟩
          case rest =>
            obtain ⟨w1, x, A3, cq, k', b', f', rfl, HL2, HX⟩ := hcut
            clear c0 c1 c2 c3 z1 z2 z3 hp d0 d1 d2 d3 d4 y0 y1 y2 y3 y4 hg hne hne2 e0 e1 e2 e3 e4 x4 hgv hnv hnv2
            clear HL HIT HBIG
            have HL := HL2
            clear HL2
            obtain ⟨⟨c0, c1, c2, c3, z1, z2, z3, hp⟩, ⟨d0, d1, d2, d3, d4, y0, y1, y2, y3, y4, hg⟩, hne, hne2⟩ := HL.out.st.cells; obtain ⟨⟨e0, e1, e2, e3, e4⟩, x4, hgv, hnv, hnv2⟩ := HL.out.at_
            have HLEN := hide (show (xs ++ [x]).length ≤ k' + 1 by rw [List.length_append, List.length_singleton]; have := HN.out.2.2.2; have := HX.out.2.1; omega)
            generalize hys : xs ++ [x] = ys at *
            have HYS := hide hys
            clear hys
            rcases HX.out.2.2 with ⟨hi, rfl⟩ | ⟨r, f2, hi, rfl, hf2, rfl⟩
            · have HO := hide (show O = none by rw [HN.out.2.2.1, pRow_succ, hi])
              clear hi HN
              cases he2 : Lib.hasPrefix (rst s k') [93] with
              | true =>
                have HE2 := hide (show Lib.hasPrefix (rst s k') (⟨#[93]⟩ : ByteArray).data.toList = true from he2)
                clear he2
                go_wp2_with (first | (go_at_call_of 97 (Value.string ⟨#[93]⟩); with_reducible refine (takeV_yes ⟨#[93]⟩ _ _ _ _ _ _ 1 rfl HE2.out HL.out.st.vr).mono ?_; rintro e W1 ⟨rfl, hv, ht⟩; have HL1 := hide (HL.out.call ht hv); clear c0 c1 c2 c3 z1 z2 z3 hp d0 d1 d2 d3 d4 y0 y1 y2 y3 y4 hg hne hne2 e0 e1 e2 e3 e4 x4 hgv hnv hnv2; clear HL ht hv; have HL := HL1; clear HL1; obtain ⟨⟨c0, c1, c2, c3, z1, z2, z3, hp⟩, ⟨d0, d1, d2, d3, d4, y0, y1, y2, y3, y4, hg⟩, hne, hne2⟩ := HL.out.st.cells; obtain ⟨⟨e0, e1, e2, e3, e4⟩, x4, hgv, hnv, hnv2⟩ := HL.out.at_))
                (try simp only [Exit.inBlock, Exit.then])
                refine bodyPost_ret (results_cell_row (P := Tryz.prog) (by rfl) _ _ _ 24 #[.int .i64 7, .int .i64 0, .int .i64 0, .string ⟨#[]⟩, .slice A3 ys.length cq] (0, 0) _ rfl (HL.out.st.end _ _ _ _ _).1 Tryz.underlying24 rfl (by kernel_rfl)) rfl ?_
                exact HL.out.fin (show k ≤ k' + 1 by have := HQ.out.1; have := HX.out.2.1; omega) (by have := HLEN.out; have := HL.out.st.vr.le; omega) (.inl ⟨HO.out, rfl⟩)
              | false =>
                have HE2 := hide (show Lib.hasPrefix (rst s k') (⟨#[93]⟩ : ByteArray).data.toList = false from he2)
                clear he2
                go_wp2_with (first | (go_at_call_of 97 (Value.string ⟨#[93]⟩); with_reducible refine (takeV_no ⟨#[93]⟩ _ _ _ _ _ _ HE2.out HL.out.st.vr).mono ?_; rintro e W1 ⟨rfl, hv, ht⟩; have HL1 := hide (HL.out.call ht hv); clear c0 c1 c2 c3 z1 z2 z3 hp d0 d1 d2 d3 d4 y0 y1 y2 y3 y4 hg hne hne2 e0 e1 e2 e3 e4 x4 hgv hnv hnv2; clear HL ht hv; have HL := HL1; clear HL1; obtain ⟨⟨c0, c1, c2, c3, z1, z2, z3, hp⟩, ⟨d0, d1, d2, d3, d4, y0, y1, y2, y3, y4, hg⟩, hne, hne2⟩ := HL.out.st.cells; obtain ⟨⟨e0, e1, e2, e3, e4⟩, x4, hgv, hnv, hnv2⟩ := HL.out.at_))
                have HLN := hide (HL.out.bad_ true)
                go_roundw
                case rel => exact ⟨k', true, f', ys, A3, cq, HLN, hide (.inl ⟨rfl, HO.out⟩), hide ⟨by have := HQ.out.1; have := HX.out.2.1; omega, by have := HLEN.out; omega⟩⟩
                case measure =>
                  have h5 := HQS.out
                  have h6 := HX.out.2.1
                  have h7 := HL.out.st.vr.le
                  rw [HLM.out]
                  refine Nat.lt_of_le_of_lt (Nat.le_of_eq HLN.out.st.vr.lm) ?_
                  rw [if_pos rfl]
                  omega
            · have hstep : O = if Lib.hasPrefix (rst s k') [93] = true then some (vList ys, (rst s k').drop 1, fl || f2) else if Lib.hasPrefix (rst s k') [44, 32] = true then pRow pItem n ys (fl || f2) ((rst s k').drop 2) else none := by rw [HN.out.2.2.1, pRow_succ, hi]; simp only [HYS.out]
              have HF := hide (show f' = (far || (fl || f2)) by rw [hf2, HN.out.1, Bool.or_assoc])
              have HNL := hide HN.out.2.1
              clear hi HN hf2
              cases he2 : Lib.hasPrefix (rst s k') [93] with
              | true =>
                rw [he2, if_pos rfl, rst_drop] at hstep
                have HO := hide hstep
                have HE2 := hide (show Lib.hasPrefix (rst s k') (⟨#[93]⟩ : ByteArray).data.toList = true from he2)
                clear he2 hstep
                go_wp2_with (first | (go_at_call_of 97 (Value.string ⟨#[93]⟩); with_reducible refine (takeV_yes ⟨#[93]⟩ _ _ _ _ _ _ 1 rfl HE2.out HL.out.st.vr).mono ?_; rintro e W1 ⟨rfl, hv, ht⟩; have HL1 := hide (HL.out.call ht hv); clear c0 c1 c2 c3 z1 z2 z3 hp d0 d1 d2 d3 d4 y0 y1 y2 y3 y4 hg hne hne2 e0 e1 e2 e3 e4 x4 hgv hnv hnv2; clear HL ht hv; have HL := HL1; clear HL1; obtain ⟨⟨c0, c1, c2, c3, z1, z2, z3, hp⟩, ⟨d0, d1, d2, d3, d4, y0, y1, y2, y3, y4, hg⟩, hne, hne2⟩ := HL.out.st.cells; obtain ⟨⟨e0, e1, e2, e3, e4⟩, x4, hgv, hnv, hnv2⟩ := HL.out.at_))
                (try simp only [Exit.inBlock, Exit.then])
                refine bodyPost_ret (results_cell_row (P := Tryz.prog) (by rfl) _ _ _ 24 #[.int .i64 7, .int .i64 0, .int .i64 0, .string ⟨#[]⟩, .slice A3 ys.length cq] (0, 0) _ rfl (HL.out.st.end _ _ _ _ _).1 Tryz.underlying24 rfl (by kernel_rfl)) rfl ?_
                exact HL.out.fin (show k ≤ k' + 1 by have := HQ.out.1; have := HX.out.2.1; omega) (by have := HLEN.out; have := HL.out.st.vr.le; omega) (.inr ⟨_, _, HO.out, rfl, HF.out, rfl⟩)
              | false =>
                rw [he2, if_neg (by decide)] at hstep
                have HE2 := hide (show Lib.hasPrefix (rst s k') (⟨#[93]⟩ : ByteArray).data.toList = false from he2)
                clear he2
                cases hc2 : Lib.hasPrefix (rst s k') [44, 32] with
                | true =>
                  rw [hc2, if_pos rfl, rst_drop] at hstep
                  have HO := hide hstep
                  have HK2 := hide (show k' + 2 ≤ s.size by
                    rcases rst_hp hc2 with h9 | h9
                    · exact h9
                    · cases h9)
                  have HLT2 := hide (show (rst s (k' + 2)).length < n by have := HNL.out; rw [rst_len] at this ⊢; have := HK2.out; have := HX.out.2.1; omega)
                  have HC2 := hide (show Lib.hasPrefix (rst s k') (⟨#[44, 32]⟩ : ByteArray).data.toList = true from hc2)
                  clear hc2 hstep
                  go_wp2_with (first | (go_at_call_of 97 (Value.string ⟨#[93]⟩); with_reducible refine (takeV_no ⟨#[93]⟩ _ _ _ _ _ _ HE2.out HL.out.st.vr).mono ?_; rintro e W1 ⟨rfl, hv, ht⟩; have HL1 := hide (HL.out.call ht hv); clear c0 c1 c2 c3 z1 z2 z3 hp d0 d1 d2 d3 d4 y0 y1 y2 y3 y4 hg hne hne2 e0 e1 e2 e3 e4 x4 hgv hnv hnv2; clear HL ht hv; have HL := HL1; clear HL1; obtain ⟨⟨c0, c1, c2, c3, z1, z2, z3, hp⟩, ⟨d0, d1, d2, d3, d4, y0, y1, y2, y3, y4, hg⟩, hne, hne2⟩ := HL.out.st.cells; obtain ⟨⟨e0, e1, e2, e3, e4⟩, x4, hgv, hnv, hnv2⟩ := HL.out.at_) | (go_at_call_of 97 (Value.string ⟨#[44, 32]⟩); with_reducible refine (takeV_yes ⟨#[44, 32]⟩ _ _ _ _ _ _ 2 rfl HC2.out HL.out.st.vr).mono ?_; rintro e W1 ⟨rfl, hv, ht⟩; have HL1 := hide (HL.out.call ht hv); clear c0 c1 c2 c3 z1 z2 z3 hp d0 d1 d2 d3 d4 y0 y1 y2 y3 y4 hg hne hne2 e0 e1 e2 e3 e4 x4 hgv hnv hnv2; clear HL ht hv; have HL := HL1; clear HL1; obtain ⟨⟨c0, c1, c2, c3, z1, z2, z3, hp⟩, ⟨d0, d1, d2, d3, d4, y0, y1, y2, y3, y4, hg⟩, hne, hne2⟩ := HL.out.st.cells; obtain ⟨⟨e0, e1, e2, e3, e4⟩, x4, hgv, hnv, hnv2⟩ := HL.out.at_))
                  have HLN := hide (HL.out.bad_ false)
                  go_roundw
                  case rel => exact ⟨k' + 2, false, f', ys, A3, cq, HLN, hide (.inr ⟨rfl, by have := HLEN.out; omega, n, _, HF.out, HLT2.out, HO.out⟩), hide ⟨by have := HQ.out.1; have := HX.out.2.1; omega, by have := HLEN.out; omega⟩⟩
                  case measure =>
                    have h5 := HQS.out
                    have h6 := HX.out.2.1
                    have h7 := HL.out.st.vr.le
                    rw [HLM.out]
                    refine Nat.lt_of_le_of_lt (Nat.le_of_eq HLN.out.st.vr.lm) ?_
                    rw [if_neg (by decide)]
                    omega
                | false =>
                  rw [hc2, if_neg (by decide)] at hstep
                  have HO := hide hstep
                  have HC2 := hide (show Lib.hasPrefix (rst s k') (⟨#[44, 32]⟩ : ByteArray).data.toList = false from hc2)
                  clear hc2 hstep
                  go_wp2_with (first | (go_at_call_of 97 (Value.string ⟨#[93]⟩); with_reducible refine (takeV_no ⟨#[93]⟩ _ _ _ _ _ _ HE2.out HL.out.st.vr).mono ?_; rintro e W1 ⟨rfl, hv, ht⟩; have HL1 := hide (HL.out.call ht hv); clear c0 c1 c2 c3 z1 z2 z3 hp d0 d1 d2 d3 d4 y0 y1 y2 y3 y4 hg hne hne2 e0 e1 e2 e3 e4 x4 hgv hnv hnv2; clear HL ht hv; have HL := HL1; clear HL1; obtain ⟨⟨c0, c1, c2, c3, z1, z2, z3, hp⟩, ⟨d0, d1, d2, d3, d4, y0, y1, y2, y3, y4, hg⟩, hne, hne2⟩ := HL.out.st.cells; obtain ⟨⟨e0, e1, e2, e3, e4⟩, x4, hgv, hnv, hnv2⟩ := HL.out.at_) | (go_at_call_of 97 (Value.string ⟨#[44, 32]⟩); with_reducible refine (takeV_no ⟨#[44, 32]⟩ _ _ _ _ _ _ HC2.out HL.out.st.vr).mono ?_; rintro e W1 ⟨rfl, hv, ht⟩; have HL1 := hide (HL.out.call ht hv); clear c0 c1 c2 c3 z1 z2 z3 hp d0 d1 d2 d3 d4 y0 y1 y2 y3 y4 hg hne hne2 e0 e1 e2 e3 e4 x4 hgv hnv hnv2; clear HL ht hv; have HL := HL1; clear HL1; obtain ⟨⟨c0, c1, c2, c3, z1, z2, z3, hp⟩, ⟨d0, d1, d2, d3, d4, y0, y1, y2, y3, y4, hg⟩, hne, hne2⟩ := HL.out.st.cells; obtain ⟨⟨e0, e1, e2, e3, e4⟩, x4, hgv, hnv, hnv2⟩ := HL.out.at_))
                  have HLN := hide (HL.out.bad_ true)
                  go_roundw
                  case rel => exact ⟨k', true, f', ys, A3, cq, HLN, hide (.inl ⟨rfl, HO.out⟩), hide ⟨by have := HQ.out.1; have := HX.out.2.1; omega, by have := HLEN.out; omega⟩⟩
                  case measure =>
                    have h5 := HQS.out
                    have h6 := HX.out.2.1
                    have h7 := HL.out.st.vr.le
                    rw [HLM.out]
                    refine Nat.lt_of_le_of_lt (Nat.le_of_eq HLN.out.st.vr.lm) ?_
                    rw [if_pos rfl]
                    omega


end Go.Proofs.YtdncmjlakmkfiaaGreatDoor
/-
  WALKS: a reader of values: any value; a value that is all of a string.
-/
namespace Go.Proofs.YtdncmjlakmkfiaaGreatDoor
open Go.RowKit

theorem five_far {W : World} {g b : Nat} {v0 v1 v2 v3 v4 : Value} (h : b ≠ g) : (((((W.setCell ⟨g, 0, none⟩ v0).setCell ⟨g, 1, none⟩ v1).setCell ⟨g, 2, none⟩ v2).setCell ⟨g, 3, none⟩ v3).setCell ⟨g, 4, none⟩ v4).heap[b]? = W.heap[b]? := by
  have f : ∀ (W : World) (i : Nat) (v : Value), (W.setCell ⟨g, i, none⟩ v).heap[b]? = W.heap[b]? := fun W i v => Below.heap_setCell W _ v b h
  rw [f, f, f, f, f]

theorem five_size {W : World} {g : Nat} {v0 v1 v2 v3 v4 : Value} : (((((W.setCell ⟨g, 0, none⟩ v0).setCell ⟨g, 1, none⟩ v1).setCell ⟨g, 2, none⟩ v2).setCell ⟨g, 3, none⟩ v3).setCell ⟨g, 4, none⟩ v4).heap.size = W.heap.size := by simp [World.setCell]

theorem St.valB {w W : World} {p : Nat} {s : ByteArray} {k k' : Nat} {b' f' far : Bool} {O : Got} {x : V} {A : Option Addr} {c : Nat} (h : St w w.heap.size W p s k' b' f') (hl : LIn W (fun b => w.heap.size < b ∧ b < W.heap.size) A x.l) (hlen : x.l.length ≤ 400001) (hfl : ∀ y ∈ x.l, y.l = []) (hk : k ≤ k') (hg : GotIs O s far x k' b' f') :
    ValOutB 118 p s k far O w (.returned (.agg #[.int .i64 x.k, .int .i64 x.i, .int .i64 x.t, .string x.s, .slice A x.l.length c])) (((((W.setCell ⟨w.heap.size, 0, none⟩ (.int .i64 x.k)).setCell ⟨w.heap.size, 1, none⟩ (.int .i64 x.i)).setCell ⟨w.heap.size, 2, none⟩ (.int .i64 x.t)).setCell ⟨w.heap.size, 3, none⟩ (.string x.s)).setCell ⟨w.heap.size, 4, none⟩ (.slice A x.l.length c)) := by
  have hE := h.end (.int .i64 x.k) (.int .i64 x.i) (.int .i64 x.t) (.string x.s) (.slice A x.l.length c)
  refine ⟨x, A, c, rfl, (hl.frame fun b hb => five_far (by omega)).mono fun b hb => ⟨by omega, ?_⟩, hlen, hfl, hE.2.2.2, k', b', f', hE.2.2.1, hk, hg⟩
  rw [five_size]
  exact hb.2

theorem pVal_leaf {l : List UInt8} (h : Lib.hasPrefix l [91] = false) : pVal l = lvP l := by
  have h2 : Lib.hasPrefix l [91, 91] = false := by
    cases h2 : Lib.hasPrefix l [91, 91] with
    | false => rfl
    | true =>
      obtain ⟨t, ht⟩ := hp_iff.1 h2
      rw [hp_iff.2 ⟨91 :: t, ht⟩] at h
      cases h
  unfold pVal
  rw [h2, h]
  rfl

set_option maxHeartbeats 3200000 in
set_option maxRecDepth 100000 in
theorem valueV_any (p k : Nat) (s : ByteArray) (far : Bool) (w : World) (hP : ∀ w', Trn p w w' → PowTab w') (hM : ∀ w', Trn p w w' → MaxTold w') (h : VR 118 w p s k false far) :
    Calls Tryz.prog 52 #[.pointer (some ⟨p, 0, none⟩)] w (ValOutB 118 p s k far (pVal (rst s k)) w) := by
  cases hb : Lib.hasPrefix (rst s k) [91] with
  | false =>
    rw [pVal_leaf hb]
    exact (valueV_leaf p k s far w hP hb h).mono fun e w' hh => hh.valB
  | true =>
    have HS := hide (St.start h)
    obtain ⟨⟨c0, c1, c2, c3, z1, z2, z3, hp⟩, ⟨d0, d1, d2, d3, d4, y0, y1, y2, y3, y4, hg⟩, hne, hne2⟩ := HS.out.cells
    have HPM := hide (And.intro hP hM)
    obtain ⟨t, ht⟩ := hp_iff.1 hb
    have hy : Lib.hasPrefix (rst s k) [121, 101, 115] = false := by rw [ht]; exact hp_head (by decide)
    have hn : Lib.hasPrefix (rst s k) [110, 111] = false := by rw [ht]; exact hp_head (by decide)
    have hq : Lib.hasPrefix (rst s k) [34] = false := by rw [ht]; exact hp_head (by decide)
    have HY := hide (show Lib.hasPrefix (rst s k) (⟨#[121, 101, 115]⟩ : ByteArray).data.toList = false from hy)
    have HN := hide (show Lib.hasPrefix (rst s k) (⟨#[110, 111]⟩ : ByteArray).data.toList = false from hn)
    have HQ := hide (show Lib.hasPrefix (rst s k) (⟨#[34]⟩ : ByteArray).data.toList = false from hq)
    have HB := hide (show Lib.hasPrefix (rst s k) (⟨#[91]⟩ : ByteArray).data.toList = true from hb)
    clear h hP hM hy hn hq ht
    cases hb2 : Lib.hasPrefix (rst s k) [91, 91] with
    | true =>
      have HB2 := hide (show Lib.hasPrefix (rst s k) (⟨#[91, 91]⟩ : ByteArray).data.toList = true from hb2)
      cases hb3 : Lib.hasPrefix (rst s k) [91, 91, 91] with
      | false =>
        have hO : pVal (rst s k) = pLk (rst s k) := by unfold pVal; rw [hb2, hb3]; rfl
        rw [hO]
        have HB3 := hide (show Lib.hasPrefix (rst s k) (⟨#[91, 91, 91]⟩ : ByteArray).data.toList = false from hb3)
        clear hO hb hb2 hb3
        go_enter Tryz.func52, Tryz.ntmps52
        go_wp2_with (first | (go_at_call_of 97 (Value.string ⟨#[121, 101, 115]⟩); with_reducible refine (takeV_no ⟨#[121, 101, 115]⟩ _ _ _ _ _ _ HY.out HS.out.vr).mono ?_; rintro e W1 ⟨rfl, hv, ht⟩; have HS1 := hide (HS.out.step ht hv); clear c0 c1 c2 c3 z1 z2 z3 hp d0 d1 d2 d3 d4 y0 y1 y2 y3 y4 hg hne hne2; clear HS ht hv; have HS := HS1; clear HS1; obtain ⟨⟨c0, c1, c2, c3, z1, z2, z3, hp⟩, ⟨d0, d1, d2, d3, d4, y0, y1, y2, y3, y4, hg⟩, hne, hne2⟩ := HS.out.cells) | (go_at_call_of 97 (Value.string ⟨#[110, 111]⟩); with_reducible refine (takeV_no ⟨#[110, 111]⟩ _ _ _ _ _ _ HN.out HS.out.vr).mono ?_; rintro e W1 ⟨rfl, hv, ht⟩; have HS1 := hide (HS.out.step ht hv); clear c0 c1 c2 c3 z1 z2 z3 hp d0 d1 d2 d3 d4 y0 y1 y2 y3 y4 hg hne hne2; clear HS ht hv; have HS := HS1; clear HS1; obtain ⟨⟨c0, c1, c2, c3, z1, z2, z3, hp⟩, ⟨d0, d1, d2, d3, d4, y0, y1, y2, y3, y4, hg⟩, hne, hne2⟩ := HS.out.cells) | (go_at_call_of 97 (Value.string ⟨#[34]⟩); with_reducible refine (takeV_no ⟨#[34]⟩ _ _ _ _ _ _ HQ.out HS.out.vr).mono ?_; rintro e W1 ⟨rfl, hv, ht⟩; have HS1 := hide (HS.out.step ht hv); clear c0 c1 c2 c3 z1 z2 z3 hp d0 d1 d2 d3 d4 y0 y1 y2 y3 y4 hg hne hne2; clear HS ht hv; have HS := HS1; clear HS1; obtain ⟨⟨c0, c1, c2, c3, z1, z2, z3, hp⟩, ⟨d0, d1, d2, d3, d4, y0, y1, y2, y3, y4, hg⟩, hne, hne2⟩ := HS.out.cells) | (go_at_call_of 99 (Value.string ⟨#[91, 91]⟩); with_reducible refine (hasV_b ⟨#[91, 91]⟩ true _ _ _ _ _ _ HB2.out HS.out.vr).mono ?_; rintro e w' ⟨rfl, n9, rfl⟩; have HS1 := hide (HS.out.drewN n9); (try rw [World.drewN_drewN] at HS1); clear c0 c1 c2 c3 z1 z2 z3 hp d0 d1 d2 d3 d4 y0 y1 y2 y3 y4 hg hne hne2; clear HS; have HS := HS1; clear HS1; obtain ⟨⟨c0, c1, c2, c3, z1, z2, z3, hp⟩, ⟨d0, d1, d2, d3, d4, y0, y1, y2, y3, y4, hg⟩, hne, hne2⟩ := HS.out.cells) | (go_at_call_of 99 (Value.string ⟨#[91, 91, 91]⟩); with_reducible refine (hasV_b ⟨#[91, 91, 91]⟩ false _ _ _ _ _ _ HB3.out HS.out.vr).mono ?_; rintro e w' ⟨rfl, n9, rfl⟩; have HS1 := hide (HS.out.drewN n9); (try rw [World.drewN_drewN] at HS1); clear c0 c1 c2 c3 z1 z2 z3 hp d0 d1 d2 d3 d4 y0 y1 y2 y3 y4 hg hne hne2; clear HS; have HS := HS1; clear HS1; obtain ⟨⟨c0, c1, c2, c3, z1, z2, z3, hp⟩, ⟨d0, d1, d2, d3, d4, y0, y1, y2, y3, y4, hg⟩, hne, hne2⟩ := HS.out.cells) | (go_at_call 100; (with_reducible refine (linkV_any _ _ _ _ _ (fun w' ht => HPM.out.2 w' (HS.out.trn.trans ht)) HS.out.vr).mono ?_); rintro e W1 ⟨x, hx, rfl, ht, k', b', f', hv, hk2, hgi⟩; have HX := hide (And.intro hx (And.intro hk2 hgi)); clear hx hk2 hgi; (try simp only [V.flat]); have HS1 := hide (HS.out.step ht hv); clear c0 c1 c2 c3 z1 z2 z3 hp d0 d1 d2 d3 d4 y0 y1 y2 y3 y4 hg hne hne2; clear HS ht hv; have HS := HS1; clear HS1; obtain ⟨⟨c0, c1, c2, c3, z1, z2, z3, hp⟩, ⟨d0, d1, d2, d3, d4, y0, y1, y2, y3, y4, hg⟩, hne, hne2⟩ := HS.out.cells))
        refine bodyPost_ret (results_cell_row (P := Tryz.prog) (by rfl) _ _ _ 24 #[.int .i64 x.k, .int .i64 x.i, .int .i64 x.t, .string x.s, .slice none 0 0] (0, 0) _ rfl (HS.out.end _ _ _ _ _).1 Tryz.underlying24 rfl (by kernel_rfl)) rfl ?_
        exact (LeafOut.valB ⟨x, HX.out.1, rfl, (HS.out.end _ _ _ _ _).2.2.2, _, _, _, (HS.out.end _ _ _ _ _).2.2.1, HX.out.2.1, HX.out.2.2⟩)
      | true =>
        have hO : pVal (rst s k) = pList pItem (rst s (k + 1)) := by unfold pVal; rw [hb2, hb3, hb, rst_drop]; rfl
        rw [hO]
        have HB3 := hide (show Lib.hasPrefix (rst s k) (⟨#[91, 91, 91]⟩ : ByteArray).data.toList = true from hb3)
        clear hO hb hb2 hb3
        go_enter Tryz.func52, Tryz.ntmps52
        go_wp2_with (first | (go_at_call_of 97 (Value.string ⟨#[121, 101, 115]⟩); with_reducible refine (takeV_no ⟨#[121, 101, 115]⟩ _ _ _ _ _ _ HY.out HS.out.vr).mono ?_; rintro e W1 ⟨rfl, hv, ht⟩; have HS1 := hide (HS.out.step ht hv); clear c0 c1 c2 c3 z1 z2 z3 hp d0 d1 d2 d3 d4 y0 y1 y2 y3 y4 hg hne hne2; clear HS ht hv; have HS := HS1; clear HS1; obtain ⟨⟨c0, c1, c2, c3, z1, z2, z3, hp⟩, ⟨d0, d1, d2, d3, d4, y0, y1, y2, y3, y4, hg⟩, hne, hne2⟩ := HS.out.cells) | (go_at_call_of 97 (Value.string ⟨#[110, 111]⟩); with_reducible refine (takeV_no ⟨#[110, 111]⟩ _ _ _ _ _ _ HN.out HS.out.vr).mono ?_; rintro e W1 ⟨rfl, hv, ht⟩; have HS1 := hide (HS.out.step ht hv); clear c0 c1 c2 c3 z1 z2 z3 hp d0 d1 d2 d3 d4 y0 y1 y2 y3 y4 hg hne hne2; clear HS ht hv; have HS := HS1; clear HS1; obtain ⟨⟨c0, c1, c2, c3, z1, z2, z3, hp⟩, ⟨d0, d1, d2, d3, d4, y0, y1, y2, y3, y4, hg⟩, hne, hne2⟩ := HS.out.cells) | (go_at_call_of 97 (Value.string ⟨#[34]⟩); with_reducible refine (takeV_no ⟨#[34]⟩ _ _ _ _ _ _ HQ.out HS.out.vr).mono ?_; rintro e W1 ⟨rfl, hv, ht⟩; have HS1 := hide (HS.out.step ht hv); clear c0 c1 c2 c3 z1 z2 z3 hp d0 d1 d2 d3 d4 y0 y1 y2 y3 y4 hg hne hne2; clear HS ht hv; have HS := HS1; clear HS1; obtain ⟨⟨c0, c1, c2, c3, z1, z2, z3, hp⟩, ⟨d0, d1, d2, d3, d4, y0, y1, y2, y3, y4, hg⟩, hne, hne2⟩ := HS.out.cells) | (go_at_call_of 99 (Value.string ⟨#[91, 91]⟩); with_reducible refine (hasV_b ⟨#[91, 91]⟩ true _ _ _ _ _ _ HB2.out HS.out.vr).mono ?_; rintro e w' ⟨rfl, n9, rfl⟩; have HS1 := hide (HS.out.drewN n9); (try rw [World.drewN_drewN] at HS1); clear c0 c1 c2 c3 z1 z2 z3 hp d0 d1 d2 d3 d4 y0 y1 y2 y3 y4 hg hne hne2; clear HS; have HS := HS1; clear HS1; obtain ⟨⟨c0, c1, c2, c3, z1, z2, z3, hp⟩, ⟨d0, d1, d2, d3, d4, y0, y1, y2, y3, y4, hg⟩, hne, hne2⟩ := HS.out.cells) | (go_at_call_of 99 (Value.string ⟨#[91, 91, 91]⟩); with_reducible refine (hasV_b ⟨#[91, 91, 91]⟩ true _ _ _ _ _ _ HB3.out HS.out.vr).mono ?_; rintro e w' ⟨rfl, n9, rfl⟩; have HS1 := hide (HS.out.drewN n9); (try rw [World.drewN_drewN] at HS1); clear c0 c1 c2 c3 z1 z2 z3 hp d0 d1 d2 d3 d4 y0 y1 y2 y3 y4 hg hne hne2; clear HS; have HS := HS1; clear HS1; obtain ⟨⟨c0, c1, c2, c3, z1, z2, z3, hp⟩, ⟨d0, d1, d2, d3, d4, y0, y1, y2, y3, y4, hg⟩, hne, hne2⟩ := HS.out.cells) | (go_at_call_of 97 (Value.string ⟨#[91]⟩); with_reducible refine (takeV_yes ⟨#[91]⟩ _ _ _ _ _ _ 1 rfl HB.out HS.out.vr).mono ?_; rintro e W1 ⟨rfl, hv, ht⟩; have HS1 := hide (HS.out.step ht hv); clear c0 c1 c2 c3 z1 z2 z3 hp d0 d1 d2 d3 d4 y0 y1 y2 y3 y4 hg hne hne2; clear HS ht hv; have HS := HS1; clear HS1; obtain ⟨⟨c0, c1, c2, c3, z1, z2, z3, hp⟩, ⟨d0, d1, d2, d3, d4, y0, y1, y2, y3, y4, hg⟩, hne, hne2⟩ := HS.out.cells) | (go_at_call 101; (with_reducible refine (listV_any _ _ _ _ _ (fun w' ht => HPM.out.1 w' (HS.out.trn.trans ht)) (fun w' ht => HPM.out.2 w' (HS.out.trn.trans ht)) HS.out.vr).mono ?_); rintro e W2 ⟨x, A, c, rfl, hlin, hlen, hfl, ht, k', b', f', hv, hk2, hgi⟩; have HX := hide (And.intro (hlin.mono (fun b hb => (⟨Nat.lt_of_lt_of_le hg hb.1, hb.2⟩ : w.heap.size < b ∧ b < W2.heap.size))) (And.intro hlen (And.intro hfl (And.intro hk2 hgi)))); clear hlin hlen hfl hk2 hgi; (try simp only [V.arg]); have HS1 := hide (HS.out.step ht hv); clear c0 c1 c2 c3 z1 z2 z3 hp d0 d1 d2 d3 d4 y0 y1 y2 y3 y4 hg hne hne2; clear HS ht hv; have HS := HS1; clear HS1; obtain ⟨⟨c0, c1, c2, c3, z1, z2, z3, hp⟩, ⟨d0, d1, d2, d3, d4, y0, y1, y2, y3, y4, hg⟩, hne, hne2⟩ := HS.out.cells))
        refine bodyPost_ret (results_cell_row (P := Tryz.prog) (by rfl) _ _ _ 24 #[.int .i64 x.k, .int .i64 x.i, .int .i64 x.t, .string x.s, .slice A x.l.length c] (0, 0) _ rfl (HS.out.end _ _ _ _ _).1 Tryz.underlying24 rfl (by kernel_rfl)) rfl ?_
        exact HS.out.valB HX.out.1 HX.out.2.1 HX.out.2.2.1 (Nat.le_of_succ_le HX.out.2.2.2.1) HX.out.2.2.2.2
    | false =>
      have hO : pVal (rst s k) = pList pItem (rst s (k + 1)) := by unfold pVal; rw [hb2, hb, rst_drop]; rfl
      rw [hO]
      have HB2 := hide (show Lib.hasPrefix (rst s k) (⟨#[91, 91]⟩ : ByteArray).data.toList = false from hb2)
      clear hO hb hb2
      go_enter Tryz.func52, Tryz.ntmps52
      go_wp2_with (first | (go_at_call_of 97 (Value.string ⟨#[121, 101, 115]⟩); with_reducible refine (takeV_no ⟨#[121, 101, 115]⟩ _ _ _ _ _ _ HY.out HS.out.vr).mono ?_; rintro e W1 ⟨rfl, hv, ht⟩; have HS1 := hide (HS.out.step ht hv); clear c0 c1 c2 c3 z1 z2 z3 hp d0 d1 d2 d3 d4 y0 y1 y2 y3 y4 hg hne hne2; clear HS ht hv; have HS := HS1; clear HS1; obtain ⟨⟨c0, c1, c2, c3, z1, z2, z3, hp⟩, ⟨d0, d1, d2, d3, d4, y0, y1, y2, y3, y4, hg⟩, hne, hne2⟩ := HS.out.cells) | (go_at_call_of 97 (Value.string ⟨#[110, 111]⟩); with_reducible refine (takeV_no ⟨#[110, 111]⟩ _ _ _ _ _ _ HN.out HS.out.vr).mono ?_; rintro e W1 ⟨rfl, hv, ht⟩; have HS1 := hide (HS.out.step ht hv); clear c0 c1 c2 c3 z1 z2 z3 hp d0 d1 d2 d3 d4 y0 y1 y2 y3 y4 hg hne hne2; clear HS ht hv; have HS := HS1; clear HS1; obtain ⟨⟨c0, c1, c2, c3, z1, z2, z3, hp⟩, ⟨d0, d1, d2, d3, d4, y0, y1, y2, y3, y4, hg⟩, hne, hne2⟩ := HS.out.cells) | (go_at_call_of 97 (Value.string ⟨#[34]⟩); with_reducible refine (takeV_no ⟨#[34]⟩ _ _ _ _ _ _ HQ.out HS.out.vr).mono ?_; rintro e W1 ⟨rfl, hv, ht⟩; have HS1 := hide (HS.out.step ht hv); clear c0 c1 c2 c3 z1 z2 z3 hp d0 d1 d2 d3 d4 y0 y1 y2 y3 y4 hg hne hne2; clear HS ht hv; have HS := HS1; clear HS1; obtain ⟨⟨c0, c1, c2, c3, z1, z2, z3, hp⟩, ⟨d0, d1, d2, d3, d4, y0, y1, y2, y3, y4, hg⟩, hne, hne2⟩ := HS.out.cells) | (go_at_call_of 99 (Value.string ⟨#[91, 91]⟩); with_reducible refine (hasV_b ⟨#[91, 91]⟩ false _ _ _ _ _ _ HB2.out HS.out.vr).mono ?_; rintro e w' ⟨rfl, n9, rfl⟩; have HS1 := hide (HS.out.drewN n9); (try rw [World.drewN_drewN] at HS1); clear c0 c1 c2 c3 z1 z2 z3 hp d0 d1 d2 d3 d4 y0 y1 y2 y3 y4 hg hne hne2; clear HS; have HS := HS1; clear HS1; obtain ⟨⟨c0, c1, c2, c3, z1, z2, z3, hp⟩, ⟨d0, d1, d2, d3, d4, y0, y1, y2, y3, y4, hg⟩, hne, hne2⟩ := HS.out.cells) | (go_at_call_of 97 (Value.string ⟨#[91]⟩); with_reducible refine (takeV_yes ⟨#[91]⟩ _ _ _ _ _ _ 1 rfl HB.out HS.out.vr).mono ?_; rintro e W1 ⟨rfl, hv, ht⟩; have HS1 := hide (HS.out.step ht hv); clear c0 c1 c2 c3 z1 z2 z3 hp d0 d1 d2 d3 d4 y0 y1 y2 y3 y4 hg hne hne2; clear HS ht hv; have HS := HS1; clear HS1; obtain ⟨⟨c0, c1, c2, c3, z1, z2, z3, hp⟩, ⟨d0, d1, d2, d3, d4, y0, y1, y2, y3, y4, hg⟩, hne, hne2⟩ := HS.out.cells) | (go_at_call 101; (with_reducible refine (listV_any _ _ _ _ _ (fun w' ht => HPM.out.1 w' (HS.out.trn.trans ht)) (fun w' ht => HPM.out.2 w' (HS.out.trn.trans ht)) HS.out.vr).mono ?_); rintro e W2 ⟨x, A, c, rfl, hlin, hlen, hfl, ht, k', b', f', hv, hk2, hgi⟩; have HX := hide (And.intro (hlin.mono (fun b hb => (⟨Nat.lt_of_lt_of_le hg hb.1, hb.2⟩ : w.heap.size < b ∧ b < W2.heap.size))) (And.intro hlen (And.intro hfl (And.intro hk2 hgi)))); clear hlin hlen hfl hk2 hgi; (try simp only [V.arg]); have HS1 := hide (HS.out.step ht hv); clear c0 c1 c2 c3 z1 z2 z3 hp d0 d1 d2 d3 d4 y0 y1 y2 y3 y4 hg hne hne2; clear HS ht hv; have HS := HS1; clear HS1; obtain ⟨⟨c0, c1, c2, c3, z1, z2, z3, hp⟩, ⟨d0, d1, d2, d3, d4, y0, y1, y2, y3, y4, hg⟩, hne, hne2⟩ := HS.out.cells))
      refine bodyPost_ret (results_cell_row (P := Tryz.prog) (by rfl) _ _ _ 24 #[.int .i64 x.k, .int .i64 x.i, .int .i64 x.t, .string x.s, .slice A x.l.length c] (0, 0) _ rfl (HS.out.end _ _ _ _ _).1 Tryz.underlying24 rfl (by kernel_rfl)) rfl ?_
      exact HS.out.valB HX.out.1 HX.out.2.1 HX.out.2.2.1 (Nat.le_of_succ_le HX.out.2.2.2.1) HX.out.2.2.2.2

/-- What reading a whole string hands out. -/
def RdOut (w : World) (q : V × Int) (e : Ending) (w' : World) : Prop :=
  ∃ (A : Option Addr) (c : Nat), e = .returned (.tuple #[q.1.arg A c, .int .i64 q.2]) ∧ LIn w' (fun b => w.heap.size ≤ b ∧ b < w'.heap.size) A q.1.l ∧ q.1.l.length ≤ 400001 ∧ (∀ y ∈ q.1.l, y.l = []) ∧ Below w.heap.size w w'

theorem rdV_none {l : List UInt8} (h : pVal l = none) : rdV l = (vN, 8) := by unfold rdV; rw [h]

theorem rdV_more {l : List UInt8} {x : V} {c : UInt8} {r : List UInt8} {f : Bool} (h : pVal l = some (x, c :: r, f)) : rdV l = (vN, 8) := by unfold rdV; rw [h]

theorem rdV_ok {l : List UInt8} {x : V} (h : pVal l = some (x, [], false)) : rdV l = (x, 0) := by unfold rdV; rw [h]

theorem rdV_far {l : List UInt8} {x : V} (h : pVal l = some (x, [], true)) : rdV l = (vN, 2) := by unfold rdV; rw [h]

theorem rst_zero (s : ByteArray) : rst s 0 = s.data.toList := rfl

theorem rst_all {s : ByteArray} {k : Nat} (h : k < s.size) : ∃ c r, rst s k = c :: r := ⟨_, _, rst_atQ h⟩

set_option maxHeartbeats 3200000 in
set_option maxRecDepth 100000 in
theorem readValue_any (s : ByteArray) (w : World) (hs : s.size ≤ 400000) (hp : PowTab w) (hm : MaxTold w) :
    Calls Tryz.prog 14 #[.string s] w (RdOut w (rdV s.data.toList)) := by
  have hb0 : Below w.heap.size w ((w.alloc (.cells zVal 24)).alloc (.cells #[.string s, .int .i64 0, .bool false, .bool false] 118)) := (by repeat (first | exact Below.refl _ _ | with_reducible refine bl_plus ?_ | with_reducible refine bl_alloc ?_ _ | with_reducible refine bl_drew ?_ | with_reducible refine bl_drewN ?_ _))
  have hbk : Blk ((w.alloc (.cells zVal 24)).alloc (.cells #[.string s, .int .i64 0, .bool false, .bool false] 118)) (w.heap.size + 1) 118 #[.string s, .int .i64 0, .bool false, .bool false] := by have := Blk.new (w.alloc (.cells zVal 24)) 118 #[.string s, .int .i64 0, .bool false, .bool false]; rwa [World.size_alloc] at this
  have HS := hide (show St w w.heap.size ((w.alloc (.cells zVal 24)).alloc (.cells #[.string s, .int .i64 0, .bool false, .bool false] 118)) (w.heap.size + 1) s 0 false false from ⟨⟨hbk, Nat.zero_le _, hs⟩, Trn.of_below hb0, (Blk.new w _ _).alloc _, by omega, Nat.le_refl _⟩)
  have HB0 := hide hb0
  generalize hR : rdV s.data.toList = R
  have HR := hide hR
  clear hR
  have HV := hide (valueV_any (w.heap.size + 1) 0 s false ((w.alloc (.cells zVal 24)).alloc (.cells #[.string s, .int .i64 0, .bool false, .bool false] 118)) (fun w' ht => powTab_below hp (Trn.below ht (Nat.le_succ _) hb0 (by simp only [World.size_alloc]; omega))) (fun w' ht => maxTold_below hm (Trn.below ht (Nat.le_succ _) hb0 (by simp only [World.size_alloc]; omega))) HS.out.vr)
  rw [rst_zero] at HV
  obtain ⟨⟨c0, c1, c2, c3, z1, z2, z3, hp⟩, ⟨d0, d1, d2, d3, d4, y0, y1, y2, y3, y4, hg⟩, hne, hne2⟩ := HS.out.cells
  clear hp hm hb0 hbk
  go_enter Tryz.func14, Tryz.ntmps14
  go_upto_region 3 with (go_at_call 52; (refine (HV.out).mono ?_); rintro e W1 ⟨x, A, c, rfl, hlin, hlen, hfl, ht, k', b', f', hv, hk2, hgi⟩; have HX := hide (And.intro hlin (And.intro hlen (And.intro hfl hgi))); clear hlin hlen hfl hk2 hgi; (try simp only [V.arg]); have HB1 := hide (Trn.below ht (Nat.le_succ _) HB0.out (by simp only [World.size_alloc]; omega)); have HS1 := hide (HS.out.step ht hv); clear c0 c1 c2 c3 z1 z2 z3 hp d0 d1 d2 d3 d4 y0 y1 y2 y3 y4 hg hne hne2; clear HS ht hv; have HS := HS1; clear HS1; obtain ⟨⟨c0, c1, c2, c3, z1, z2, z3, hp⟩, ⟨d0, d1, d2, d3, d4, y0, y1, y2, y3, y4, hg⟩, hne, hne2⟩ := HS.out.cells)
  rcases HX.out.2.2.2 with ⟨hO, rfl⟩ | ⟨r, f2, hO, rfl, hf2, hr⟩
  · obtain rfl : R = (vN, 8) := HR.out.symm.trans (rdV_none hO)
    clear hO
    go_wp2
    refine bodyPost_ret (res_cellV (P := Tryz.prog) (fn := Tryz.f14) (p := 2) (u := 3) rfl _ _ _ 24 #[.int .i64 0, .int .i64 0, .int .i64 0, .string ⟨#[]⟩, .slice none 0 0] (0, 0) _ rfl ((HS.out.end _ _ _ _ _).1.alloc _) Tryz.underlying24 rfl (by kernel_rfl)) rfl ?_
    exact ⟨none, 0, rfl, LIn.nil, Nat.zero_le _, fun y hy => (by cases hy), HB1.out.trans ((HS.out.end _ _ _ _ _).2.1.alloc (by rw [five_size]; have := HS.out.blk.lt; omega) _)⟩
  · rw [Bool.false_or] at hf2
    subst hf2
    have hqs := HS.out.vr.le
    rcases Nat.lt_or_ge k' s.size with hlt | hge
    · obtain ⟨cc, rr, hcr⟩ := rst_all hlt
      rw [hcr] at hr
      subst hr
      obtain rfl : R = (vN, 8) := HR.out.symm.trans (rdV_more hO)
      have t1 : decide (k' < s.size) = true := decide_eq_true hlt
      clear hO hcr hqs
      go_wp2
      refine bodyPost_ret (res_cellV (P := Tryz.prog) (fn := Tryz.f14) (p := 2) (u := 3) rfl _ _ _ 24 #[.int .i64 0, .int .i64 0, .int .i64 0, .string ⟨#[]⟩, .slice none 0 0] (0, 0) _ rfl ((HS.out.end _ _ _ _ _).1.alloc _) Tryz.underlying24 rfl (by kernel_rfl)) rfl ?_
      exact ⟨none, 0, rfl, LIn.nil, Nat.zero_le _, fun y hy => (by cases hy), HB1.out.trans ((HS.out.end _ _ _ _ _).2.1.alloc (by rw [five_size]; have := HS.out.blk.lt; omega) _)⟩
    · have hn : rst s k' = [] := List.drop_of_length_le (by rw [size_list]; exact hge)
      rw [hn] at hr
      subst hr
      have t1 : decide (k' < s.size) = false := decide_eq_false (by omega)
      have t2 : ¬ k' < s.size := by omega
      cases f'
      · obtain rfl : R = (x, 0) := HR.out.symm.trans (rdV_ok hO)
        have HLI := hide HX.out.1
        have HLN := hide HX.out.2.1
        have HFL := hide HX.out.2.2.1
        clear hO hn hqs
        go_wp2
        refine bodyPost_ret (res_cellV (P := Tryz.prog) (fn := Tryz.f14) (p := 2) (u := 3) rfl _ _ _ 24 #[.int .i64 x.k, .int .i64 x.i, .int .i64 x.t, .string x.s, .slice A x.l.length c] (0, 0) _ rfl ((HS.out.end _ _ _ _ _).1.alloc _) Tryz.underlying24 rfl (by kernel_rfl)) rfl ?_
        refine ⟨A, c, rfl, (HLI.out.frame fun b hb => ?_).mono fun b hb => ⟨?_, ?_⟩, HLN.out, HFL.out, HB1.out.trans ((HS.out.end _ _ _ _ _).2.1.alloc (by rw [five_size]; have := HS.out.blk.lt; omega) _)⟩
        · have h9 := hb.1
          simp only [World.size_alloc] at h9
          exact (Below.heap_alloc _ _ b (by rw [five_size]; exact hb.2)).trans (five_far (by omega))
        · have h9 := hb.1
          simp only [World.size_alloc] at h9
          omega
        · rw [World.size_alloc, five_size]
          have h9 := hb.2
          omega
      · obtain rfl : R = (vN, 2) := HR.out.symm.trans (rdV_far hO)
        clear hO hn hqs
        go_wp2
        refine bodyPost_ret (res_cellV (P := Tryz.prog) (fn := Tryz.f14) (p := 2) (u := 3) rfl _ _ _ 24 #[.int .i64 0, .int .i64 0, .int .i64 0, .string ⟨#[]⟩, .slice none 0 0] (0, 0) _ rfl ((HS.out.end _ _ _ _ _).1.alloc _) Tryz.underlying24 rfl (by kernel_rfl)) rfl ?_
        exact ⟨none, 0, rfl, LIn.nil, Nat.zero_le _, fun y hy => (by cases hy), HB1.out.trans ((HS.out.end _ _ _ _ _).2.1.alloc (by rw [five_size]; have := HS.out.blk.lt; omega) _)⟩


end Go.Proofs.YtdncmjlakmkfiaaGreatDoor
