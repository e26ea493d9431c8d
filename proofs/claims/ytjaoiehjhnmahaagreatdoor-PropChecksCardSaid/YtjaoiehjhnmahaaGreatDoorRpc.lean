/-
  WALKS: sync.Once's Do over the function that builds a Replacer's table, not yet done, the lock free.
-/
import Derived.Test.YtjaoiehjhnmahaaGreatDoorRpa
import Derived.Test.YtjaoiehjhnmahaaGreatDoorOwnB
set_option linter.all false
namespace Go.Proofs.YtjaoiehjhnmahaaGreatDoor
open Go.RowKit

set_option maxRecDepth 100000 in
theorem mutexLock (a : Addr) (w : World) (hc : w.cell? a = some (.int .i32 0)) (hz : w.frozen? a = false) :
    Calls Tryz.prog 255 #[.pointer (some a)] w fun e w' => e = .returned (.tuple #[]) ∧ w' = w.setCell a (.int .i32 1) := by
  have hd := raceDisable
  have he := raceEnable
  have ha := raceAcquire
  have hcas := run_call_cas_hit (P := Tryz.prog) Tryz.func280 (by kernel_rfl) (by kernel_rfl) (by kernel_rfl) .i32 (by kernel_rfl) (y := 1) hc hz
  have hc' : (w.setCell a (.int .i32 1)).cell? a = some (.int .i32 1) := World.cell?_setCell_same w a _ hc
  have hcv := run_convert_to_unsafe (P := Tryz.prog) (src := 335) (dst := 198) Tryz.underlying335 Tryz.underlying198 (by kernel_rfl) hc'
  go_enter Tryz.func255, Tryz.ntmps255
  go_wp2
  first | go_end0 | (simp only [Exit.inBlock, Exit.then]; refine bodyPost_ret (results_none rfl _ _ _) rfl ?_) | refine bodyPost_ret (results_none rfl _ _ _) rfl ?_
  exact ⟨rfl, rfl⟩

theorem lock_free (a : Addr) (w : World) (hc : w.cell? a = some (.int .i32 0)) (hz : w.frozen? a = false) :
    Calls Tryz.prog 218 #[.pointer (some a)] w fun e w' => e = .returned (.tuple #[]) ∧ w' = w.setCell a (.int .i32 1) := by
  go_enter Tryz.func218, Tryz.ntmps218
  go_wp2_with (go_at_call 255; refine (mutexLock a _ hc hz).mono ?_; rintro e w' ⟨rfl, rfl⟩)
  go_end0
  exact ⟨rfl, rfl⟩

theorem unlock_deferred (a : Addr) (u : FrameMode) (w : World) (hc : w.cell? a = some (.int .i32 1)) (hz : w.frozen? a = false) :
    CallsD Tryz.prog 219 #[.pointer (some a)] u w fun e u' w' => u' = u ∧ (e = .returned (.tuple #[]) ∧ w' = w.setCell a (.int .i32 0)) := by
  go_enter_d Tryz.func219, Tryz.ntmps219
  go_wp2_with (go_at_call 256; refine (mutexUnlock a _ hc hz).mono ?_; rintro e w' ⟨rfl, rfl⟩)
  go_end0
  exact ⟨rfl, rfl⟩

theorem boolLoad_any (a : Addr) (d : Int) (w : World) (hc : w.cell? a = some (.int .u32 d)) :
    Calls Tryz.prog 180 #[.pointer (some a)] w fun e w' => e = .returned (.bool (d != 0)) ∧ w' = w := by
  have hl := run_call_load (P := Tryz.prog) Tryz.func217 (by kernel_rfl) (by kernel_rfl) (by kernel_rfl) .u32 (by kernel_rfl) hc
  go_enter Tryz.func180, Tryz.ntmps180
  go_wp2
  go_ret
  exact ⟨rfl, rfl⟩

/-! ### A Replacer of two bytes -/
def FourAt (w : World) (A : Option Addr) : Prop := ∃ b o, A = some ⟨b, o, none⟩ ∧ b < w.heap.size ∧ w.cell? ⟨b, o, none⟩ = some (.string ⟨#[34]⟩) ∧ w.cell? ⟨b, o + 1, none⟩ = some (.string ⟨#[92, 34]⟩) ∧ w.cell? ⟨b, o + 2, none⟩ = some (.string ⟨#[92]⟩) ∧ w.cell? ⟨b, o + 3, none⟩ = some (.string ⟨#[92, 92]⟩)

theorem FourAt.below {w w' : World} {A : Option Addr} (h : FourAt w A) (hb : Below w.heap.size w w') : FourAt w' A := by
  obtain ⟨b, o, hA, hlt, e0, e1, e2, e3⟩ := h
  have hc : ∀ i, w'.cell? ⟨b, i, none⟩ = w.cell? ⟨b, i, none⟩ := fun i => hb.cell (p := ⟨b, i, none⟩) hlt
  exact ⟨b, o, hA, Nat.lt_of_lt_of_le hlt hb.size, (hc _).trans e0, (hc _).trans e1, (hc _).trans e2, (hc _).trans e3⟩

/-- The table: what stands for each byte; which bytes they are. -/
structure RepTab (w : World) (lo gb : Nat) : Prop where
  tab : ∃ cs ga gc gt ca cc ct, w.heap[gb]? = some (.cells cs 283 (0, 0)) ∧ (∀ i, i < 256 → i ≠ 34 → i ≠ 92 → cs[i]? = some (.slice none 0 0)) ∧
    cs[92]? = some (.slice (some ⟨ga, 0, none⟩) 2 ca) ∧ cs[34]? = some (.slice (some ⟨gc, 0, none⟩) 2 cc) ∧ cs[256]? = some (.slice (some ⟨gt, 0, none⟩) 2 ct) ∧
    lo ≤ ga ∧ ga < w.heap.size ∧ lo ≤ gc ∧ gc < w.heap.size ∧ lo ≤ gt ∧ gt < w.heap.size ∧
    w.cell? ⟨ga, 0, none⟩ = some (.int .u8 92) ∧ w.cell? ⟨ga, 1, none⟩ = some (.int .u8 92) ∧ w.cell? ⟨gc, 0, none⟩ = some (.int .u8 92) ∧ w.cell? ⟨gc, 1, none⟩ = some (.int .u8 34) ∧
    w.cell? ⟨gt, 0, none⟩ = some (.string ⟨#[92]⟩) ∧ w.cell? ⟨gt, 1, none⟩ = some (.string ⟨#[34]⟩)
  lo_ : lo ≤ gb
  lt_ : gb < w.heap.size

theorem RepTab.kept {w w' : World} {lo gb : Nat} (h : RepTab w lo gb) (hs : w.heap.size ≤ w'.heap.size) (hk : ∀ k, lo ≤ k → k < w.heap.size → w'.heap[k]? = w.heap[k]?) : RepTab w' lo gb := by
  obtain ⟨cs, ga, gc, gt, ca, cc, ct, h0, h1, h2, h3, h4, a1, a2, b1, b2, c1, c2, e1, e2, e3, e4, e5, e6⟩ := h.tab
  have hc : ∀ k i, lo ≤ k → k < w.heap.size → w'.cell? ⟨k, i, none⟩ = w.cell? ⟨k, i, none⟩ := fun k i g1 g2 => World.cell?_of_block (hk k g1 g2)
  exact ⟨⟨cs, ga, gc, gt, ca, cc, ct, (hk gb h.lo_ h.lt_).trans h0, h1, h2, h3, h4, a1, by omega, b1, by omega, c1, by omega, (hc _ _ a1 a2).trans e1, (hc _ _ a1 a2).trans e2, (hc _ _ b1 b2).trans e3, (hc _ _ b1 b2).trans e4, (hc _ _ c1 c2).trans e5, (hc _ _ c1 c2).trans e6⟩, h.lo_, Nat.lt_of_lt_of_le h.lt_ hs⟩

def repCells (d m : Int) (R O : Value) : Array Value := #[.int .u32 d, .int .i32 m, .int .u32 0, R, O]

/-- What the building leaves. -/
def BuiltOut (g : Nat) (w : World) (e : Ending) (w' : World) : Prop := e = .returned (.tuple #[]) ∧ w.grownBy w' (some g) ∧ ∃ gb, Blk w' g 215 (repCells 0 1 (.iface 284 (.pointer (some ⟨gb, 0, none⟩))) (.slice none 0 0)) ∧ RepTab w' w.heap.size gb

theorem setCell_size {w : World} {a : Addr} {v : Value} : (w.setCell a v).heap.size = w.heap.size := by simp [World.setCell]

theorem set_grown {w w' : World} {g i : Nat} {v : Value} (h : w.grownBy w' (some g)) : w.grownBy (w'.setCell ⟨g, i, none⟩ v) (some g) := by
  refine ⟨h.os, h.tape, h.output, by simpa [World.setCell] using h.size, fun k hk hne => ?_⟩
  rw [Below.heap_setCell w' ⟨g, i, none⟩ v k (fun e => hne (by rw [e]))]
  exact h.block k hk hne

theorem grown_trans {a b c : World} {g : Nat} (h : a.grownBy b (some g)) (k : b.grownBy c (some g)) : a.grownBy c (some g) :=
  ⟨k.os.trans h.os, k.tape.trans h.tape, k.output.trans h.output, Nat.le_trans h.size k.size, fun j hj hne => (k.block j (Nat.lt_of_lt_of_le hj h.size) hne).trans (h.block j hj hne)⟩

theorem grown_refl {w : World} {r : Option Nat} : w.grownBy w r := ⟨rfl, rfl, rfl, Nat.le_refl _, fun _ _ _ => rfl⟩

set_option maxRecDepth 100000 in
set_option maxHeartbeats 1600000 in
theorem doSlow_any (g : Nat) (A : Option Addr) (c : Nat) (w : World) (h : Blk w g 215 (repCells 0 0 .nilIface (.slice A 4 c)))
    (HB : ∀ W, Blk W g 215 (repCells 0 1 .nilIface (.slice A 4 c)) → w.grownBy W (some g) → Calls Tryz.prog 139 #[.pointer (some ⟨g, 0, none⟩)] W (BuiltOut g W)) :
    Calls Tryz.prog 181 #[.pointer (some ⟨g, 0, none⟩), .func (.func 139) #[.pointer (some ⟨g, 0, none⟩)] #[]] w fun e w' => e = .returned (.tuple #[]) ∧ w.grownBy w' (some g) ∧
      ∃ gb, Blk w' g 215 (repCells 1 0 (.iface 284 (.pointer (some ⟨gb, 0, none⟩))) (.slice none 0 0)) ∧ RepTab w' w.heap.size gb := by
  have h1 := h.set_ 1 (.int .i32 1)
  have hbo := HB _ h1 (set_grown grown_refl)
  have HBL := hide (boolLoad_any ⟨g, 0, none⟩ 0 (w.setCell ⟨g, 1, none⟩ (.int .i32 1)) (h1.cell 0))
  have hc1 := h.cell 1
  have hf1 := h.frozen 1
  have hnot : ∀ (x : Bool) (w : World), (Op.unary .not (.bool x)).run Tryz.prog w = .ok (.bool (!x)) w := fun _ _ => rfl
  have HBO := hide hbo
  have H := hide h
  unfold BuiltOut at HBO
  clear hbo HB h h1
  go_enter_defers Tryz.func181, Tryz.ntmps181
  go_wp2_with (first | (go_at_call 218; refine (lock_free ⟨g, 1, none⟩ _ hc1 hf1).mono ?_; rintro e w' ⟨rfl, rfl⟩) | (go_at_call 180; refine HBL.out.mono ?_; rintro e w' ⟨rfl, rfl⟩) | (go_at_call 139; refine HBO.out.mono ?_; rintro e w1 ⟨rfl, hg1, gb, hb1, ht1⟩; have HG1 := hide hg1; have HB1 := hide hb1; have HT1 := hide ht1; clear hg1 hb1 ht1))
  have k0 := HB1.out.cell 0
  have f0 := HB1.out.frozen 0
  have hb2 := (HB1.out.drew).set_ 0 (.int .u32 1)
  have k1 := hb2.cell 1
  have f1 := hb2.frozen 1
  have hb3 := hb2.set_ 1 (.int .i32 0)
  have hw : w.grownBy w1 (some g) := grown_trans (set_grown grown_refl) HG1.out
  have hg3 := set_grown (i := 1) (v := .int .i32 0) (set_grown (w' := w1.drew) (i := 0) (v := .int .u32 1) (g := g) ⟨hw.os, hw.tape, hw.output, hw.size, hw.block⟩)
  have ht3 : RepTab ((w1.drew.setCell ⟨g, 0, none⟩ (.int .u32 1)).setCell ⟨g, 1, none⟩ (.int .i32 0)) w.heap.size gb := by
    have hgw := H.out.lt
    have hsz := setCell_size (w := w) (a := ⟨g, 1, none⟩) (v := .int .i32 1)
    have ht := HT1.out
    rw [hsz] at ht
    refine ht.kept (Nat.le_of_eq (by rw [setCell_size, setCell_size]; rfl)) (fun k h1 h2 => ?_)
    rw [Below.heap_setCell _ ⟨g, 1, none⟩ _ k (by show k ≠ g; omega), Below.heap_setCell _ ⟨g, 0, none⟩ _ k (by show k ≠ g; omega)]
    rfl
  have HFIN := hide (And.intro hg3 (And.intro hb3 ht3))
  clear hw hg3 ht3 hb3
  show Leaves _ _ _ _ _ _ _
  refine leaves_cons (f := 220) (args := #[.pointer (some ⟨g, 0, none⟩), .bool true]) (by simp) (by simp [go_sem]) ?_
  refine (boolStore_deferred ⟨g, 0, none⟩ (.int .u32 0) .returning _ k0 f0).mono ?_
  rintro e u' w'' ⟨rfl, rfl, rfl⟩
  refine leaves_cons (f := 219) (args := #[.pointer (some ⟨g, 1, none⟩)]) (by simp [settle]) (by simp [go_sem]) ?_
  refine (unlock_deferred ⟨g, 1, none⟩ _ _ k1 f1).mono ?_
  rintro e u' w'' ⟨rfl, rfl, rfl⟩
  simp only [Leaves, settle, results, Tryz.results181]
  exact ⟨.tuple #[], by simp, rfl, HFIN.out.1, gb, HFIN.out.2.1, HFIN.out.2.2⟩

set_option maxRecDepth 100000 in
theorem do_any (g : Nat) (A : Option Addr) (c : Nat) (w : World) (h : Blk w g 215 (repCells 0 0 .nilIface (.slice A 4 c)))
    (HB : ∀ W, Blk W g 215 (repCells 0 1 .nilIface (.slice A 4 c)) → w.grownBy W (some g) → Calls Tryz.prog 139 #[.pointer (some ⟨g, 0, none⟩)] W (BuiltOut g W)) :
    Calls Tryz.prog 138 #[.pointer (some ⟨g, 0, none⟩), .func (.func 139) #[.pointer (some ⟨g, 0, none⟩)] #[]] w fun e w' => e = .returned (.tuple #[]) ∧ w.grownBy w' (some g) ∧
      ∃ gb, Blk w' g 215 (repCells 1 0 (.iface 284 (.pointer (some ⟨gb, 0, none⟩))) (.slice none 0 0)) ∧ RepTab w' w.heap.size gb := by
  have HBL := hide (boolLoad_any ⟨g, 0, none⟩ 0 w (h.cell 0))
  have HDS := hide (doSlow_any g A c w h HB)
  have hnot : ∀ (x : Bool) (w : World), (Op.unary .not (.bool x)).run Tryz.prog w = .ok (.bool (!x)) w := fun _ _ => rfl
  clear HB h
  go_enter Tryz.func138, Tryz.ntmps138
  go_wp2_with (first | (go_at_call 180; refine HBL.out.mono ?_; rintro e w' ⟨rfl, rfl⟩) | (go_at_call 181; refine HDS.out.mono ?_; rintro e w1 ⟨rfl, hr⟩; have HR := hide hr; clear hr))
  go_end0
  exact ⟨rfl, HR.out⟩

end Go.Proofs.YtjaoiehjhnmahaaGreatDoor
/-
  WALK: strings.NewReplacer of two bytes.
-/
namespace Go.Proofs.YtjaoiehjhnmahaaGreatDoor
open Go.RowKit

theorem info_strR : (Tryz.prog.info? 9).map (fun i => (i.zero, i.size, i.bytes)) = some (some (.string ByteArray.empty), 1, 16) := by kernel_rfl

def four : List Value := [.string ⟨#[34]⟩, .string ⟨#[92, 34]⟩, .string ⟨#[92]⟩, .string ⟨#[92, 92]⟩]

theorem four_own {w : World} {base c : Nat} {A : Option Addr} (h : OwnK 1 9 w base (.slice A 4 c) 4 four) : FourAt w A := by
  obtain ⟨_, A', c', hv, h1, h2, h3⟩ := h
  injection hv with e1 e2 e3
  subst e1 e3
  rcases h3 with ⟨_, h0, _⟩ | ⟨g, cur, rfl, hg, hb, h4, h5⟩
  · omega
  · have hc : ∀ i, i < 4 → w.cell? ⟨g, 0 + i, none⟩ = four[i]? := fun i hi => by
      rw [Nat.zero_add, cell_of_row w g i cur _ (0, 0) hb, ← h5, List.getElem?_take_of_lt (by omega)]
      simp
    exact ⟨g, 0, rfl, (Array.getElem?_eq_some_iff.1 hb).1, hc 0 (by decide), hc 1 (by decide), hc 2 (by decide), hc 3 (by decide)⟩

def NewOut (w : World) (e : Ending) (w' : World) : Prop := ∃ g A c, e = .returned (.pointer (some ⟨g, 0, none⟩)) ∧ Below w.heap.size w w' ∧ w.heap.size ≤ g ∧ Blk w' g 215 (repCells 0 0 .nilIface (.slice A 4 c)) ∧ FourAt w' A

set_option maxRecDepth 100000 in
set_option maxHeartbeats 1600000 in
theorem newReplacer_any (b : Nat) (w : World) (h : FourAt w (some ⟨b, 0, none⟩)) (hb : b < w.heap.size) :
    Calls Tryz.prog 69 #[.slice (some ⟨b, 0, none⟩) 4 4] w (NewOut w) := by
  have HPO := hide (show ∀ g A c w', Below w.heap.size w w' → w.heap.size ≤ g → Blk w' g 215 (repCells 0 0 .nilIface (.slice A 4 c)) → FourAt w' A → NewOut w (.returned (.pointer (some ⟨g, 0, none⟩))) w' from fun g A c w' h1 h2 h3 h4 => ⟨g, A, c, rfl, h1, h2, h3, h4⟩)
  generalize NewOut w = PO at *
  have hnews : ∀ j u, four[j]? = some u → w.cell? ((⟨b, 0, none⟩ : Addr).add j) = some u := by
    obtain ⟨b', o', hA, _, e0, e1, e2, e3⟩ := h
    injection hA with hA
    injection hA with hA1 hA2 _
    subst hA1 hA2
    intro j u hj
    have hadd : (⟨b, 0, none⟩ : Addr).add j = ⟨b, 0 + j, none⟩ := by unfold Addr.add; split <;> simp_all
    rw [hadd]
    match j, hj with
    | 0, hj => rw [e0]; exact hj
    | 1, hj => rw [e1]; exact hj
    | 2, hj => rw [e2]; exact hj
    | 3, hj => rw [e3]; exact hj
    | j + 4, hj => simp [four] at hj
  have HN := hide hnews
  obtain ⟨j0, ji, jz0, jz1, jz2⟩ := info_parts info_strR
  have HI := hide (And.intro ji (And.intro jz0 (And.intro jz1 jz2)))
  clear ji jz0 jz1 jz2 hnews h
  go_enter Tryz.func69, Tryz.ntmps69
  go_wp2_with (at_builtin; go_loud (refine wpList_append_m rfl (.const (.slice none 0 0)) (.tmp 8) rfl rfl Tryz.underlying61 HI.out.1 HI.out.2.1 HI.out.2.2.1 (by decide) rfl (by have := HI.out.2.2.2; omega) w.heap.size 0 4 (.slice none 0 0) [] four b rfl OwnK.empty (by decide) rfl (by intro u hu; simp only [four, List.mem_cons, List.not_mem_nil, or_false] at hu; rcases hu with rfl | rfl | rfl | rfl <;> rfl) rfl HN.out (by decide) (Nat.le_refl _) ?_; intro v' w1 hown1 hgr1 hfr1; obtain ⟨A1, c1, rfl, _⟩ := ownK_form hown1; have HF := hide (four_own hown1); obtain ⟨os9, n9, rfl⟩ := grown_plus (L := w) (Below.refl _ _) hgr1 (fun k hk => by simp [Value.ownBlock] at hk); clear hown1 hgr1 hfr1))
  refine HPO.out (w.heap.size + os9.size) A1 c1 _ (bl_alloc (bl_plus (Below.refl _ _)) _) (by omega) ?_ (HF.out.below (bl_alloc (Below.refl _ _) _))
  have hB := Blk.new (plus w os9 n9) 215 (repCells 0 0 .nilIface (.slice A1 4 c1))
  simp only [plus_size] at hB
  exact hB

end Go.Proofs.YtjaoiehjhnmahaaGreatDoor
