/-
  PLAIN: a rule as text.
-/
import Derived.Test.YtididkdmbpfjnaaDoorRlt
namespace Go.Proofs.YtididkdmbpfjnaaDoor
open Go.RowKit Cal

def wEvery : ByteArray := ⟨#[101, 118, 101, 114, 121, 32]⟩
def wFrom : ByteArray := ⟨#[32, 102, 114, 111, 109, 32]⟩
def wUntil : ByteArray := ⟨#[32, 117, 110, 116, 105, 108, 32]⟩
def wTimes : ByteArray := ⟨#[32, 116, 105, 109, 101, 115, 32]⟩
def wOn : ByteArray := ⟨#[111, 110]⟩
def wTh : ByteArray := ⟨#[116, 104]⟩
def wDates : ByteArray := ⟨#[100, 97, 116, 101, 115]⟩
def wSkip : ByteArray := ⟨#[115, 107, 105, 112]⟩
def Rul.s0 (r : Rul) : ByteArray := ((wEvery ++ itB r.e) ++ (⟨#[32]⟩ : ByteArray)) ++ unitB r.u
def Rul.s1 (r : Rul) : ByteArray := if r.e ≠ 1 then r.s0 ++ (⟨#[115]⟩ : ByteArray) else r.s0
def Rul.s2 (r : Rul) : ByteArray := r.s1 ++ (wFrom ++ dayB r.f)
def Rul.s3 (r : Rul) : ByteArray := if 0 ≤ r.t then r.s2 ++ (wUntil ++ dayB r.t) else r.s2
def Rul.s4 (r : Rul) : ByteArray := if 0 < r.c then r.s3 ++ (wTimes ++ itB r.c) else r.s3
def Rul.on (r : Rul) : ByteArray := if r.n ≠ 0 then wOn ++ (((⟨#[32]⟩ : ByteArray) ++ itB r.n) ++ wTh) else wOn
def Rul.s5 (r : Rul) : ByteArray := wordsB wdayB (headB r.s4 r.on r.wd) r.wd
def Rul.s6 (r : Rul) : ByteArray := wordsB itB (headB r.s5 wDates r.da) r.da
def Rul.s7 (r : Rul) : ByteArray := wordsB dayB (headB r.s6 wSkip r.sk) r.sk
def Rul.out (r : Rul) : ByteArray × Int := if r.err ≠ 0 then (⟨#[]⟩, r.err) else if 2000 < r.s7.size then (⟨#[]⟩, 4) else (r.s7, 0)

/-- What a right rule is. -/
structure Rul.Good (r : Rul) : Prop where
  u : 1 ≤ r.u ∧ r.u ≤ 4
  e : 1 ≤ r.e ∧ r.e ≤ 1000
  f : 0 ≤ r.f ∧ r.f ≤ 100000
  t : -1 ≤ r.t ∧ r.t ≤ 100000
  c : 0 ≤ r.c ∧ r.c ≤ 5000
  parts : r.partsErr = 0
  wd : rise r.wd 0 6 true = 0
  da : rise r.da (-31) 31 false = 0
  n : -5 ≤ r.n ∧ r.n ≤ 5
  sk : rise r.sk 0 100000 true = 0
  lw : r.wd.length ≤ 7
  ld : r.da.length ≤ 63
  ls : r.sk.length ≤ 100
theorem Rul.good {r : Rul} (h : r.err = 0) : r.Good := by
  rcases r.cases1 with ⟨_, k⟩ | ⟨h1, ⟨_, k⟩ | ⟨h2, ⟨_, k⟩ | ⟨h3, ⟨_, k⟩ | ⟨h4, ⟨_, k⟩ | ⟨h5, ⟨_, k⟩ | ⟨h6, ⟨k', k⟩ | ⟨h7, ⟨k', k⟩ | ⟨h8, ⟨_, k⟩ | ⟨h9, ⟨_, k⟩ | ⟨h10, k⟩⟩⟩⟩⟩⟩⟩⟩⟩⟩
  all_goals try (exfalso; omega)
  exact ⟨h1, h2, h3, h4, h5, h6, h7, h8, h9, by omega, rise_len h7 7 (by decide), rise_len h8 63 (by decide), h10⟩
theorem if_size {c : Prop} [Decidable c] {a b : ByteArray} {n : Nat} (ha : a.size ≤ n) (hb : b.size ≤ n) : (if c then a else b).size ≤ n := by split <;> assumption

section
variable {r : Rul} (h : r.Good)
include h
theorem Rul.Good.z0 : r.s0.size ≤ 33 := by
  have h1 := itB_size (n := r.e) (by have := h.e; omega) (by have := h.e; omega)
  have h2 := unitB_size r.u
  have h3 : wEvery.size = 6 := rfl
  have h4 : (⟨#[32]⟩ : ByteArray).size = 1 := rfl
  simp only [Rul.s0, ByteArray.size_append, h3, h4]
  omega
theorem Rul.Good.z1 : r.s1.size ≤ 34 := by
  have := h.z0
  have h4 : (⟨#[115]⟩ : ByteArray).size = 1 := rfl
  exact if_size (by rw [ByteArray.size_append, h4]; omega) (by omega)
theorem Rul.Good.z2 : r.s2.size ≤ 50 := by
  have := h.z1
  have h4 : wFrom.size = 6 := rfl
  simp only [Rul.s2, ByteArray.size_append, h4, dayB_size]
  omega
theorem Rul.Good.z3 : r.s3.size ≤ 67 := by
  have := h.z2
  have h4 : wUntil.size = 7 := rfl
  exact if_size (by rw [ByteArray.size_append, ByteArray.size_append, h4, dayB_size]; omega) (by omega)
theorem Rul.Good.z4 : r.s4.size ≤ 95 := by
  have := h.z3
  have h4 : wTimes.size = 7 := rfl
  have h1 := itB_size (n := r.c) (by have := h.c; omega) (by have := h.c; omega)
  exact if_size (by rw [ByteArray.size_append, ByteArray.size_append, h4]; omega) (by omega)
theorem Rul.Good.zon : r.on.size ≤ 26 := by
  have h1 := itB_size (n := r.n) (by have := h.n; omega) (by have := h.n; omega)
  have h2 : wOn.size = 2 := rfl
  have h3 : wTh.size = 2 := rfl
  have h4 : (⟨#[32]⟩ : ByteArray).size = 1 := rfl
  exact if_size (by simp only [ByteArray.size_append, h2, h3, h4]; omega) (by rw [h2]; omega)
theorem Rul.Good.dates_ok : ∀ d ∈ r.da, -31 ≤ d ∧ d ≤ 31 := by
  intro d hd
  obtain ⟨k, hk, rfl⟩ := List.getElem_of_mem hd
  have := rise_bd h.da k hk
  rwa [List.getD_eq_getElem?_getD, List.getElem?_eq_getElem hk] at this
theorem Rul.Good.wd_ok : ∀ d ∈ r.wd, 0 ≤ d ∧ d ≤ 6 := by
  intro d hd
  obtain ⟨k, hk, rfl⟩ := List.getElem_of_mem hd
  have := rise_bd h.wd k hk
  rwa [List.getD_eq_getElem?_getD, List.getElem?_eq_getElem hk] at this
theorem Rul.Good.sk_ok : ∀ d ∈ r.sk, 0 ≤ d ∧ d ≤ 100000 := by
  intro d hd
  obtain ⟨k, hk, rfl⟩ := List.getElem_of_mem hd
  have := rise_bd h.sk k hk
  rwa [List.getD_eq_getElem?_getD, List.getElem?_eq_getElem hk] at this
theorem Rul.Good.z5 : r.s5.size ≤ 350 := by
  have h1 := wordsB_size (txt := wdayB) 30 r.wd (headB r.s4 r.on r.wd) (fun n _ => by have := wdayB_size n; omega)
  have h2 := headB_size r.s4 r.on r.wd
  have h3 := h.z4
  have h4 := h.zon
  have h5 := h.lw
  unfold Rul.s5
  omega
theorem Rul.Good.z6 : r.s6.size ≤ 2400 := by
  have h1 := wordsB_size (txt := itB) 30 r.da (headB r.s5 wDates r.da) (fun n hn => by have := h.dates_ok n hn; have := itB_size (n := n) (by omega) (by omega); omega)
  have h2 := headB_size r.s5 wDates r.da
  have h3 := h.z5
  have h4 : wDates.size = 5 := rfl
  have h5 := h.ld
  unfold Rul.s6
  omega
theorem Rul.Good.z7 : r.s7.size ≤ 6000 := by
  have h1 := wordsB_size (txt := dayB) 30 r.sk (headB r.s6 wSkip r.sk) (fun n hn => by rw [dayB_size]; omega)
  have h2 := headB_size r.s6 wSkip r.sk
  have h3 := h.z6
  have h4 : wSkip.size = 4 := rfl
  have h5 := h.ls
  unfold Rul.s7
  omega
end

/-! ### What the closures write -/

theorem writes_wday {l : List Int} (hl : ∀ n ∈ l, 0 ≤ n ∧ n ≤ 6) (g : Nat) (w : World) : Writes 30 wdayB l g w :=
  ⟨fun args w => Go.Proofs.enters_of Tryd.func30 (by kernel_rfl) rfl args w, fun n hn => ⟨by have := wdayB_size n; omega, fun w' _ _ => wdayText_any n w' (hl n hn).1 (hl n hn).2⟩⟩
theorem writes_it {l : List Int} (hl : ∀ n ∈ l, -31 ≤ n ∧ n ≤ 31) (g : Nat) (w : World) (hp : ∀ w', Below g w w' → PowTab w') : Writes 27 itB l g w :=
  ⟨fun args w => Go.Proofs.enters_of Tryd.func27 (by kernel_rfl) rfl args w, fun n hn => ⟨by have := hl n hn; have := itB_size (n := n) (by omega) (by omega); omega, fun w' hb _ => by
    have := hl n hn
    exact (Tryd.itoa_any n (by omega) (by omega) w' (hp w' hb)).mono fun _ _ ⟨he, os, k, hw⟩ => ⟨he, by subst hw; exact bl_plus (Below.refl _ _)⟩⟩⟩
theorem writes_day {l : List Int} (hl : ∀ n ∈ l, 0 ≤ n ∧ n ≤ 100000) (g : Nat) (w : World) (hp : ∀ w', Below g w w' → PowTab w') : Writes 24 dayB l g w :=
  ⟨fun args w => Go.Proofs.enters_of Tryd.func24 (by kernel_rfl) rfl args w, fun n hn => ⟨by rw [dayB_size]; omega, fun w' hb _ => dayText_any n w' (hl n hn).1 (hl n hn).2 (hp w' hb)⟩⟩

/-- A new builder. -/
theorem bld_new (w : World) : Bld (w.alloc (.cells #[.pointer none, .slice none 0 0] 61)) w.heap.size [] :=
  .inl ⟨Nat.le_refl _, .slice none 0 0, Blk.new w _ _, ⟨rfl, .inl ⟨rfl, rfl⟩⟩, by intro h; cases h⟩

end Go.Proofs.YtididkdmbpfjnaaDoor
