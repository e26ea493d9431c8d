/-
  WALK: a value's error, in the reference, where there are no items.
-/
import Derived.Test.YtfnooipkghfmoaaDoorPvh
import Derived.Test.YtfnooipkghfmoaaDoorDayA
import Derived.Deep.CutBlock
import Derived.Deep.QuietTactic
import Derived.BigQuiet
set_option linter.all false
namespace Go.Proofs.YtfnooipkghfmoaaDoor
open Go.RowKit Go.Lib

theorem V.self_form {v : V} (h : 0 ≤ v.k ∧ v.k ≤ 7) (hf : v.formOk = false) : v.selfErr = 1 := by
  rcases v.self_cases with ⟨_, _⟩ | ⟨_, ⟨_, e⟩ | ⟨g, _⟩⟩
  · omega
  · exact e
  · rw [hf] at g; cases g
theorem V.self_num {v : V} {e : Int} (h : 0 ≤ v.k ∧ v.k ≤ 7) (hf : v.formOk = true) (hn : v.numErr = e) (he : e ≠ 0) : v.selfErr = e := by
  rcases v.self_cases with ⟨_, _⟩ | ⟨_, ⟨g, _⟩ | ⟨_, ⟨_, e'⟩ | ⟨g, _⟩⟩⟩
  · omega
  · rw [hf] at g; cases g
  · rw [e', hn]
  · omega
theorem V.self_text {v : V} {e : Int} (h : 0 ≤ v.k ∧ v.k ≤ 7) (hf : v.formOk = true) (hn : v.numErr = 0) (ht : v.textErr = e) (he : e ≠ 0) : v.selfErr = e := by
  rcases v.self_cases with ⟨_, _⟩ | ⟨_, ⟨g, _⟩ | ⟨_, ⟨g, _⟩ | ⟨_, ⟨_, e'⟩ | ⟨g, _⟩⟩⟩⟩
  · omega
  · rw [hf] at g; cases g
  · omega
  · rw [e', ht]
  · omega
theorem V.self_ok {v : V} (h : 0 ≤ v.k ∧ v.k ≤ 7) (hf : v.formOk = true) (hn : v.numErr = 0) (ht : v.textErr = 0) (hl : v.l.length = 0) : v.selfErr = 0 := by
  rcases v.self_cases with ⟨_, _⟩ | ⟨_, ⟨g, _⟩ | ⟨_, ⟨g, _⟩ | ⟨_, ⟨g, _⟩ | ⟨_, ⟨g, _⟩ | ⟨_, e⟩⟩⟩⟩⟩
  · omega
  · rw [hf] at g; cases g
  · omega
  · omega
  · omega
  · exact e

theorem V.self_len {v : V} (h : 0 ≤ v.k ∧ v.k ≤ 7) (hf : v.formOk = true) (hn : v.numErr = 0) (ht : v.textErr = 0) (hl : 20 < v.l.length) : v.selfErr = 4 := by
  rcases v.self_cases with ⟨_, _⟩ | ⟨_, ⟨g, _⟩ | ⟨_, ⟨g, _⟩ | ⟨_, ⟨g, _⟩ | ⟨_, ⟨_, e⟩ | ⟨g, _⟩⟩⟩⟩⟩
  · omega
  · rw [hf] at g; cases g
  · omega
  · omega
  · exact e
  · omega
theorem V.self_fine {v : V} (h : 0 ≤ v.k ∧ v.k ≤ 7) (hf : v.formOk = true) (hn : v.numErr = 0) (ht : v.textErr = 0) (hl : v.l.length ≤ 20) : v.selfErr = 0 := by
  rcases v.self_cases with ⟨_, _⟩ | ⟨_, ⟨g, _⟩ | ⟨_, ⟨g, _⟩ | ⟨_, ⟨g, _⟩ | ⟨_, ⟨g, _⟩ | ⟨_, e⟩⟩⟩⟩⟩
  · omega
  · rw [hf] at g; cases g
  · omega
  · omega
  · omega
  · exact e

end Go.Proofs.YtfnooipkghfmoaaDoor
