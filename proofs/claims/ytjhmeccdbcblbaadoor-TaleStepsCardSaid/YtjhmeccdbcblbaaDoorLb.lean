/- The walk of the law TaleSteps. -/
import Derived.Test.YtjhmeccdbcblbaaDoorWl
set_option linter.unusedSimpArgs false
set_option linter.unusedVariables false
namespace Go.Proofs.YtjhmeccdbcblbaaDoor
open Go.RowKit Go.Sort
open Go.Lib (itoa decDigits join)
attribute [local go_sem] Oper.semAt_some

set_option maxRecDepth 100000 in
set_option maxHeartbeats 1000000 in
theorem TaleSteps_any (l : ByteArray) (w : World) (hE : Env w) : Calls Tryd.prog 4 #[.string l] w (TrueQ w) := by
  by_cases hl : l.size ≤ 4000
  case neg =>
    have e1 : decide ((4000 : Int) < (l.size : Int)) = true := by simp; omega
    go_enter Tryd.func4, Tryd.ntmps4
    go_wp2_with fail
    refine (awake_any _ hE).mono ?_
    rintro e w3 ⟨rfl, hb3⟩
    go_wp2
    go_ret
    exact ⟨rfl, hb3⟩
  have e1 : decide ((4000 : Int) < (l.size : Int)) = false := by simp; omega
  go_enter Tryd.func4, Tryd.ntmps4
  go_wp2_with fail
  refine (Step_any l (by omega) _ hE).mono ?_
  rintro e w3 ⟨h1, h2, hb3⟩
  have hE4 := hE.below hb3
  have HC := Lib.hid hb3
  clear hb3
  by_cases hex : ∃ y, Tl.Is y l.data.toList
  · obtain ⟨x, hI⟩ := hex
    obtain rfl := h1 x hI
    obtain ⟨hx, hk, hline⟩ := hI
    clear h1 h2
    unfold stepC
    have q1 := heap_new w3 (.cells (stepC x) 24)
    have hA1 := al (Below.refl _ w3) (.cells (stepC x) 24)
    go_wp2_with fail
    refine (lline_any x hx _).mono ?_
    rintro e w2 ⟨h1, -, hb2⟩
    obtain rfl := h1 hk
    rw [show str (Tl.lineAt x (x.kind - 1).toNat) = l by rw [hline]; rfl]
    have hE3 := (hE4.below hA1).below hb2
    have HA1 := Lib.hid hA1
    have HB := Lib.hid hb2
    clear h1 hb2 q1 hA1
    go_wp2_with fail
    refine (awake_any _ hE3).mono ?_
    rintro e w4 ⟨rfl, hb4⟩
    have HD := Lib.hid hb4
    clear hb4
    go_wp2
    go_ret
    refine ⟨rfl, ?_⟩
    refine HC.out.trans (Below.mono ?_ HC.out.size)
    refine HA1.out.trans (Below.mono ?_ HA1.out.size)
    exact HB.out.trans (Below.mono HD.out HB.out.size)
  · obtain rfl := h2 hex
    clear h1 h2
    unfold stepC zeroS
    have q1 := heap_new w3 (.cells (stepC zeroS) 24)
    have hA1 := al (Below.refl _ w3) (.cells (stepC zeroS) 24)
    go_wp2_with fail
    refine (awake_any _ (hE4.below hA1)).mono ?_
    rintro e w4 ⟨rfl, hb4⟩
    replace q1 := heap_later q1 hb4
    have HA1 := Lib.hid hA1
    have HD := Lib.hid hb4
    have d0 : w4.cell? ⟨w3.heap.size, 0, none⟩ = some (.int .i64 0) := cell_at q1 rfl
    have d1 : w4.cell? ⟨w3.heap.size, 1, none⟩ = some (.int .i64 0) := cell_at q1 rfl
    have d2 : w4.cell? ⟨w3.heap.size, 2, none⟩ = some (.int .i64 0) := cell_at q1 rfl
    have d3 : w4.cell? ⟨w3.heap.size, 3, none⟩ = some (.int .i64 0) := cell_at q1 rfl
    have d4 : w4.cell? ⟨w3.heap.size, 4, none⟩ = some (.int .u64 0) := cell_at q1 rfl
    clear hb4 q1 hA1
    go_wp2
    go_ret
    refine ⟨rfl, ?_⟩
    refine HC.out.trans (Below.mono ?_ HC.out.size)
    exact HA1.out.trans (Below.mono HD.out HA1.out.size)
end Go.Proofs.YtjhmeccdbcblbaaDoor
