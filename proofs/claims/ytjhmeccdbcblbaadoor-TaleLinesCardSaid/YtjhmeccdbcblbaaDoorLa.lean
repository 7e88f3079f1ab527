/- The walk of the law TaleLines. -/
import Derived.Test.YtjhmeccdbcblbaaDoorWl
set_option linter.unusedSimpArgs false
set_option linter.unusedVariables false
namespace Go.Proofs.YtjhmeccdbcblbaaDoor
open Go.RowKit Go.Sort
open Go.Lib (itoa decDigits join)
attribute [local go_sem] Oper.semAt_some

set_option maxRecDepth 100000 in
set_option maxHeartbeats 1000000 in
theorem TaleLines_any (x : Tl.Stp) (hx : x.ok) (w : World) (hE : Env w) : Calls Tryd.prog 3 #[.agg (stepC x)] w (TrueQ w) := by
  unfold stepC
  go_enter Tryd.func3, Tryd.ntmps3
  go_wp2_with fail
  have hA := al (Below.refl _ w) (.cells (stepC x) 24)
  have q0 := heap_new w (.cells (stepC x) 24)
  have hE1 := hE.below hA
  refine (Line_any x hx _ hE1).mono ?_
  rintro e w1 ⟨h1, h2, hb1⟩
  replace q0 := heap_later q0 hb1
  have hE2 := hE1.below hb1
  have HA := Lib.hid (hA.trans (hb1.mono hA.size))
  clear hE1 hA
  have c0 : w1.cell? ⟨w.heap.size, 0, none⟩ = some (.int .i64 x.kind) := cell_at q0 rfl
  have c1 : w1.cell? ⟨w.heap.size, 1, none⟩ = some (.int .i64 x.a) := cell_at q0 rfl
  have c2 : w1.cell? ⟨w.heap.size, 2, none⟩ = some (.int .i64 x.b) := cell_at q0 rfl
  have c3 : w1.cell? ⟨w.heap.size, 3, none⟩ = some (.int .i64 x.c) := cell_at q0 rfl
  have c4 : w1.cell? ⟨w.heap.size, 4, none⟩ = some (.int .u64 x.v) := cell_at q0 rfl
  have hz := lt_of_heap q0
  cases hk : Tl.okB x with
  | false =>
    obtain rfl := h2 hk
    clear h1 h2 hb1
    go_wp2_with fail
    refine (lline_any x hx _).mono ?_
    rintro e w2 ⟨-, h2, hb2⟩
    obtain rfl := h2 hk
    have hE3 := hE2.below hb2
    have HB := Lib.hid hb2
    clear h2 hb2 c0 c1 c2 c3 c4
    go_wp2_with fail
    refine (awake_any _ hE3).mono ?_
    rintro e w3 ⟨rfl, hb3⟩
    have HC := Lib.hid hb3
    clear hb3
    go_wp2
    go_ret
    exact ⟨rfl, HA.out.trans ((HB.out.trans (HC.out.mono HB.out.size)).mono HA.out.size)⟩
  | true =>
    obtain rfl := h1 hk
    have hlen := Tl.line_len x hx
    generalize hl : str (Tl.lineAt x (x.kind - 1).toNat) = l at *
    clear h1 h2 hb1
    go_wp2_with fail
    refine (lline_any x hx _).mono ?_
    rintro e w2 ⟨h1, -, hb2⟩
    obtain rfl := h1 hk
    rw [hl]
    have hE3 := hE2.below hb2
    have HB := Lib.hid hb2
    replace q0 := heap_later q0 hb2
    clear h1 hb2 c0 c1 c2 c3 c4
    go_wp2_with fail
    refine (Step_any l ?_ _ hE3).mono ?_
    · rw [← hl]; exact Nat.le_trans (hlen _) (by decide)
    rintro e w3 ⟨h1, -, hb3⟩
    obtain rfl := h1 x ⟨hx, hk, by rw [← hl]; rfl⟩
    have hE4 := hE3.below hb3
    have HC := Lib.hid hb3
    replace q0 := heap_later q0 hb3
    clear h1 hb3
    unfold stepC
    go_wp2_with fail
    have q1 := heap_new w3 (.cells (stepC x) 24)
    have hA1 := al (Below.refl _ w3) (.cells (stepC x) 24)
    refine (awake_any _ (hE4.below hA1)).mono ?_
    rintro e w4 ⟨rfl, hb4⟩
    have HD := Lib.hid hb4
    have HA1 := Lib.hid hA1
    replace q1 := heap_later q1 hb4
    replace q0 := heap_later (heap_later q0 hA1) hb4
    clear hb4
    have c0 : w4.cell? ⟨w.heap.size, 0, none⟩ = some (.int .i64 x.kind) := cell_at q0 rfl
    have c1 : w4.cell? ⟨w.heap.size, 1, none⟩ = some (.int .i64 x.a) := cell_at q0 rfl
    have c2 : w4.cell? ⟨w.heap.size, 2, none⟩ = some (.int .i64 x.b) := cell_at q0 rfl
    have c3 : w4.cell? ⟨w.heap.size, 3, none⟩ = some (.int .i64 x.c) := cell_at q0 rfl
    have c4 : w4.cell? ⟨w.heap.size, 4, none⟩ = some (.int .u64 x.v) := cell_at q0 rfl
    have d0 : w4.cell? ⟨w3.heap.size, 0, none⟩ = some (.int .i64 x.kind) := cell_at q1 rfl
    have d1 : w4.cell? ⟨w3.heap.size, 1, none⟩ = some (.int .i64 x.a) := cell_at q1 rfl
    have d2 : w4.cell? ⟨w3.heap.size, 2, none⟩ = some (.int .i64 x.b) := cell_at q1 rfl
    have d3 : w4.cell? ⟨w3.heap.size, 3, none⟩ = some (.int .i64 x.c) := cell_at q1 rfl
    have d4 : w4.cell? ⟨w3.heap.size, 4, none⟩ = some (.int .u64 x.v) := cell_at q1 rfl
    go_wp2
    go_ret
    refine ⟨rfl, ?_⟩
    refine HA.out.trans (Below.mono ?_ HA.out.size)
    refine HB.out.trans (Below.mono ?_ HB.out.size)
    refine HC.out.trans (Below.mono ?_ HC.out.size)
    exact HA1.out.trans (HD.out.mono HA1.out.size)
end Go.Proofs.YtjhmeccdbcblbaaDoor
