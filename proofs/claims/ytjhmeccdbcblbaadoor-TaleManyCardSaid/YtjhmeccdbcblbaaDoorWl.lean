/- The walk of the law's own awake. -/
import Derived.Test.YtjhmeccdbcblbaaDoorWk
set_option linter.unusedSimpArgs false
set_option linter.unusedVariables false
namespace Go.Proofs.YtjhmeccdbcblbaaDoor
open Go.RowKit Go.Sort
open Go.Lib (itoa decDigits join)
attribute [local go_sem] Oper.semAt_some

theorem Read_any (s : ByteArray) (hs : s.size ≤ 65000) (w : World) (hE : Env w) : Calls Tryd.prog 12 #[.string s] w (ReadQ s w) := callsIn_wide.1 (Read_in s hs w hE)

def awX : Tl.Stp := ⟨5, 1, -4, 0, 18446744073709551615⟩
def awS : ByteArray := ⟨#[119, 114, 105, 116, 101, 32, 49, 32, 45, 52, 32, 49, 56, 52, 52, 54, 55, 52, 52, 48, 55, 51, 55, 48, 57, 53, 53, 49, 54, 49, 53]⟩
theorem aw_dec : decDigits 18446744073709551615 = [49, 56, 52, 52, 54, 55, 52, 52, 48, 55, 51, 55, 48, 57, 53, 53, 49, 54, 49, 53] := by kernel_rfl
theorem awX_is : Tl.Is awX awS.data.toList := ⟨by unfold awX Tl.Stp.ok; simp, by kernel_rfl, by kernel_rfl⟩
def awL : Tl.Stp := ⟨1, 2, 1, 0, 0⟩
theorem awL_ok : awL.ok := by unfold awL Tl.Stp.ok; simp
theorem awL_okB : Tl.okB awL = true := by kernel_rfl
theorem awL_line : str (Tl.lineAt awL (awL.kind - 1).toNat) = ⟨#[109, 97, 107, 101, 32, 50, 32, 49, 32, 48]⟩ := by kernel_rfl
def awR : ByteArray := ⟨#[110, 105, 108, 32, 51, 10, 102, 111, 114, 99, 101, 32, 49]⟩
def awR1 : Tl.Stp := ⟨9, 3, 0, 0, 0⟩
def awR2 : Tl.Stp := ⟨12, 1, 0, 0, 0⟩
theorem awR_lines : lines awR = [⟨#[110, 105, 108, 32, 51, 10]⟩, ⟨#[102, 111, 114, 99, 101, 32, 49]⟩] := by kernel_rfl
theorem awR1_is : Tl.Is awR1 (cut ⟨#[110, 105, 108, 32, 51, 10]⟩).data.toList := ⟨by unfold awR1 Tl.Stp.ok; simp, by kernel_rfl, by kernel_rfl⟩
theorem awR2_is : Tl.Is awR2 (cut ⟨#[102, 111, 114, 99, 101, 32, 49]⟩).data.toList := ⟨by unfold awR2 Tl.Stp.ok; simp, by kernel_rfl, by kernel_rfl⟩
theorem awR_two {w : World} {e : Ending} {w' : World} (h : ReadQ awR w e w') : Below w.heap.size w w' ∧ ∃ a cap, e = .returned (.tuple #[.slice a 2 cap, .int .i64 0, .int .i64 0]) := by
  obtain ⟨hb, ⟨xs, v, hA, he, ho⟩ | ⟨pre, x, r, xs, hl, hA, hn, he⟩⟩ := h
  · refine ⟨hb, ?_⟩
    have hlen : xs.length = 2 := hA.length.trans (by rw [awR_lines]; decide)
    obtain ⟨-, ⟨h1, h2⟩ | ⟨g, cap, cur, hv, -⟩⟩ := ho
    · omega
    · exact ⟨_, _, by rw [he, hv, hlen]⟩
  · exfalso
    rw [awR_lines] at hl
    rcases pre with _ | ⟨p, _ | ⟨q, _ | _⟩⟩
    · simp only [List.nil_append, List.cons.injEq] at hl
      exact hn ⟨_, hl.1 ▸ awR1_is⟩
    · simp only [List.cons_append, List.nil_append, List.cons.injEq] at hl
      exact hn ⟨_, hl.2.1 ▸ awR2_is⟩
    · simp at hl
    · simp at hl

def TrueQ (w : World) (e : Ending) (w' : World) : Prop := e = .returned (.bool true) ∧ Below w.heap.size w w'

set_option maxRecDepth 100000 in
set_option maxHeartbeats 1000000 in
theorem awake_any (w : World) (hE : Env w) : Calls Tryd.prog 10 #[] w (TrueQ w) := by
  go_enter Tryd.func10, Tryd.ntmps10
  go_wp2_with fail
  refine (Step_any awS (by decide) _ hE).mono ?_
  rintro e w1 ⟨h1, -, hb1⟩
  obtain rfl := h1 awX awX_is
  have hE1 := hE.below hb1
  unfold stepC awX
  have HB1 := Lib.hid hb1
  clear hb1 h1
  go_wp2_with fail
  have hA1 := al (Below.refl _ w1) (.cells #[.int .i64 5, .int .i64 1, .int .i64 (-4), .int .i64 0, .int .u64 18446744073709551615] 24)
  refine (Line_any awL awL_ok _ (hE1.below hA1)).mono ?_
  rintro e w2 ⟨h2, -, hb2⟩
  obtain rfl := h2 awL_okB
  rw [awL_line]
  have hE2 := (hE1.below hA1).below hb2
  have HA1 := Lib.hid hA1
  have HB2 := Lib.hid hb2
  have q1 := heap_later (heap_new w1 (.cells #[.int .i64 5, .int .i64 1, .int .i64 (-4), .int .i64 0, .int .u64 18446744073709551615] 24)) hb2
  clear hA1 hb2 h2
  go_wp2_with fail
  refine (Read_any awR (by decide) _ hE2).mono ?_
  rintro e w3 hR
  obtain ⟨hb3, a, cap, rfl⟩ := awR_two hR
  have q3 := heap_later q1 hb3
  have c2 : w3.cell? ⟨w1.heap.size, 2, none⟩ = some (.int .i64 (-4)) := cell_at q3 rfl
  have c4 : w3.cell? ⟨w1.heap.size, 4, none⟩ = some (.int .u64 18446744073709551615) := cell_at q3 rfl
  have HB3 := Lib.hid hb3
  clear hb3 hR
  go_wp2
  go_ret
  refine ⟨rfl, ?_⟩
  refine HB1.out.trans (Below.mono ?_ HB1.out.size)
  exact (HA1.out.trans (HB2.out.mono HA1.out.size)).trans (HB3.out.mono (Nat.le_trans HA1.out.size HB2.out.size))
end Go.Proofs.YtjhmeccdbcblbaaDoor
