/- The walks of the law's own words: plain, digits, line. -/
import Derived.Test.YtjhmeccdbcblbaaDoorWc
set_option linter.unusedSimpArgs false
set_option linter.unusedVariables false
namespace Go.Proofs.YtjhmeccdbcblbaaDoor
open Go.RowKit Go.Sort
open Go.Lib (itoa decDigits join)

theorem str_append (a b : List UInt8) : str a ++ str b = str (a ++ b) := by
  apply ByteArray.ext
  rw [ByteArray.data_append]
  simp [str]
theorem dec_small (w : Nat) (h : w < 10) (out : List UInt8) : decDigits w ++ out = UInt8.ofNat (48 + w % 10) :: out := by
  rw [Go.Lib.decDigits, dif_pos h, Nat.mod_eq_of_lt h]; rfl
theorem dec_big (w : Nat) (h : ¬ w < 10) (out : List UInt8) : decDigits w ++ out = decDigits (w / 10) ++ UInt8.ofNat (48 + w % 10) :: out := by
  rw [Go.Lib.decDigits, dif_neg h, List.append_assoc]; rfl

set_option maxRecDepth 100000 in
set_option maxHeartbeats 1000000 in
theorem lplain_any (w0 : Nat) (hw0 : w0 < 18446744073709551616) (w : World) :
    Calls Tryd.prog 18 #[.int .u64 w0] w fun e w' => e = .returned (.string (str (decDigits w0))) ∧ Below w.heap.size w w' := by
  have hlen := Tl.decDigits_len w0 hw0
  go_enter Tryd.func18, Tryd.ntmps18
  go_wp2
  go_loopw [0, 3] (fun x o wr => ∃ (v : Nat) (l : List UInt8), x = .int .u64 v ∧ o = .string ⟨l.toArray⟩ ∧ v < 18446744073709551616 ∧ Hid (decDigits w0 = decDigits v ++ l) ∧ Below w.heap.size w wr) (fun x _ _ => (intOf x).toNat)
  case atStart => exact ⟨w0, [], rfl, rfl, hw0, (List.append_nil _).symm, Below.refl _ _⟩
  case round =>
    obtain ⟨v, l, rfl, rfl, hv, hd, hb⟩ := hrel
    have hll : l.length ≤ 20 := by have h := congrArg List.length hd.out; rw [List.length_append] at h; omega
    obtain ⟨c, hc⟩ : ∃ c : UInt8, c = UInt8.ofNat (48 + v % 10) := ⟨_, rfl⟩
    have hcn : ((c.toNat : Nat) : Int) = 48 + (v : Int) % 10 := by rw [hc, Tl.dig_toNat _ (by omega)]; omega
    have hcv : ∀ W, W.cell? ⟨wr.heap.size, 0, none⟩ = some (.int .u8 (c.toNat : Int)) → (convert 39 9 (.slice (some ⟨wr.heap.size, 0, none⟩) 1 1)).run Tryd.prog W = .ok (.string ⟨#[c]⟩) W := fun W hW => by
      have h := run_convert_bytes_back (P := Tryd.prog) W 39 9 5 ⟨wr.heap.size, 0, none⟩ 1 [c] (by kernel_rfl) (by kernel_rfl) (by kernel_rfl) (fun j hj => by
        have : j = 0 := by simpa using hj
        subst this
        exact hW)
      exact h
    have hcv' := hcv (wr.alloc (.cells #[.int .u8 (c.toNat : Int)] 5)) (by rw [World.cell?_alloc_new]; rfl)
    rw [hcn] at hcv'
    have HC := Lib.hid (And.intro hc hcn)
    have b1 : (0 : Int) ≤ (v : Int) % 10 := by omega
    have b2 : (v : Int) % 10 < 10 := by omega
    clear hc hcn hcv
    by_cases h10 : v < 10
    · have e1 : (((v : Int) / 10) == 0) = true := by simp; omega
      go_wp2_with fail
      go_ret
      refine ⟨congrArg Ending.returned (congrArg Value.string ?_), al hb _⟩
      show (⟨#[c]⟩ : ByteArray) ++ ⟨l.toArray⟩ = str (decDigits w0)
      rw [hd.out, dec_small v h10, ← HC.out.1]
      exact str_append [c] l
    · have e1 : (((v : Int) / 10) == 0) = false := by simp; omega
      go_wp2_with fail
      go_roundw
      case rel => exact ⟨v / 10, c :: l, by go_num, congrArg Value.string (str_append [c] l), by omega, by show _ = _; rw [HC.out.1]; exact hd.out.trans (dec_big v h10 l), al hb _⟩
      case measure => simp [intOf]; omega

set_option maxHeartbeats 1000000 in
theorem digits_any (n : Int) (h0 : -9223372036854775808 ≤ n) (h1 : n ≤ 9223372036854775807) (w : World) :
    Calls Tryd.prog 17 #[.int .i64 n] w fun e w' => e = .returned (.string (str (itoa n))) ∧ Below w.heap.size w w' := by
  by_cases hn : n < 0
  · have e1 : IntKind.u64.wrap (-IntKind.u64.wrap n) = (n.natAbs : Int) := by rw [IntKind.wrap_u64, IntKind.wrap_u64]; omega
    have hl := Tl.decDigits_len n.natAbs (by omega)
    have ei : itoa n = 45 :: decDigits n.natAbs := by unfold itoa; rw [if_pos hn]
    have HI := Lib.hid ei
    have hsz : (str (decDigits n.natAbs)).size ≤ 20 := hl
    clear ei hl
    generalize hm : n.natAbs = m at *
    have hp := fun W => lplain_any m (by omega) W
    clear hm
    go_enter Tryd.func17, Tryd.ntmps17
    go_wp2_with fail
    refine (hp _).mono ?_
    rintro e w1 ⟨rfl, hb⟩
    have HB := Lib.hid hb
    clear hb hp
    generalize hq : str (decDigits m) = q at *
    have HQ := Lib.hid hq
    clear hq
    go_wp2
    go_ret
    refine ⟨congrArg Ending.returned (congrArg Value.string ?_), HB.out⟩
    rw [HI.out, ← HQ.out]
    exact str_append [45] _
  · have e1 : IntKind.u64.wrap n = (n.toNat : Int) := by rw [IntKind.wrap_u64]; omega
    have ei : itoa n = decDigits n.toNat := by unfold itoa; rw [if_neg hn]
    have HI := Lib.hid ei
    clear ei
    generalize hm : n.toNat = m at *
    have hp := fun W => lplain_any m (by omega) W
    clear hm
    go_enter Tryd.func17, Tryd.ntmps17
    go_wp2_with fail
    refine (hp _).mono ?_
    rintro e w1 ⟨rfl, hb⟩
    have HB := Lib.hid hb
    clear hb hp
    go_wp2
    go_ret
    exact ⟨congrArg (fun l => Ending.returned (Value.string (str l))) HI.out.symm, HB.out⟩
end Go.Proofs.YtjhmeccdbcblbaaDoor
