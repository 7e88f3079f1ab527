/- The walks of the small functions of package tale: a number as a word, digits, the forms, whether an entry fits a form. -/
import Derived.Test.YtjhmeccdbcblbaaDoorRows
import Derived.Test.YtjhmeccdbcblbaaDoorPure
import Derived.Test.YtjhmeccdbcblbaaDoorShelf
import Derived.WalkKit
import Derived.WalkSpells
import Derived.WalkLawsBesides
import Derived.Deep.QuietTactic
import Derived.BigQuiet
import Derived.Handy
import Derived.Lib.Hide
import Derived.Lib.AppendIntMem
set_option linter.unusedSimpArgs false
set_option linter.unusedVariables false
namespace Go.Proofs.YtjhmeccdbcblbaaDoor
open Go.RowKit Go.Sort Go.Lib

/-- what is asked of the package-level variables of the library -/
structure Env (w : World) : Prop where
  size : 8 ≤ w.heap.size
  maxl : ∃ m, w.cell? ⟨0, 0, none⟩ = some (.int .i64 m)
  tab : Lib.TabIs Tryd.prog w "internal/strconv.uint64pow10" .u64 Lib.pow10Tab
  syn : ∃ tp p, w.cell? ⟨2, 0, none⟩ = some (.iface tp p)
  rng : ∃ tp p, w.cell? ⟨3, 0, none⟩ = some (.iface tp p)

theorem pow10_named : ∃ g, Tryd.prog.globalNamed "internal/strconv.uint64pow10" = some g ∧ g < 8 := ⟨_, rfl, by decide⟩

theorem Env.below {w w' : World} (h : Env w) (hb : Below w.heap.size w w') : Env w' := by
  have hs := h.size
  obtain ⟨g, hg, hl⟩ := pow10_named
  exact ⟨Nat.le_trans hs hb.size, by rw [hb.cell (by simp; omega)]; exact h.maxl, var?_below hb hg (by omega) h.tab,
    by rw [hb.cell (by simp; omega)]; exact h.syn, by rw [hb.cell (by simp; omega)]; exact h.rng⟩

theorem al {a w : World} (h : Below a.heap.size a w) (o : Obj) : Below a.heap.size a (w.alloc o) := h.alloc h.size o

theorem below_grow {w : World} (k : Nat) (os : Array Obj) : Below w.heap.size w (grow (w.drewN k) os) := by
  refine ⟨rfl, rfl, rfl, ?_, fun i hi => ?_⟩
  · simp [grow, World.drewN]
  · simp [grow, World.drewN, Array.getElem?_append, hi]

set_option maxHeartbeats 1000000 in
set_option maxRecDepth 100000 in
theorem iFormatUint_any (u : Nat) (hu64 : u < 18446744073709551616) (w : World) (hE : Lib.TabIs Tryd.prog w "internal/strconv.uint64pow10" .u64 Lib.pow10Tab) :
    Calls Tryd.prog 38 #[.int .u64 u, .int .i64 10] w fun e w' => e = .returned (.string ⟨(decDigits u).toArray⟩) ∧ Below w.heap.size w w' := by
  by_cases hs : u < 100
  · have hi : IntKind.i64.wrap (u : Int) = u := by rw [IntKind.wrap_i64]; omega
    go_enter Tryd.func38, Tryd.ntmps38
    go_wp2_with (go_at_call 51; refine (Tryd.internal_strconv_small u hs _).mono ?_; rintro e w' ⟨rfl, rfl⟩)
    go_ret
    exact ⟨rfl, Below.refl _ _⟩
  · have hu1 : 1 ≤ u := by omega
    have hnd20 : Lib.nDigits u ≤ 20 := by have := Lib.numDigits_eq u hu1 hu64; split at this <;> omega
    have hal : Tryd.prog.arrayLen 84 = 24 := by kernel_rfl
    have hsl1 : ∀ W, (Instr.sliceAt 84 (.pointer (some ⟨w.heap.size, 0, none⟩)) none (some (.int .i64 ((Lib.nDigits u : Int)))) none).run Tryd.prog W = .ok (.slice (some ⟨w.heap.size, 0, none⟩) (Lib.nDigits u) 24) W := fun W => by
      rw [run_sliceAt_array_h W 84 ⟨w.heap.size, 0, none⟩ (by kernel_rfl) .i64 (Lib.nDigits u : Int) (by omega) (by rw [hal]; omega)]
      go_simp
    have hH0 := Lib.holds_zero0 w 84 (Lib.nDigits u) (by omega)
    have hfmt := Tryd.internal_strconv_formatBase10 w.heap.size 0 24 u (Array.replicate (Lib.nDigits u) 0) (w.alloc (.cells Lib.zeros24 84)) hH0 (by rw [Array.size_replicate]; exact Lib.lt_pow_nDigits u) hu64 (by rw [Array.size_replicate]; omega)
    rw [Array.size_replicate] at hfmt
    have HH0 := Lib.hid hH0
    clear hH0 hal
    go_enter Tryd.func38, Tryd.ntmps38
    go_wp2_with (first
      | (go_at_call 52; refine (Tryd.internal_strconv_numDigits u hu1 hu64 _ (Lib.tabIs_alloc hE _)).mono ?_; rintro e w' ⟨rfl, rfl⟩))
    go_at_call 53
    refine hfmt.mono ?_
    rintro e w' ⟨rfl, k, v', dk, rfl, hF⟩
    have hcv : (convert 39 9 (.slice (some ⟨w.heap.size, 0, none⟩) (Lib.nDigits u) 24)).run Tryd.prog ((putRow (fun (b : UInt8) => Value.int .u8 (b.toNat : Int)) (w.alloc (.cells Lib.zeros24 84)) w.heap.size 0 dk).drewN k) = .ok (.string ⟨(Lib.decDigits u).toArray⟩) ((putRow (fun (b : UInt8) => Value.int .u8 (b.toNat : Int)) (w.alloc (.cells Lib.zeros24 84)) w.heap.size 0 dk).drewN k) := by
      have h := run_convert_bytes_back (P := Tryd.prog) ((putRow (fun (b : UInt8) => Value.int .u8 (b.toNat : Int)) (w.alloc (.cells Lib.zeros24 84)) w.heap.size 0 dk).drewN k) 39 9 5 ⟨w.heap.size, 0, none⟩ 24 (Lib.decDigits u) (by kernel_rfl) (by kernel_rfl) (by kernel_rfl) (fun j hj => by
        rw [Lib.row_is_numeral hF j hj, Lib.add_plain, World.cell?_drewN]
        exact cell?_putRow (fun (b : UInt8) => Value.int .u8 (b.toNat : Int)) _ w.heap.size 0 _ dk HH0.out (by rw [hF.size, Array.size_replicate]) j (by rw [hF.size]; rw [Lib.decDigits_length] at hj; exact hj))
      rw [Lib.decDigits_length] at h
      exact h
    go_wp2
    go_ret
    refine ⟨rfl, ?_⟩
    obtain ⟨os, eo⟩ := Lib.fin_at w (.cells Lib.zeros24 84) dk k 0
    rw [eo]
    exact below_grow _ _

set_option maxHeartbeats 400000 in
theorem digit_any (c : Int) (w : World) :
    Calls Tryd.prog 42 #[.int .i32 c] w fun e w' => e = .returned (.bool (decide (48 ≤ c) && decide (c ≤ 57))) ∧ w = w' := by
  by_cases h1 : 48 ≤ c
  · by_cases h2 : c ≤ 57
    · go_enter Tryd.func42, Tryd.ntmps42
      go_wp2
      go_ret
      simp [h1, h2]
    · go_enter Tryd.func42, Tryd.ntmps42
      go_wp2
      go_ret
      simp [h1, h2]
  · go_enter Tryd.func42, Tryd.ntmps42
    go_wp2
    go_ret
    have h1' : decide (48 ≤ c) = false := by simp; omega
    simp [h1']

theorem vz (v : Nat) : (((v : Nat) : Int) == 0) = (v == 0) := by rw [Bool.eq_iff_iff]; simp

/-- some answer -/
def SomeB (w : World) (e : Ending) (w' : World) : Prop := ∃ b : Bool, e = .returned (.bool b) ∧ Below w.heap.size w w'

theorem width_pos (s : ByteArray) (pos : Nat) (h : pos < s.size) : 1 ≤ (Utf8.decode s pos).2 := by
  by_cases ha : (s[pos]'h).toNat < 128
  · rw [decode_ascii s pos h ha]
    exact Nat.le_refl _
  · exact (decode_high s pos h (by omega)).2

set_option maxHeartbeats 1000000 in
theorem plain_some (s : ByteArray) (w : World) (hs : s.size ≤ 4294967296) : Calls Tryd.prog 29 #[.string s] w (SomeB w) := by
  go_enter Tryd.func29, Tryd.ntmps29
  go_wp2
  go_loopw [3] (fun n w' => ∃ pos d : Nat, w' = w.iter s pos ∧ n = .int .i64 d ∧ d ≤ pos) (fun _ w' => s.size - w'.iterPos w.heap.size)
  case atStart => exact ⟨0, 0, rfl, rfl, Nat.le_refl _⟩
  case round =>
    obtain ⟨pos, d, rfl, rfl, hd⟩ := hrel
    by_cases hp : pos < s.size
    · have hwd := width_pos s pos hp
      obtain ⟨c, hc⟩ : ∃ c, c = (Utf8.decode s pos).1 := ⟨_, rfl⟩
      obtain ⟨wd, hwd2⟩ : ∃ c, c = (Utf8.decode s pos).2 := ⟨_, rfl⟩
      rw [← hwd2] at hwd
      have hnx : ∀ ty, (Instr.next (.pointer (some ⟨w.heap.size, 0, none⟩)) true ty).run Tryd.prog (w.iter s pos) = .ok (.tuple #[.bool true, .int .i64 pos, .int .i32 c]) (w.iter s (pos + wd)) := fun ty => by
        rw [run_next_any w s pos ty hp, ← hc, ← hwd2]
      clear hc hwd2
      go_wp2_with (go_at_call 42; refine (digit_any _ _).mono ?_; rintro e w' ⟨rfl, rfl⟩)
      all_goals first
        | (go_ret; exact ⟨_, rfl, al (Below.refl _ _) _⟩)
        | (go_roundw; (case rel => first | exact ⟨pos + wd, d, rfl, rfl, by omega⟩ | exact ⟨pos + wd, d + 1, rfl, by go_num, by omega⟩); (case measure => simp; omega))
    · have hnx : ∀ ty, (Instr.next (.pointer (some ⟨w.heap.size, 0, none⟩)) true ty).run Tryd.prog (w.iter s pos) = _ := fun ty => run_next_end w s pos ty hp
      go_wp2
      go_ret
      exact ⟨_, rfl, al (Below.refl _ _) _⟩

def Num (s : ByteArray) : Prop := (∀ (j : Nat) (h : j < s.size), (48 ≤ s[j].toNat ∧ s[j].toNat ≤ 57) ∨ (s[j].toNat = 45 ∧ j = 0)) ∧ ∃ (j : Nat) (h : j < s.size), 48 ≤ s[j].toNat
/-- what has been counted behind pos signs -/
def Cnt (s : ByteArray) (pos d : Nat) : Prop := ∀ (j : Nat) (h : j < s.size), j < pos → 48 ≤ s[j].toNat → 1 ≤ d

set_option maxHeartbeats 1000000 in
theorem plain_num (s : ByteArray) (w : World) (hs : s.size ≤ 4294967296) (hn : Num s) :
    Calls Tryd.prog 29 #[.string s] w fun e w' => e = .returned (.bool true) ∧ Below w.heap.size w w' := by
  have HN := Lib.hid hn
  clear hn
  go_enter Tryd.func29, Tryd.ntmps29
  go_wp2
  go_loopw [3] (fun n w' => ∃ pos d : Nat, w' = w.iter s pos ∧ n = .int .i64 d ∧ d ≤ pos ∧ Cnt s pos d) (fun _ w' => s.size - w'.iterPos w.heap.size)
  case atStart => exact ⟨0, 0, rfl, rfl, Nat.le_refl _, fun j _ h => absurd h (by omega)⟩
  case round =>
    obtain ⟨pos, d, rfl, rfl, hd, hcnt⟩ := hrel
    have HC := Lib.hid hcnt
    clear hcnt
    by_cases hp : pos < s.size
    · have hcase := HN.out.1 pos hp
      have hlt : (s[pos]'hp).toNat < 128 := by omega
      have hnx0 := fun ty => run_next_ascii (P := Tryd.prog) w s pos ty hp hlt
      obtain ⟨c, hc⟩ : ∃ c, c = (s[pos]'hp).toNat := ⟨_, rfl⟩
      have hnx : ∀ ty, (Instr.next (.pointer (some ⟨w.heap.size, 0, none⟩)) true ty).run Tryd.prog (w.iter s pos) = .ok (.tuple #[.bool true, .int .i64 pos, .int .i32 c]) (w.iter s (pos + 1)) := fun ty => by
        rw [hnx0 ty, ← hc]
      have HCc := Lib.hid hc
      clear hnx0 hlt
      rw [← hc] at hcase
      clear hc
      rcases hcase with ⟨h1, h2⟩ | ⟨h1, h2⟩
      · have e1 : ((c : Int) == 45) = false := by simp; omega
        have e2 : decide ((48 : Int) ≤ (c : Int)) = true := by simp; omega
        have e3 : decide ((c : Int) ≤ 57) = true := by simp; omega
        go_wp2_with (go_at_call 42; refine (digit_any _ _).mono ?_; rintro e w' ⟨rfl, rfl⟩)
        go_roundw
        case rel => exact ⟨pos + 1, d + 1, rfl, by go_num, by omega, fun _ _ _ _ => by omega⟩
        case measure => simp; omega
      · subst h2
        have e1 : ((c : Int) == 45) = true := by simp; omega
        go_wp2_with (go_at_call 42; refine (digit_any _ _).mono ?_; rintro e w' ⟨rfl, rfl⟩)
        go_roundw
        case rel =>
          refine ⟨0 + 1, d, rfl, rfl, by omega, fun j hj h4 h5 => ?_⟩
          have hj0 : j = 0 := by omega
          subst hj0
          have := HCc.out
          omega
        case measure => simp; omega
    · have hnx : ∀ ty, (Instr.next (.pointer (some ⟨w.heap.size, 0, none⟩)) true ty).run Tryd.prog (w.iter s pos) = _ := fun ty => run_next_end w s pos ty hp
      have h1 : 1 ≤ d := by
        obtain ⟨j, hj, h5⟩ := HN.out.2
        exact HC.out j hj (by omega) h5
      have e1 : decide (0 < d) = true := by simp; omega
      go_wp2
      go_ret
      exact ⟨rfl, al (Below.refl _ _) _⟩

/-- the forms, as cells -/
def formC : List Value := [
  .string ⟨#[109, 97, 107, 101]⟩, .int .i64 3, .bool false, .string ⟨#[103, 101, 116]⟩, .int .i64 3, .bool false, .string ⟨#[115, 101, 116]⟩, .int .i64 3, .bool false,
  .string ⟨#[114, 101, 97, 100]⟩, .int .i64 2, .bool false, .string ⟨#[119, 114, 105, 116, 101]⟩, .int .i64 2, .bool true, .string ⟨#[99, 108, 101, 97, 114]⟩, .int .i64 1, .bool false,
  .string ⟨#[99, 111, 112, 121]⟩, .int .i64 2, .bool false, .string ⟨#[115, 97, 109, 101]⟩, .int .i64 2, .bool false, .string ⟨#[110, 105, 108]⟩, .int .i64 1, .bool false,
  .string ⟨#[115, 104, 97, 112, 101]⟩, .int .i64 1, .bool false, .string ⟨#[105, 100, 108, 101]⟩, .int .i64 2, .bool false, .string ⟨#[102, 111, 114, 99, 101]⟩, .int .i64 1, .bool false]
def formO : Obj := .cells formC.toArray 45

set_option maxHeartbeats 400000 in
theorem forms_any (w : World) :
    Calls Tryd.prog 13 #[] w fun e w' => e = .returned (.slice (some ⟨w.heap.size, 0, none⟩) 12 12) ∧ w' = w.alloc formO := by
  go_enter Tryd.func13, Tryd.ntmps13
  go_wp2
  go_ret
  exact ⟨rfl, rfl⟩

set_option maxHeartbeats 1000000 in
theorem fits_any (kd a b c : Int) (v : Nat) (wd : ByteArray) (n : Nat) (hn : 1 ≤ n ∧ n ≤ 3) (sc : Bool) (w : World) :
    Calls Tryd.prog 14 #[.agg #[.int .i64 kd, .int .i64 a, .int .i64 b, .int .i64 c, .int .u64 v], .agg #[.string wd, .int .i64 n, .bool sc]] w
      fun e w' => e = .returned (.bool (Tl.fitsN ⟨kd, a, b, c, v⟩ n sc)) ∧ Below w.heap.size w w' := by
  obtain rfl | rfl | rfl : n = 1 ∨ n = 2 ∨ n = 3 := by omega
  all_goals
    go_enter Tryd.func14, Tryd.ntmps14
    go_wp2
    go_rounds 3
    all_goals
      go_ret
      refine ⟨?_, al (al (al (Below.refl _ _) _) _) _⟩
      simp_all [Tl.fitsN, Tl.nums, vz]
end Go.Proofs.YtjhmeccdbcblbaaDoor
