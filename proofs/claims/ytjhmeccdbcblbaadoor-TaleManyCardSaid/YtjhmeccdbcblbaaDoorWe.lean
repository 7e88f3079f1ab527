/- The walk of tale.read, its main way. -/
import Derived.Test.YtjhmeccdbcblbaaDoorWd
set_option linter.unusedSimpArgs false
set_option linter.unusedVariables false
namespace Go.Proofs.YtjhmeccdbcblbaaDoor
open Go.RowKit Go.Sort
open Go.Lib (itoa decDigits join)

def numsP (p : Nat → Int) : Array Value := #[.int .i64 (p 0), .int .i64 (p 1), .int .i64 (p 2)]
def upd (p : Nat → Int) (k : Nat) (v : Int) : Nat → Int := fun j => if j = k then v else p j
theorem numsP_upd (p : Nat → Int) (k : Nat) (hk : k < 3) (v : Int) : (numsP p).setIfInBounds k (.int .i64 v) = numsP (upd p k v) := by
  obtain rfl | rfl | rfl : k = 0 ∨ k = 1 ∨ k = 2 := by omega
  all_goals rfl

/-- what the loop of read keeps -/
structure RR (bk : Nat) (L : List ByteArray) (kd : Nat) (wd : ByteArray) (n : Nat) (sc : Bool) (w wr : World) (k : Nat) (p : Nat → Int) : Prop where
  below : Below w.heap.size w wr
  h0 : wr.heap[w.heap.size]? = some (.cells #[.string wd, .int .i64 n, .bool sc] 45 (0, 0))
  h1 : wr.heap[w.heap.size + 1]? = some (.cells (stepC zeroS) 24 (0, 0))
  h2 : wr.heap[w.heap.size + 2]? = some (.cells (numsP p) 70 (0, 0))
  rg : ∀ j, -9223372036854775808 ≤ p j ∧ p j ≤ 9223372036854775807
  z : ∀ j, k ≤ j → p j = 0
  m : ∀ x, Match L kd wd n sc x → ∀ j, j < k → p j = (Tl.nums x).getD j 0

theorem RR.later {bk : Nat} {L : List ByteArray} {kd : Nat} {wd : ByteArray} {n : Nat} {sc : Bool} {w wr w1 : World} {k : Nat} {p : Nat → Int} (h : RR bk L kd wd n sc w wr k p) (hb : Below wr.heap.size wr w1) : RR bk L kd wd n sc w w1 k p :=
  ⟨h.below.trans (hb.mono h.below.size), heap_later h.h0 hb, heap_later h.h1 hb, heap_later h.h2 hb, h.rg, h.z, h.m⟩

theorem RR.start (bk : Nat) (L : List ByteArray) (kd : Nat) (wd : ByteArray) (n : Nat) (sc : Bool) (w : World) (nq : Nat) :
    RR bk L kd wd n sc w ((((w.alloc (.cells #[.string wd, .int .i64 n, .bool sc] 45)).alloc (.cells (stepC zeroS) 24)).drewN nq).alloc (.cells (numsP fun _ => 0) 70)) 0 fun _ => 0 := by
  have s1 : ∀ (w : World) (o : Obj), (w.alloc o).heap.size = w.heap.size + 1 := fun w o => by show (w.heap.push o).size = _; simp
  have s2 : ∀ (w : World) (n : Nat), (w.drewN n).heap = w.heap := fun w n => rfl
  refine ⟨al (below_drewN (al (al (Below.refl _ _) _) _) _) _, ?_, ?_, ?_, fun j => by simp, fun _ _ => rfl, fun _ _ j hj => absurd hj (by omega)⟩
  · refine heap_alloc' ?_
    rw [s2]
    exact heap_alloc' (heap_new _ _)
  · refine heap_alloc' ?_
    rw [s2]
    have h := heap_new (w.alloc (.cells #[.string wd, .int .i64 n, .bool sc] 45)) (.cells (stepC zeroS) 24)
    rw [s1] at h; exact h
  · have h := heap_new (((w.alloc (.cells #[.string wd, .int .i64 n, .bool sc] 45)).alloc (.cells (stepC zeroS) 24)).drewN nq) (.cells (numsP fun _ => 0) 70)
    rw [s2, s1, s1] at h; exact h

theorem RR.next {bk : Nat} {L : List ByteArray} {kd : Nat} {wd : ByteArray} {n : Nat} {sc : Bool} {w wr : World} {k : Nat} {p : Nat → Int} (h : RR bk L kd wd n sc w wr k p) (hk : k < 3)
    (v : Int) (hv : -9223372036854775808 ≤ v ∧ v ≤ 9223372036854775807) (hm : ∀ x, Match L kd wd n sc x → v = (Tl.nums x).getD k 0) : RR bk L kd wd n sc w (wr.setCell ⟨w.heap.size + 2, k, none⟩ (.int .i64 v)) (k + 1) (upd p k v) := by
  refine ⟨h.below.setCell (by simp) _, ?_, ?_, ?_, fun j => ?_, fun j hj => ?_, fun x hx j hj => ?_⟩
  · rw [Below.heap_setCell _ _ _ _ (by simp)]; exact h.h0
  · rw [Below.heap_setCell _ _ _ _ (by simp)]; exact h.h1
  · rw [← numsP_upd p k hk v]
    simp only [World.setCell, Array.getElem?_modify, if_true, h.h2, Option.map_some]
    rfl
  · unfold upd; split
    · exact hv
    · exact h.rg j
  · unfold upd; rw [if_neg (by omega)]; exact h.z j (by omega)
  · unfold upd; split
    · rename_i e; subst e; exact hm x hx
    · exact h.m x hx j (by omega)

theorem match_word {L : List ByteArray} {kd : Nat} {wd : ByteArray} {n : Nat} {sc : Bool} {x : Tl.Stp} (h : Match L kd wd n sc x) (k : Nat) (hk : k < n) (hn : n ≤ 3) : L[k + 1]? = some (str (itoa ((Tl.nums x).getD k 0))) := by
  rw [h.2.2.2]
  unfold wordsB partB Tl.nums
  obtain rfl | rfl | rfl : k = 0 ∨ k = 1 ∨ k = 2 := by omega
  all_goals obtain rfl | rfl | rfl : n = 1 ∨ n = 2 ∨ n = 3 := by omega
  all_goals first | rfl | omega
theorem match_last {L : List ByteArray} {kd : Nat} {wd : ByteArray} {n : Nat} {x : Tl.Stp} (h : Match L kd wd n true x) (hn : 1 ≤ n) (hn3 : n ≤ 3) : L[n + 1]? = some (str (decDigits x.v)) := by
  rw [h.2.2.2]
  unfold wordsB partB Tl.nums
  obtain rfl | rfl | rfl : n = 1 ∨ n = 2 ∨ n = 3 := by omega
  all_goals rfl

theorem RR_ok {bk : Nat} {L : List ByteArray} {kd : Nat} {wd : ByteArray} {n : Nat} {sc : Bool} {w wr : World} {k : Nat} {p : Nat → Int} (h : RR bk L kd wd n sc w wr k p) (v : Nat) (hv : v < 18446744073709551616) : Tl.Stp.ok ⟨kd + 1, p 0, p 1, p 2, v⟩ :=
  ⟨h.rg 0, h.rg 1, h.rg 2, hv⟩
theorem RR_fits {bk : Nat} {L : List ByteArray} {kd : Nat} {wd : ByteArray} {n : Nat} {sc : Bool} {w wr : World} {p : Nat → Int} (h : RR bk L kd wd n sc w wr n p) (hn : 1 ≤ n ∧ n ≤ 3) (v : Nat) (hv : (sc || v == 0) = true) : Tl.fitsN ⟨kd + 1, p 0, p 1, p 2, v⟩ n sc = true := by
  unfold Tl.fitsN Tl.nums
  have z1 := h.z 1
  have z2 := h.z 2
  rw [hv, Bool.and_true]
  obtain rfl | rfl | rfl : n = 1 ∨ n = 2 ∨ n = 3 := by omega
  · simp [z1 (by omega), z2 (by omega)]
  · simp [z2 (by omega)]
  · rfl
theorem match_zero {L : List ByteArray} {kd : Nat} {wd : ByteArray} {n : Nat} {x : Tl.Stp} (h : Match L kd wd n false x) : 0 = x.v := by
  have h1 := h.2.2.1
  unfold Tl.fitsN at h1
  simp at h1
  omega
theorem RR_eq {bk : Nat} {L : List ByteArray} {kd : Nat} {wd : ByteArray} {n : Nat} {sc : Bool} {w wr : World} {p : Nat → Int} (h : RR bk L kd wd n sc w wr n p) (hn : 1 ≤ n ∧ n ≤ 3) {x : Tl.Stp} (hx : Match L kd wd n sc x) (v : Nat) (hv : v = x.v) : (⟨kd + 1, p 0, p 1, p 2, v⟩ : Tl.Stp) = x := by
  have m0 := h.m x hx 0
  have m1 := h.m x hx 1
  have m2 := h.m x hx 2
  have z1 := h.z 1
  have z2 := h.z 2
  obtain ⟨-, hk, hf, -⟩ := hx
  obtain ⟨kd', a, b, c, v'⟩ := x
  unfold Tl.fitsN at hf
  unfold Tl.nums at hf m0 m1 m2
  simp only at hk hv
  simp only [Tl.Stp.mk.injEq]
  rw [Bool.and_eq_true] at hf
  have hf1 := hf.1
  obtain rfl | rfl | rfl : n = 1 ∨ n = 2 ∨ n = 3 := by omega
  · simp at hf1
    exact ⟨hk.symm, m0 (by omega), (z1 (by omega)).trans hf1.1.symm, (z2 (by omega)).trans hf1.2.symm, hv⟩
  · simp at hf1
    exact ⟨hk.symm, m0 (by omega), m1 (by omega), (z2 (by omega)).trans hf1.symm, hv⟩
  · exact ⟨hk.symm, m0 (by omega), m1 (by omega), m2 (by omega), hv⟩

set_option maxRecDepth 100000 in
set_option maxHeartbeats 2000000 in
theorem read_main (bk : Nat) (L : List ByteArray) (k0 : Nat) (hk0 : k0 < 12) (wd : ByteArray) (n : Nat) (hn : 1 ≤ n ∧ n ≤ 3) (sc : Bool) (w : World) (hE : Env w) (hL0 : L[0]? = some wd)
    (hcs : ∀ (j : Nat) s, L[j]? = some s → w.cell? ⟨bk, j, none⟩ = some (.string s) ∧ s.size ≤ 4294967296) (hs : L.length = 1 + n + (if sc then 1 else 0)) :
    Calls Tryd.prog 20 #[.slice (some ⟨bk, 0, none⟩) L.length L.length, .int .i64 (k0 + 1), .agg #[.string wd, .int .i64 n, .bool sc]] w (ReadP L k0 wd n sc w) := by
  have hl0 : 0 < L.length := (List.getElem?_eq_some_iff.1 hL0).1
  have hc := (hcs 0 wd hL0).1
  have HCS := Lib.hid hcs
  have HS := Lib.hid hs
  have hlt := lt_of_cell hc
  have b1 : (0 : Int) < (L.length : Int) := by omega
  have hlt1 : ¬ bk = w.heap.size := by omega
  have hlt2 : ¬ bk = w.heap.size + 1 := by omega
  have e1 := str_eq wd
  clear hcs hL0
  cases sc
  · have e2 : (((L.length : Int)) != 1 + (n : Int)) = false := by simp at hs ⊢; omega
    clear hs
    go_enter Tryd.func20, Tryd.ntmps20
    go_wp2
    go_quiet (fail)
    go_wp2
    clear hc e1 e2
    go_loopw [34, 10] (fun i _ wr => ∃ (k : Nat) (p : Nat → Int), k ≤ n ∧ i = .int .i64 k ∧ RR bk L k0 wd n false w wr k p) (fun i _ _ => n - (intOf i).toNat)
    case atStart => exact ⟨0, fun _ => 0, by omega, rfl, RR.start bk L k0 wd n false w nq⟩
    case round =>
      obtain ⟨k, p, hk, rfl, hR⟩ := hrel
      by_cases hkn : k < n
      · obtain ⟨s, hLs⟩ : ∃ s, L[k + 1]? = some s := ⟨L[k + 1]'(by have := HS.out; omega), List.getElem?_eq_getElem _⟩
        obtain ⟨hcell, hsz⟩ := HCS.out _ _ hLs
        have hcell' := (hR.below.cell (p := ⟨bk, k + 1, none⟩) hlt).trans hcell
        have hEr := hE.below hR.below
        have b2 : (k : Int) + 1 < (L.length : Int) := by have := HS.out; omega
        have HR := Lib.hid hR
        have HL := Lib.hid hLs
        clear hR hLs hcell
        go_wp2_with fail
        refine (plain_any s _ hsz).mono ?_
        rintro e w1 ⟨b, rfl, hnum, hb1⟩
        have hR1 := HR.out.later hb1
        have hcell1 := (hR1.below.cell (p := ⟨bk, k + 1, none⟩) hlt).trans (HCS.out _ _ HL.out).1
        have hE1 := hE.below hR1.below
        have HNum := Lib.hid hnum
        clear hb1 hnum hcell' hEr
        cases b with
        | false =>
          have q1 := hR1.h1
          have f0 : w1.cell? ⟨w.heap.size + 1, 0, none⟩ = some (.int .i64 0) := cell_at q1 rfl
          have f1 : w1.cell? ⟨w.heap.size + 1, 1, none⟩ = some (.int .i64 0) := cell_at q1 rfl
          have f2 : w1.cell? ⟨w.heap.size + 1, 2, none⟩ = some (.int .i64 0) := cell_at q1 rfl
          have f3 : w1.cell? ⟨w.heap.size + 1, 3, none⟩ = some (.int .i64 0) := cell_at q1 rfl
          have f4 : w1.cell? ⟨w.heap.size + 1, 4, none⟩ = some (.int .u64 0) := cell_at q1 rfl
          have g0 := fun i => frozen_at (i := i) q1
          have hb := hR1.below
          have Hb := Lib.hid hb
          clear q1 hR1 hcell1 hE1 hb
          go_wp2
          refine bodyPost_ret (v := .tuple #[.agg (stepC zeroS), .bool false]) (by simp [results, Tryd.results20, go_sem, stepC, zeroS, *]) rfl ?_
          have hb := Hb.out
          refine ⟨zeroS, false, rfl, zeroS_ok, (fun h => nomatch h), (fun x hx => ?_), ?_⟩
          · have h := HNum.out (by
              have h2 := match_word hx k hkn hn.2
              have h3 := HL.out.symm.trans h2
              injection h3 with h3
              rw [h3]; exact num_itoa _)
            cases h
          · (repeat (first | (with_reducible exact Below.refl _ _) | (with_reducible assumption) | (with_reducible refine al ?_ _) | (with_reducible refine below_drewN ?_ _) | (with_reducible refine Below.drew ?_) | (with_reducible refine Go.Proofs.YtjhmeccdbcblbaaDoor.sc ?_ ?_ _; (first | exact Nat.le_refl _ | exact Nat.le_add_right _ _ | (simp only [Nat.add_assoc]; exact Nat.le_add_right _ _)))))
        | true =>
          have HR1 := Lib.hid hR1
          clear hR1
          go_wp2_with fail
          refine (Atoi_any s hsz _ hE1).mono ?_
          rintro e w2 ⟨v, ev, rfl, hv, hvm, hb2⟩
          have hR2 := HR1.out.later hb2
          have q2 := hR2.h2
          have f0 : w2.cell? ⟨w.heap.size + 2, 0, none⟩ = some (.int .i64 (p 0)) := cell_at q2 rfl
          have f1 : w2.cell? ⟨w.heap.size + 2, 1, none⟩ = some (.int .i64 (p 1)) := cell_at q2 rfl
          have f2 : w2.cell? ⟨w.heap.size + 2, 2, none⟩ = some (.int .i64 (p 2)) := cell_at q2 rfl
          have fk : w2.cell? ⟨w.heap.size + 2, k, none⟩ = some (.int .i64 (p k)) := by
            refine cell_at q2 ?_
            obtain rfl | rfl | rfl : k = 0 ∨ k = 1 ∨ k = 2 := by omega
            all_goals rfl
          have g0 := fun i => frozen_at (i := i) q2
          have hR3 := hR2.next (by omega) v hv (fun x hx => by
            have h2 := match_word hx k hkn hn.2
            have h3 := HL.out.symm.trans h2
            injection h3 with h3
            have hr := nums_range x hx.1 k
            exact hvm _ hr.1 hr.2 h3)
          have HR3 := Lib.hid hR3
          have b3 : (k : Int) < 3 := by omega
          clear q2 hR2 hR3 hb2 hE1 hcell1 hvm hv
          go_wp2
          go_roundw
          case rel => exact ⟨k + 1, _, by omega, by go_num, HR3.out⟩
          case measure => simp [intOf]; omega
      · have hkn' : k = n := by omega
        subst hkn'
        have q0 := hR.h0
        have q1 := hR.h1
        have q2 := hR.h2
        have f0 : wr.cell? ⟨w.heap.size + 2, 0, none⟩ = some (.int .i64 (p 0)) := cell_at q2 rfl
        have f1 : wr.cell? ⟨w.heap.size + 2, 1, none⟩ = some (.int .i64 (p 1)) := cell_at q2 rfl
        have f2 : wr.cell? ⟨w.heap.size + 2, 2, none⟩ = some (.int .i64 (p 2)) := cell_at q2 rfl
        have a2 : wr.cell? ⟨w.heap.size, 2, none⟩ = some (.bool false) := cell_at q0 rfl
        have HR := Lib.hid hR
        clear q0 q2
        have d0 : wr.cell? ⟨w.heap.size + 1, 0, none⟩ = some (.int .i64 0) := cell_at q1 rfl
        have d1 : wr.cell? ⟨w.heap.size + 1, 1, none⟩ = some (.int .i64 0) := cell_at q1 rfl
        have d2 : wr.cell? ⟨w.heap.size + 1, 2, none⟩ = some (.int .i64 0) := cell_at q1 rfl
        have d3 : wr.cell? ⟨w.heap.size + 1, 3, none⟩ = some (.int .i64 0) := cell_at q1 rfl
        have d4 : wr.cell? ⟨w.heap.size + 1, 4, none⟩ = some (.int .u64 0) := cell_at q1 rfl
        have g0 := fun i => frozen_at (i := i) q1
        have hz : w.heap.size + 1 < wr.heap.size := lt_of_heap q1
        have hz' : ¬ w.heap.size + 1 = wr.heap.size := by omega
        have hz0 : w.heap.size < wr.heap.size := by omega
        clear q1 hR
        go_wp2
        refine bodyPost_ret (v := .tuple #[.agg (stepC ⟨k0 + 1, p 0, p 1, p 2, 0⟩), .bool true]) (by simp [results, Tryd.results20, go_sem, stepC, *]) rfl ?_
        have hb := HR.out.below
        refine ⟨⟨k0 + 1, p 0, p 1, p 2, 0⟩, true, rfl, RR_ok HR.out 0 (by omega), (fun _ => ⟨rfl, RR_fits HR.out hn 0 rfl⟩), (fun x hx => ⟨rfl, RR_eq HR.out hn hx 0 (match_zero hx)⟩), ?_⟩
        (repeat (first | (with_reducible exact Below.refl _ _) | (with_reducible assumption) | (with_reducible refine al ?_ _) | (with_reducible refine below_drewN ?_ _) | (with_reducible refine Below.drew ?_) | (with_reducible refine Go.Proofs.YtjhmeccdbcblbaaDoor.sc ?_ ?_ _; (first | exact Nat.le_refl _ | exact Nat.le_add_right _ _ | (simp only [Nat.add_assoc]; exact Nat.le_add_right _ _)))))
  · have e2 : (((L.length : Int)) != 1 + (n : Int) + 1) = false := by simp at hs ⊢; omega
    clear hs
    go_enter Tryd.func20, Tryd.ntmps20
    go_wp2
    go_quiet (fail)
    go_wp2
    clear hc e1 e2
    go_loopw [34, 10] (fun i _ wr => ∃ (k : Nat) (p : Nat → Int), k ≤ n ∧ i = .int .i64 k ∧ RR bk L k0 wd n true w wr k p) (fun i _ _ => n - (intOf i).toNat)
    case atStart => exact ⟨0, fun _ => 0, by omega, rfl, RR.start bk L k0 wd n true w nq⟩
    case round =>
      obtain ⟨k, p, hk, rfl, hR⟩ := hrel
      by_cases hkn : k < n
      · obtain ⟨s, hLs⟩ : ∃ s, L[k + 1]? = some s := ⟨L[k + 1]'(by have := HS.out; omega), List.getElem?_eq_getElem _⟩
        obtain ⟨hcell, hsz⟩ := HCS.out _ _ hLs
        have hcell' := (hR.below.cell (p := ⟨bk, k + 1, none⟩) hlt).trans hcell
        have hEr := hE.below hR.below
        have b2 : (k : Int) + 1 < (L.length : Int) := by have := HS.out; omega
        have HR := Lib.hid hR
        have HL := Lib.hid hLs
        clear hR hLs hcell
        go_wp2_with fail
        refine (plain_any s _ hsz).mono ?_
        rintro e w1 ⟨b, rfl, hnum, hb1⟩
        have hR1 := HR.out.later hb1
        have hcell1 := (hR1.below.cell (p := ⟨bk, k + 1, none⟩) hlt).trans (HCS.out _ _ HL.out).1
        have hE1 := hE.below hR1.below
        have HNum := Lib.hid hnum
        clear hb1 hnum hcell' hEr
        cases b with
        | false =>
          have q1 := hR1.h1
          have f0 : w1.cell? ⟨w.heap.size + 1, 0, none⟩ = some (.int .i64 0) := cell_at q1 rfl
          have f1 : w1.cell? ⟨w.heap.size + 1, 1, none⟩ = some (.int .i64 0) := cell_at q1 rfl
          have f2 : w1.cell? ⟨w.heap.size + 1, 2, none⟩ = some (.int .i64 0) := cell_at q1 rfl
          have f3 : w1.cell? ⟨w.heap.size + 1, 3, none⟩ = some (.int .i64 0) := cell_at q1 rfl
          have f4 : w1.cell? ⟨w.heap.size + 1, 4, none⟩ = some (.int .u64 0) := cell_at q1 rfl
          have g0 := fun i => frozen_at (i := i) q1
          have hb := hR1.below
          have Hb := Lib.hid hb
          clear q1 hR1 hcell1 hE1 hb
          go_wp2
          refine bodyPost_ret (v := .tuple #[.agg (stepC zeroS), .bool false]) (by simp [results, Tryd.results20, go_sem, stepC, zeroS, *]) rfl ?_
          have hb := Hb.out
          refine ⟨zeroS, false, rfl, zeroS_ok, (fun h => nomatch h), (fun x hx => ?_), ?_⟩
          · have h := HNum.out (by
              have h2 := match_word hx k hkn hn.2
              have h3 := HL.out.symm.trans h2
              injection h3 with h3
              rw [h3]; exact num_itoa _)
            cases h
          · (repeat (first | (with_reducible exact Below.refl _ _) | (with_reducible assumption) | (with_reducible refine al ?_ _) | (with_reducible refine below_drewN ?_ _) | (with_reducible refine Below.drew ?_) | (with_reducible refine Go.Proofs.YtjhmeccdbcblbaaDoor.sc ?_ ?_ _; (first | exact Nat.le_refl _ | exact Nat.le_add_right _ _ | (simp only [Nat.add_assoc]; exact Nat.le_add_right _ _)))))
        | true =>
          have HR1 := Lib.hid hR1
          clear hR1
          go_wp2_with fail
          refine (Atoi_any s hsz _ hE1).mono ?_
          rintro e w2 ⟨v, ev, rfl, hv, hvm, hb2⟩
          have hR2 := HR1.out.later hb2
          have q2 := hR2.h2
          have f0 : w2.cell? ⟨w.heap.size + 2, 0, none⟩ = some (.int .i64 (p 0)) := cell_at q2 rfl
          have f1 : w2.cell? ⟨w.heap.size + 2, 1, none⟩ = some (.int .i64 (p 1)) := cell_at q2 rfl
          have f2 : w2.cell? ⟨w.heap.size + 2, 2, none⟩ = some (.int .i64 (p 2)) := cell_at q2 rfl
          have fk : w2.cell? ⟨w.heap.size + 2, k, none⟩ = some (.int .i64 (p k)) := by
            refine cell_at q2 ?_
            obtain rfl | rfl | rfl : k = 0 ∨ k = 1 ∨ k = 2 := by omega
            all_goals rfl
          have g0 := fun i => frozen_at (i := i) q2
          have hR3 := hR2.next (by omega) v hv (fun x hx => by
            have h2 := match_word hx k hkn hn.2
            have h3 := HL.out.symm.trans h2
            injection h3 with h3
            have hr := nums_range x hx.1 k
            exact hvm _ hr.1 hr.2 h3)
          have HR3 := Lib.hid hR3
          have b3 : (k : Int) < 3 := by omega
          clear q2 hR2 hR3 hb2 hE1 hcell1 hvm hv
          go_wp2
          go_roundw
          case rel => exact ⟨k + 1, _, by omega, by go_num, HR3.out⟩
          case measure => simp [intOf]; omega
      · have hkn' : k = n := by omega
        subst hkn'
        have q0 := hR.h0
        have q1 := hR.h1
        have q2 := hR.h2
        have f0 : wr.cell? ⟨w.heap.size + 2, 0, none⟩ = some (.int .i64 (p 0)) := cell_at q2 rfl
        have f1 : wr.cell? ⟨w.heap.size + 2, 1, none⟩ = some (.int .i64 (p 1)) := cell_at q2 rfl
        have f2 : wr.cell? ⟨w.heap.size + 2, 2, none⟩ = some (.int .i64 (p 2)) := cell_at q2 rfl
        have a2 : wr.cell? ⟨w.heap.size, 2, none⟩ = some (.bool true) := cell_at q0 rfl
        have HR := Lib.hid hR
        clear q0 q2
        obtain ⟨s, hLs⟩ : ∃ s, L[k + 1]? = some s := ⟨L[k + 1]'(by have := HS.out; simp at this; omega), List.getElem?_eq_getElem _⟩
        obtain ⟨hcell, hsz⟩ := HCS.out _ _ hLs
        have hcell' := (hR.below.cell (p := ⟨bk, k + 1, none⟩) hlt).trans hcell
        have hEr := hE.below hR.below
        have b2 : (k : Int) + 1 < (L.length : Int) := by have := HS.out; simp at this; omega
        have b4 : bk < wr.heap.size := by have := hR.below.size; omega
        have hz0 : w.heap.size < wr.heap.size := by have := lt_of_heap hR.h1; omega
        have HL := Lib.hid hLs
        have hcell2 : wr.cell? ⟨bk, 1 + k, none⟩ = some (.string s) := by rw [Nat.add_comm]; exact hcell'
        have b5 : 1 + (k : Int) < (L.length : Int) := by omega
        have hEr1 := hEr.below (al (Below.refl _ _) (.cells (stepC ⟨k0 + 1, p 0, p 1, p 2, 0⟩) 24))
        clear q1 hR hLs hcell
        go_wp2_with fail
        refine (ParseUint_any s hsz _ hEr1).mono ?_
        rintro e w2 ⟨v, ev, rfl, hv, hvm, hb2⟩
        have hbx : Below wr.heap.size wr (wr.alloc (.cells (stepC ⟨k0 + 1, p 0, p 1, p 2, 0⟩) 24)) := al (Below.refl _ _) _
        have hb3 := hbx.trans (hb2.mono hbx.size)
        have hR2 := HR.out.later hb3
        have q3 := heap_later (heap_new wr (.cells (stepC ⟨k0 + 1, p 0, p 1, p 2, 0⟩) 24)) hb2
        have c0 : w2.cell? ⟨wr.heap.size, 0, none⟩ = some (.int .i64 (k0 + 1)) := cell_at q3 rfl
        have c1 : w2.cell? ⟨wr.heap.size, 1, none⟩ = some (.int .i64 (p 0)) := cell_at q3 rfl
        have c2 : w2.cell? ⟨wr.heap.size, 2, none⟩ = some (.int .i64 (p 1)) := cell_at q3 rfl
        have c3 : w2.cell? ⟨wr.heap.size, 3, none⟩ = some (.int .i64 (p 2)) := cell_at q3 rfl
        have c4 : w2.cell? ⟨wr.heap.size, 4, none⟩ = some (.int .u64 0) := cell_at q3 rfl
        have g3 := fun i => frozen_at (i := i) q3
        have q1 := hR2.h1
        have d0 : w2.cell? ⟨w.heap.size + 1, 0, none⟩ = some (.int .i64 0) := cell_at q1 rfl
        have d1 : w2.cell? ⟨w.heap.size + 1, 1, none⟩ = some (.int .i64 0) := cell_at q1 rfl
        have d2 : w2.cell? ⟨w.heap.size + 1, 2, none⟩ = some (.int .i64 0) := cell_at q1 rfl
        have d3 : w2.cell? ⟨w.heap.size + 1, 3, none⟩ = some (.int .i64 0) := cell_at q1 rfl
        have d4 : w2.cell? ⟨w.heap.size + 1, 4, none⟩ = some (.int .u64 0) := cell_at q1 rfl
        have g0 := fun i => frozen_at (i := i) q1
        have hz : w.heap.size + 1 < wr.heap.size := lt_of_heap HR.out.h1
        have hz2 : w.heap.size ≤ wr.heap.size := by omega
        have HV := Lib.hid hvm
        have HB := Lib.hid hR2.below
        clear q1 q3 hR2 hb3 hbx hb2 hvm hEr1 hEr hcell' hcell2
        go_wp2
        refine bodyPost_ret (v := .tuple #[.agg (stepC ⟨k0 + 1, p 0, p 1, p 2, v⟩), .bool true]) (by simp [results, Tryd.results20, go_sem, stepC, *]) rfl ?_
        have hb := HB.out
        refine ⟨⟨k0 + 1, p 0, p 1, p 2, v⟩, true, rfl, RR_ok HR.out v hv, (fun _ => ⟨rfl, RR_fits HR.out hn v (by simp)⟩), (fun x hx => ⟨rfl, RR_eq HR.out hn hx v (by
          have h2 := match_last hx hn.1 hn.2
          have h3 := HL.out.symm.trans h2
          injection h3 with h3
          exact HV.out _ hx.1.2.2.2 h3)⟩), ?_⟩
        (repeat (first | (with_reducible exact Below.refl _ _) | (with_reducible assumption) | (with_reducible refine al ?_ _) | (with_reducible refine below_drewN ?_ _) | (with_reducible refine Below.drew ?_) | (with_reducible refine Go.Proofs.YtjhmeccdbcblbaaDoor.sc ?_ ?_ _; (first | exact Nat.le_refl _ | exact hz2 | exact Nat.le_add_right _ _ | (simp only [Nat.add_assoc]; exact Nat.le_add_right _ _)))))
end Go.Proofs.YtjhmeccdbcblbaaDoor
