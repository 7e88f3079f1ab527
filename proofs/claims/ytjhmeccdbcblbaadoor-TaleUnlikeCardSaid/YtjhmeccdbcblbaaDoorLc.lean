/- The walk of the law TaleUnlike. -/
import Derived.Test.YtjhmeccdbcblbaaDoorWl
import Derived.Test.YtjhmeccdbcblbaaDoorPb
import Derived.Laws.IdiomStrings
import Derived.Lib.ConvBytes
set_option linter.unusedSimpArgs false
set_option linter.unusedVariables false
namespace Go.Proofs.YtjhmeccdbcblbaaDoor
open Go.RowKit Go.Sort
open Go.Lib (itoa decDigits join)
attribute [local go_sem] Oper.semAt_some

/-- '[]byte(l)' -/
theorem conv_in (l : ByteArray) (W : World) : ∃ cap cs W1, (convert 9 39 (.string l)).run Tryd.prog W = .ok (.slice (some ⟨W.heap.size, 0, none⟩) l.size cap) W1 ∧ Below W.heap.size W W1 ∧
    W1.heap[W.heap.size]? = some (.cells cs 5 (cs.size, cs.size + 1)) ∧ l.size ≤ cs.size ∧ ∀ j, j < l.size → cs[j]? = some (.int .u8 (l.data.toList.getD j 0).toNat) := by
  refine ⟨_, _, _, Lib.run_convert_string_bytes (P := Tryd.prog) W 9 39 5 l (u := .string) Tryd.underlying9 Tryd.underlying39 Tryd.underlying5, below_bytes _ _ _, Lib.bytesWorld_at_new _ _ _, ?_, ?_⟩
  · simp [Lib.bytesCells]
  · intro j hj
    have h := Lib.bytesWorld_cell W 5 l j hj
    unfold World.cell? at h
    rw [Lib.bytesWorld_at_new] at h
    simpa using h

def setB (l : ByteArray) (i : Nat) (c : Nat) : ByteArray := ⟨(l.data.toList.set i (UInt8.ofNat c)).toArray⟩
theorem setB_size (l : ByteArray) (i c : Nat) : (setB l i c).size = l.size := by
  show ((l.data.toList.set i (UInt8.ofNat c)).toArray).size = _
  rw [List.size_toArray, List.length_set]; exact (Lib.size_eq l).symm
theorem conv_out (l : ByteArray) (i c b cap : Nat) (hc : c < 256) (cs : Array Value) (W : World) (hi : i < l.size) (hh : W.heap[b]? = some (.cells (cs.set! i (.int .u8 c)) 5 (cs.size, cs.size + 1))) (hz : l.size ≤ cs.size)
    (hcs : ∀ j, j < l.size → cs[j]? = some (.int .u8 (l.data.toList.getD j 0).toNat)) :
    (convert 39 9 (.slice (some ⟨b, 0, none⟩) l.size cap)).run Tryd.prog W = .ok (.string (setB l i c)) W := by
  have hl : (l.data.toList.set i (UInt8.ofNat c)).length = l.size := by rw [List.length_set]; exact (Lib.size_eq l).symm
  have h := run_convert_bytes_back (P := Tryd.prog) W 39 9 5 ⟨b, 0, none⟩ cap (l.data.toList.set i (UInt8.ofNat c)) Tryd.underlying39 Tryd.underlying5 Tryd.underlying9 ?_
  · rw [hl] at h; exact h
  · intro j hj
    rw [Lib.add_plain, Nat.zero_add]
    unfold World.cell?
    rw [hh]
    rw [hl] at hj
    have h2 := hcs j hj
    have hlj : j < l.data.toList.length := by rw [← Lib.size_eq]; exact hj
    by_cases e : i = j
    · subst e
      have h3 : (l.data.toList.set i (UInt8.ofNat c))[i]'(by rw [hl]; exact hj) = UInt8.ofNat c := List.getElem_set_self _
      rw [h3, UInt8.toNat_ofNat']
      simp [Array.set!, Array.getElem?_setIfInBounds]
      omega
    · have h3 : (l.data.toList.set i (UInt8.ofNat c))[j]'(by rw [hl]; exact hj) = l.data.toList[j] := List.getElem_set_ne e _
      rw [h3]
      rw [List.getD, List.getElem?_eq_getElem hlj] at h2
      simp [Array.set!, Array.getElem?_setIfInBounds, e]
      simpa using h2

set_option maxRecDepth 100000 in
set_option maxHeartbeats 1000000 in
theorem TaleUnlike_any (x : Tl.Stp) (hx : x.ok) (at' c : Nat) (hat : at' < 256) (hc : c < 256) (w : World) (hE : Env w) : Calls Tryd.prog 7 #[.agg (stepC x), .int .u8 at', .int .u8 c] w (TrueQ w) := by
  unfold stepC
  go_enter Tryd.func7, Tryd.ntmps7
  go_wp2_with fail
  have hA := al (Below.refl _ w) (.cells (stepC x) 24)
  have q0 := heap_new w (.cells (stepC x) 24)
  have hE1 := hE.below hA
  refine (Line_any x hx _ hE1).mono ?_
  rintro e w1 ⟨h1, h2, hb1⟩
  replace q0 := heap_later q0 hb1
  have hE2 := hE1.below hb1
  have HA := Lib.hid (hA.trans (hb1.mono hA.size))
  clear hE1 hA
  cases hk : Tl.okB x with
  | false =>
    obtain rfl := h2 hk
    clear h1 h2 hb1 q0
    go_wp2_with fail
    refine (awake_any _ hE2).mono ?_
    rintro e w3 ⟨rfl, hb3⟩
    have HC := Lib.hid hb3
    clear hb3
    go_wp2
    go_ret
    exact ⟨rfl, HA.out.trans (HC.out.mono HA.out.size)⟩
  | true =>
    obtain rfl := h1 hk
    have hI : Tl.Is x (str (Tl.lineAt x (x.kind - 1).toNat)).data.toList := ⟨hx, hk, rfl⟩
    have hlen : (str (Tl.lineAt x (x.kind - 1).toNat)).size ≤ 110 := Tl.line_len x hx _
    have hne : 0 < (str (Tl.lineAt x (x.kind - 1).toNat)).size := List.length_pos_iff.2 (Tl.line_ne x _)
    generalize str (Tl.lineAt x (x.kind - 1).toNat) = l at *
    have hne0 : l ≠ ⟨#[]⟩ := fun h => by rw [h] at hne; exact absurd hne (by decide)
    have e0 : l.toList.isEmpty = false := by
      rw [Lib.toList_data]
      cases hl : l.data.toList with
      | nil => rw [Lib.size_eq, hl] at hne; exact absurd hne (by decide)
      | cons a r => rfl
    obtain ⟨cap, cs, W1, hconv, hbc, hrow, hz, hcs⟩ := conv_in l w1
    have hi : at' % l.size < l.size := Nat.mod_lt _ hne
    have c0 : W1.cell? ⟨w1.heap.size, at' % l.size, none⟩ = some (.int .u8 (l.data.toList.getD (at' % l.size) 0).toNat) := by
      unfold World.cell?
      rw [hrow]
      exact hcs _ hi
    have f0 : W1.frozen? ⟨w1.heap.size, at' % l.size, none⟩ = false := by
      unfold World.frozen?
      rw [hrow]
      simp
      omega
    have hn : (l.data.toList.getD (at' % l.size) 0).toNat < 256 := UInt8.toNat_lt _
    have HL := Lib.hid (show l.data.toList.getD (at' % l.size) 0 = UInt8.ofNat (l.data.toList.getD (at' % l.size) 0).toNat from (UInt8.ofNat_toNat).symm)
    generalize hm : (l.data.toList.getD (at' % l.size) 0).toNat = m at c0 HL hn
    have HCS := Lib.hid (And.intro hrow (And.intro hz hcs))
    have HBC := Lib.hid hbc
    clear h1 h2 hb1 hrow hz hcs hbc hm
    by_cases hmc : m = c
    · have e1 : ((m : Int) == (c : Int)) = true := by simp [hmc]
      have hE3 := hE2.below HBC.out
      go_wp2_with fail
      refine (awake_any _ hE3).mono ?_
      rintro e w3 ⟨rfl, hb3⟩
      have HC := Lib.hid hb3
      clear hb3
      go_wp2
      go_ret
      exact ⟨rfl, HA.out.trans ((HBC.out.trans (HC.out.mono HBC.out.size)).mono HA.out.size)⟩
    · have e1 : ((m : Int) == (c : Int)) = false := by simp; omega
      have hrow2 : (W1.setCell ⟨w1.heap.size, at' % l.size, none⟩ (.int .u8 c)).heap[w1.heap.size]? = some (.cells (cs.set! (at' % l.size) (.int .u8 c)) 5 (cs.size, cs.size + 1)) := by
        simp only [World.setCell, Array.getElem?_modify, if_true, HCS.out.1, Option.map_some]
        first | rfl | trace_state
      have hback := conv_out l (at' % l.size) c w1.heap.size cap hc cs _ hi hrow2 HCS.out.2.1 HCS.out.2.2
      have hb2 : Below w1.heap.size w1 (W1.setCell ⟨w1.heap.size, at' % l.size, none⟩ (.int .u8 c)) := HBC.out.setCell (Nat.le_refl _) _
      have q1 : (W1.setCell ⟨w1.heap.size, at' % l.size, none⟩ (.int .u8 c)).heap[w.heap.size]? = some (.cells (stepC x) 24) := heap_later q0 hb2
      generalize hW2 : W1.setCell ⟨w1.heap.size, at' % l.size, none⟩ (.int .u8 c) = W2 at hback hb2 q1
      clear hrow2
      go_wp2_with fail
      refine (Step_any (setB l (at' % l.size) c) (by rw [setB_size]; omega) _ (hE2.below hb2)).mono ?_
      rintro e w3 ⟨h1, h2, hb3⟩
      have HB2 := Lib.hid hb2
      have HB3 := Lib.hid hb3
      have hE3 := (hE2.below hb2).below hb3
      replace q1 := heap_later q1 hb3
      clear hback hW2 hb2 c0 f0
      have hsub : ∃ y : Tl.Stp, ∃ n : Int, (n = 0 ∨ n = 9) ∧ e = .returned (.tuple #[.agg (stepC y), .int .i64 n]) ∧ (n = 0 → ¬ (y.kind = x.kind ∧ y.a = x.a ∧ y.b = x.b ∧ y.c = x.c ∧ y.v = x.v)) := by
        by_cases hex : ∃ y, Tl.Is y (setB l (at' % l.size) c).data.toList
        · obtain ⟨y, hy⟩ := hex
          refine ⟨y, 0, .inl rfl, h1 y hy, fun _ he => ?_⟩
          have hyx : y = x := by
            obtain ⟨a1, a2, a3, a4, a5⟩ := y
            obtain ⟨b1, b2, b3, b4, b5⟩ := x
            simp only at he
            simp only [Tl.Stp.mk.injEq]
            exact he
          subst hyx
          have h3 : (setB l (at' % l.size) c).data.toList = l.data.toList := hy.2.2.symm.trans hI.2.2
          have h4 : (setB l (at' % l.size) c).data.toList = l.data.toList.set (at' % l.size) (UInt8.ofNat c) := rfl
          have hil : at' % l.size < l.data.toList.length := by rw [← Lib.size_eq]; exact hi
          have h5 : (l.data.toList.set (at' % l.size) (UInt8.ofNat c)).getD (at' % l.size) 0 = UInt8.ofNat c := by
            rw [List.getD, List.getElem?_set_self hil]; rfl
          rw [← h4, h3, HL.out] at h5
          have h6 := congrArg UInt8.toNat h5
          rw [UInt8.toNat_ofNat', UInt8.toNat_ofNat'] at h6
          omega
        · exact ⟨zeroS, 9, .inr rfl, h2 hex, fun h => by omega⟩
      obtain ⟨y, n, hn09, rfl, hyx⟩ := hsub
      clear h1 h2 hb3
      have q2 := heap_new w3 (.cells (stepC y) 24)
      have hA2 := al (Below.refl _ w3) (.cells (stepC y) 24)
      unfold stepC
      go_wp2_with fail
      refine (awake_any _ (hE3.below hA2)).mono ?_
      rintro e w4 ⟨rfl, hb4⟩
      replace q2 := heap_later q2 hb4
      replace q1 := heap_later (heap_later q1 hA2) hb4
      have c0 : w4.cell? ⟨w.heap.size, 0, none⟩ = some (.int .i64 x.kind) := cell_at q1 rfl
      have c1 : w4.cell? ⟨w.heap.size, 1, none⟩ = some (.int .i64 x.a) := cell_at q1 rfl
      have c2 : w4.cell? ⟨w.heap.size, 2, none⟩ = some (.int .i64 x.b) := cell_at q1 rfl
      have c3 : w4.cell? ⟨w.heap.size, 3, none⟩ = some (.int .i64 x.c) := cell_at q1 rfl
      have c4 : w4.cell? ⟨w.heap.size, 4, none⟩ = some (.int .u64 x.v) := cell_at q1 rfl
      have d0 : w4.cell? ⟨w3.heap.size, 0, none⟩ = some (.int .i64 y.kind) := cell_at q2 rfl
      have d1 : w4.cell? ⟨w3.heap.size, 1, none⟩ = some (.int .i64 y.a) := cell_at q2 rfl
      have d2 : w4.cell? ⟨w3.heap.size, 2, none⟩ = some (.int .i64 y.b) := cell_at q2 rfl
      have d3 : w4.cell? ⟨w3.heap.size, 3, none⟩ = some (.int .i64 y.c) := cell_at q2 rfl
      have d4 : w4.cell? ⟨w3.heap.size, 4, none⟩ = some (.int .u64 y.v) := cell_at q2 rfl
      have HA2 := Lib.hid hA2
      have HB4 := Lib.hid hb4
      clear hA2 hb4
      have hfin : Below w.heap.size w w4 := HA.out.trans (Below.mono (HB2.out.trans (Below.mono (HB3.out.trans (Below.mono (HA2.out.trans (HB4.out.mono HA2.out.size)) HB3.out.size)) HB2.out.size)) HA.out.size)
      have HF := Lib.hid hfin
      clear hfin
      rcases hn09 with rfl | rfl
      · replace hyx := Lib.hid (hyx rfl)
        go_wp2
        all_goals first
          | (exact (hyx.out ⟨by omega, by omega, by omega, by omega, by omega⟩).elim)
          | (go_ret
             exact ⟨rfl, HF.out⟩)
      · clear hyx
        go_wp2
        go_ret
        exact ⟨rfl, HF.out⟩
end Go.Proofs.YtjhmeccdbcblbaaDoor
