/- The walk of the law's own 'line', where the entry fits. -/
import Derived.Test.YtjhmeccdbcblbaaDoorWh
set_option linter.unusedSimpArgs false
set_option linter.unusedVariables false
namespace Go.Proofs.YtjhmeccdbcblbaaDoor
open Go.RowKit Go.Sort
open Go.Lib (itoa decDigits join)

theorem digits_g (n : Int) (h0 : -9223372036854775808 ≤ n) (h1 : n ≤ 9223372036854775807) :
    ∃ q, q = str (itoa n) ∧ q.size ≤ 21 ∧ ∀ w, Calls Tryd.prog 17 #[.int .i64 n] w fun e w' => e = .returned (.string q) ∧ Below w.heap.size w w' :=
  ⟨_, rfl, Lib.itoa_length_le n h0 h1, digits_any n h0 h1⟩
theorem plain_g (n : Nat) (h1 : n < 18446744073709551616) :
    ∃ q, q = str (decDigits n) ∧ q.size ≤ 20 ∧ ∀ w, Calls Tryd.prog 18 #[.int .u64 n] w fun e w' => e = .returned (.string q) ∧ Below w.heap.size w w' :=
  ⟨_, rfl, Tl.decDigits_len n h1, lplain_any n h1⟩

theorem line1 (x : Tl.Stp) (k : Nat) (hn : Tl.sizeOf k = 1) (hs : Tl.scalOf k = false) : str (Tl.wordOf k) ++ str [32] ++ str (itoa x.a) = str (Tl.lineAt x k) := by
  rw [str_append, str_append]; unfold Tl.lineAt Tl.wordsL Tl.tailL Tl.nums; rw [hn, hs]; simp [join, List.intercalate]
theorem line2 (x : Tl.Stp) (k : Nat) (hn : Tl.sizeOf k = 2) (hs : Tl.scalOf k = false) : str (Tl.wordOf k) ++ str [32] ++ str (itoa x.a) ++ (str [32] ++ str (itoa x.b)) = str (Tl.lineAt x k) := by
  rw [str_append, str_append, str_append, str_append]; unfold Tl.lineAt Tl.wordsL Tl.tailL Tl.nums; rw [hn, hs]; simp [join, List.intercalate]
theorem line2s (x : Tl.Stp) (k : Nat) (hn : Tl.sizeOf k = 2) (hs : Tl.scalOf k = true) : str (Tl.wordOf k) ++ str [32] ++ str (itoa x.a) ++ (str [32] ++ str (itoa x.b)) ++ (str [32] ++ str (decDigits x.v)) = str (Tl.lineAt x k) := by
  rw [str_append, str_append, str_append, str_append, str_append, str_append]; unfold Tl.lineAt Tl.wordsL Tl.tailL Tl.nums; rw [hn, hs]; simp [join, List.intercalate]
theorem line3 (x : Tl.Stp) (k : Nat) (hn : Tl.sizeOf k = 3) (hs : Tl.scalOf k = false) : str (Tl.wordOf k) ++ str [32] ++ str (itoa x.a) ++ (str [32] ++ str (itoa x.b)) ++ (str [32] ++ str (itoa x.c)) = str (Tl.lineAt x k) := by
  rw [str_append, str_append, str_append, str_append, str_append, str_append]; unfold Tl.lineAt Tl.wordsL Tl.tailL Tl.nums; rw [hn, hs]; simp [join, List.intercalate]

set_option maxRecDepth 100000 in
set_option maxHeartbeats 1000000 in
theorem lline_fit1 (x : Tl.Stp) (hx : x.ok) (k : Nat) (hk : k < 12) (hkd : x.kind = k + 1) (hfit : Tl.fitsB x k = true) (hnn : Tl.sizeOf k = 1) (hss : Tl.scalOf k = false) (h4 : k ≠ 4) (w : World) :
    Calls Tryd.prog 9 #[.agg #[.int .i64 x.kind, .int .i64 x.a, .int .i64 x.b, .int .i64 x.c, .int .u64 x.v]] w (LawQ x w) := by
  have HNS0 := Lib.hid (And.intro hnn (And.intro hss h4))
  clear hnn hss h4
  have s3 := Tl.sizeOf_range k
  obtain ⟨f1, f2⟩ := wordC_at k hk
  have HF := Lib.hid (And.intro f1 f2)
  have HO := Lib.hid (okB_in hk hkd)
  obtain ⟨kd, a, b, c, v⟩ := x
  simp only at hkd
  subst hkd
  obtain ⟨wd, hwd⟩ : ∃ wd, wd = str (Tl.wordOf k) := ⟨_, rfl⟩
  have HWD := Lib.hid hwd
  rw [← hwd] at f1
  have hwl : wd.size ≤ 5 := by rw [hwd]; exact Tl.wordOf_len k
  have e1 : decide ((k : Int) + 1 < 1) = false := by simp; omega
  have e2 : decide ((12 : Int) < (k : Int) + 1) = false := by simp; omega
  have HHF := Lib.hid (And.intro f1 f2)
  clear f1 f2 hwd
  go_enter Tryd.func9, Tryd.ntmps9
  go_upto_region 3 with (fail)
  have hB := blocks3 w (.cells (stepC ⟨(k : Int) + 1, a, b, c, v⟩) 24) (.cells wordC.toArray 9) (.cells manyC.toArray 3)
  generalize hW : ((w.alloc (.cells (stepC ⟨(k : Int) + 1, a, b, c, v⟩) 24)).alloc (.cells wordC.toArray 9)).alloc (.cells manyC.toArray 3) = W at hB
  obtain ⟨q0, q1, q2, hbw⟩ := hB
  have c0 : W.cell? ⟨w.heap.size, 0, none⟩ = some (.int .i64 (k + 1)) := cell_at q0 rfl
  have c1 : W.cell? ⟨w.heap.size, 1, none⟩ = some (.int .i64 a) := cell_at q0 rfl
  have c2 : W.cell? ⟨w.heap.size, 2, none⟩ = some (.int .i64 b) := cell_at q0 rfl
  have c3 : W.cell? ⟨w.heap.size, 3, none⟩ = some (.int .i64 c) := cell_at q0 rfl
  have c4 : W.cell? ⟨w.heap.size, 4, none⟩ = some (.int .u64 v) := cell_at q0 rfl
  have g0 : W.cell? ⟨w.heap.size + 1, k + 1, none⟩ = some (.string wd) := cell_atL q1 HHF.out.1
  have g1 : W.cell? ⟨w.heap.size + 2, k + 1, none⟩ = some (.int .i64 (Tl.sizeOf k)) := cell_atL q2 HHF.out.2
  have b1 : (0 : Int) ≤ (k : Int) + 1 := by omega
  have b2 : (k : Int) + 1 < 13 := by omega
  have b3 : ((k : Int) + 1).toNat = k + 1 := by omega
  have hz := lt_of_heap q2
  have HB := Lib.hid hbw
  clear q0 q1 q2 hbw
  change Code.wp _ _ _ _ (((w.alloc (.cells (stepC ⟨(k : Int) + 1, a, b, c, v⟩) 24)).alloc (.cells wordC.toArray 9)).alloc (.cells manyC.toArray 3))
  rw [hW]
  clear hW
  obtain ⟨hnn, hss, h4⟩ := HNS0.out
  have HFit := Lib.hid hfit
  have HNS := Lib.hid (And.intro hnn hss)
  rw [hnn] at g1 s3
  have hend : ∀ e w' t, t = str (Tl.lineAt ⟨(k : Int) + 1, a, b, c, v⟩ k) → e = .returned (.tuple #[.string t, .bool true]) → Below w.heap.size w w' → LawQ ⟨(k : Int) + 1, a, b, c, v⟩ w e w' := fun e w' t ht he hb =>
    ⟨fun _ => by rw [he, ht]; simp only [show ((k : Int) + 1 - 1).toNat = k by omega], fun h => absurd ((HO.out.trans HFit.out).symm.trans h) (by decide), hb⟩
  have HE := Lib.hid hend
  unfold Tl.fitsB Tl.fitsN at hfit
  rw [hnn, hss] at hfit
  simp only [Tl.nums] at hfit
  simp at hfit
  clear hend HF HHF hnn hss
  have e5 : ((k : Int) + 1 != 5) = true := by have := h4; simp; omega
  have e6 : ((k : Int) + 1 == 5) = false := by have := h4; simp; omega
  obtain ⟨⟨rfl, rfl⟩, rfl⟩ := hfit
  clear h4
  obtain ⟨q, hq, hql, hd⟩ := digits_g a hx.1.1 hx.1.2
  have HQ := Lib.hid hq

  have hd' := fun d os => Calls.regrown_of (w := W) (d := d) (os := os) (hd _)
  have c0' := cell_regrown c0
  have c1' := cell_regrown c1
  have g0' := cell_regrown g0
  clear hq hd
  have n1 : ¬ 9223372036854775807 < wd.size + 1 := by omega
  have n2 : ¬ 9223372036854775807 < wd.size + 1 + q.size := by omega
  go_upto_region 8 with (fail)
  refine wp_region_quiet_below (by kernel_rfl) (by kernel_rfl) ?_
  repeat (quiet_step (exact hd' _ _))
  refine wpQuiet_nil ?_
  intro _ hw'
  obtain ⟨⟨dq, osq⟩, hw''⟩ := hw'
  subst hw''
  have hb2 := below_regrown W dq osq
  have a0 := cell_regrown c0 dq osq
  have a2 := cell_regrown c2 dq osq
  have a3 := cell_regrown c3 dq osq
  have a4 := cell_regrown c4 dq osq
  have hz2 : w.heap.size < (grow (redrawn W dq) osq).heap.size := by have := hb2.size; omega
  generalize grow (redrawn W dq) osq = W2 at *
  have HT := HB.out.trans (hb2.mono HB.out.size)
  have HT2 := Lib.hid HT
  clear c0 c1 c2 c3 c4 g0 g1 c0' c1' g0' hd' hb2 HT

  go_wp2
  go_ret2
  refine HE.out _ _ _ ?_ rfl HT2.out
  have h := line1 ⟨(k : Int) + 1, a, 0, 0, 0⟩ k HNS.out.1 HNS.out.2
  rw [← h, HWD.out, HQ.out]; rfl
set_option maxRecDepth 100000 in
set_option maxHeartbeats 1000000 in
theorem lline_fit2 (x : Tl.Stp) (hx : x.ok) (k : Nat) (hk : k < 12) (hkd : x.kind = k + 1) (hfit : Tl.fitsB x k = true) (hnn : Tl.sizeOf k = 2) (hss : Tl.scalOf k = false) (h4 : k ≠ 4) (w : World) :
    Calls Tryd.prog 9 #[.agg #[.int .i64 x.kind, .int .i64 x.a, .int .i64 x.b, .int .i64 x.c, .int .u64 x.v]] w (LawQ x w) := by
  have HNS0 := Lib.hid (And.intro hnn (And.intro hss h4))
  clear hnn hss h4
  have s3 := Tl.sizeOf_range k
  obtain ⟨f1, f2⟩ := wordC_at k hk
  have HF := Lib.hid (And.intro f1 f2)
  have HO := Lib.hid (okB_in hk hkd)
  obtain ⟨kd, a, b, c, v⟩ := x
  simp only at hkd
  subst hkd
  obtain ⟨wd, hwd⟩ : ∃ wd, wd = str (Tl.wordOf k) := ⟨_, rfl⟩
  have HWD := Lib.hid hwd
  rw [← hwd] at f1
  have hwl : wd.size ≤ 5 := by rw [hwd]; exact Tl.wordOf_len k
  have e1 : decide ((k : Int) + 1 < 1) = false := by simp; omega
  have e2 : decide ((12 : Int) < (k : Int) + 1) = false := by simp; omega
  have HHF := Lib.hid (And.intro f1 f2)
  clear f1 f2 hwd
  go_enter Tryd.func9, Tryd.ntmps9
  go_upto_region 3 with (fail)
  have hB := blocks3 w (.cells (stepC ⟨(k : Int) + 1, a, b, c, v⟩) 24) (.cells wordC.toArray 9) (.cells manyC.toArray 3)
  generalize hW : ((w.alloc (.cells (stepC ⟨(k : Int) + 1, a, b, c, v⟩) 24)).alloc (.cells wordC.toArray 9)).alloc (.cells manyC.toArray 3) = W at hB
  obtain ⟨q0, q1, q2, hbw⟩ := hB
  have c0 : W.cell? ⟨w.heap.size, 0, none⟩ = some (.int .i64 (k + 1)) := cell_at q0 rfl
  have c1 : W.cell? ⟨w.heap.size, 1, none⟩ = some (.int .i64 a) := cell_at q0 rfl
  have c2 : W.cell? ⟨w.heap.size, 2, none⟩ = some (.int .i64 b) := cell_at q0 rfl
  have c3 : W.cell? ⟨w.heap.size, 3, none⟩ = some (.int .i64 c) := cell_at q0 rfl
  have c4 : W.cell? ⟨w.heap.size, 4, none⟩ = some (.int .u64 v) := cell_at q0 rfl
  have g0 : W.cell? ⟨w.heap.size + 1, k + 1, none⟩ = some (.string wd) := cell_atL q1 HHF.out.1
  have g1 : W.cell? ⟨w.heap.size + 2, k + 1, none⟩ = some (.int .i64 (Tl.sizeOf k)) := cell_atL q2 HHF.out.2
  have b1 : (0 : Int) ≤ (k : Int) + 1 := by omega
  have b2 : (k : Int) + 1 < 13 := by omega
  have b3 : ((k : Int) + 1).toNat = k + 1 := by omega
  have hz := lt_of_heap q2
  have HB := Lib.hid hbw
  clear q0 q1 q2 hbw
  change Code.wp _ _ _ _ (((w.alloc (.cells (stepC ⟨(k : Int) + 1, a, b, c, v⟩) 24)).alloc (.cells wordC.toArray 9)).alloc (.cells manyC.toArray 3))
  rw [hW]
  clear hW
  obtain ⟨hnn, hss, h4⟩ := HNS0.out
  have HFit := Lib.hid hfit
  have HNS := Lib.hid (And.intro hnn hss)
  rw [hnn] at g1 s3
  have hend : ∀ e w' t, t = str (Tl.lineAt ⟨(k : Int) + 1, a, b, c, v⟩ k) → e = .returned (.tuple #[.string t, .bool true]) → Below w.heap.size w w' → LawQ ⟨(k : Int) + 1, a, b, c, v⟩ w e w' := fun e w' t ht he hb =>
    ⟨fun _ => by rw [he, ht]; simp only [show ((k : Int) + 1 - 1).toNat = k by omega], fun h => absurd ((HO.out.trans HFit.out).symm.trans h) (by decide), hb⟩
  have HE := Lib.hid hend
  unfold Tl.fitsB Tl.fitsN at hfit
  rw [hnn, hss] at hfit
  simp only [Tl.nums] at hfit
  simp at hfit
  clear hend HF HHF hnn hss
  have e5 : ((k : Int) + 1 != 5) = true := by have := h4; simp; omega
  have e6 : ((k : Int) + 1 == 5) = false := by have := h4; simp; omega
  obtain ⟨rfl, rfl⟩ := hfit
  clear h4
  obtain ⟨q, hq, hql, hd⟩ := digits_g a hx.1.1 hx.1.2
  have HQ := Lib.hid hq
  obtain ⟨q3, hq3, hql3, hd3⟩ := digits_g b hx.2.1.1 hx.2.1.2
  have HQ3 := Lib.hid hq3
  have HD3 := Lib.hid hd3
  clear hq3 hd3
  have n3 : ¬ 9223372036854775807 < 1 + q3.size := by omega
  have n4 : ¬ 9223372036854775807 < wd.size + 1 + q.size + (1 + q3.size) := by omega
  have hd' := fun d os => Calls.regrown_of (w := W) (d := d) (os := os) (hd _)
  have c0' := cell_regrown c0
  have c1' := cell_regrown c1
  have g0' := cell_regrown g0
  clear hq hd
  have n1 : ¬ 9223372036854775807 < wd.size + 1 := by omega
  have n2 : ¬ 9223372036854775807 < wd.size + 1 + q.size := by omega
  go_upto_region 8 with (fail)
  refine wp_region_quiet_below (by kernel_rfl) (by kernel_rfl) ?_
  repeat (quiet_step (exact hd' _ _))
  refine wpQuiet_nil ?_
  intro _ hw'
  obtain ⟨⟨dq, osq⟩, hw''⟩ := hw'
  subst hw''
  have hb2 := below_regrown W dq osq
  have a0 := cell_regrown c0 dq osq
  have a2 := cell_regrown c2 dq osq
  have a3 := cell_regrown c3 dq osq
  have a4 := cell_regrown c4 dq osq
  have hz2 : w.heap.size < (grow (redrawn W dq) osq).heap.size := by have := hb2.size; omega
  generalize grow (redrawn W dq) osq = W2 at *
  have HT := HB.out.trans (hb2.mono HB.out.size)
  have HT2 := Lib.hid HT
  clear c0 c1 c2 c3 c4 g0 g1 c0' c1' g0' hd' hb2 HT
  go_wp2_with fail
  refine (HD3.out _).mono ?_
  rintro e w3 ⟨rfl, hb3⟩
  have HT4 := Lib.hid (HT2.out.trans (hb3.mono HT2.out.size))
  have a0_3 := (hb3.cell (p := ⟨w.heap.size, 0, none⟩) hz2).trans a0
  have a2_3 := (hb3.cell (p := ⟨w.heap.size, 2, none⟩) hz2).trans a2
  have a3_3 := (hb3.cell (p := ⟨w.heap.size, 3, none⟩) hz2).trans a3
  have a4_3 := (hb3.cell (p := ⟨w.heap.size, 4, none⟩) hz2).trans a4
  have hz3 : w.heap.size < w3.heap.size := by have := hb3.size; omega
  clear hb3

  go_wp2
  go_ret2
  refine HE.out _ _ _ ?_ rfl HT4.out
  have h := line2 ⟨(k : Int) + 1, a, b, 0, 0⟩ k HNS.out.1 HNS.out.2
  rw [← h, HWD.out, HQ.out, HQ3.out]; rfl
set_option maxRecDepth 100000 in
set_option maxHeartbeats 1000000 in
theorem lline_fit2s (x : Tl.Stp) (hx : x.ok) (k : Nat) (hk : k < 12) (hkd : x.kind = k + 1) (hfit : Tl.fitsB x k = true) (hnn : Tl.sizeOf k = 2) (hss : Tl.scalOf k = true) (h4 : k = 4) (w : World) :
    Calls Tryd.prog 9 #[.agg #[.int .i64 x.kind, .int .i64 x.a, .int .i64 x.b, .int .i64 x.c, .int .u64 x.v]] w (LawQ x w) := by
  have HNS0 := Lib.hid (And.intro hnn (And.intro hss h4))
  clear hnn hss h4
  have s3 := Tl.sizeOf_range k
  obtain ⟨f1, f2⟩ := wordC_at k hk
  have HF := Lib.hid (And.intro f1 f2)
  have HO := Lib.hid (okB_in hk hkd)
  obtain ⟨kd, a, b, c, v⟩ := x
  simp only at hkd
  subst hkd
  obtain ⟨wd, hwd⟩ : ∃ wd, wd = str (Tl.wordOf k) := ⟨_, rfl⟩
  have HWD := Lib.hid hwd
  rw [← hwd] at f1
  have hwl : wd.size ≤ 5 := by rw [hwd]; exact Tl.wordOf_len k
  have e1 : decide ((k : Int) + 1 < 1) = false := by simp; omega
  have e2 : decide ((12 : Int) < (k : Int) + 1) = false := by simp; omega
  have HHF := Lib.hid (And.intro f1 f2)
  clear f1 f2 hwd
  go_enter Tryd.func9, Tryd.ntmps9
  go_upto_region 3 with (fail)
  have hB := blocks3 w (.cells (stepC ⟨(k : Int) + 1, a, b, c, v⟩) 24) (.cells wordC.toArray 9) (.cells manyC.toArray 3)
  generalize hW : ((w.alloc (.cells (stepC ⟨(k : Int) + 1, a, b, c, v⟩) 24)).alloc (.cells wordC.toArray 9)).alloc (.cells manyC.toArray 3) = W at hB
  obtain ⟨q0, q1, q2, hbw⟩ := hB
  have c0 : W.cell? ⟨w.heap.size, 0, none⟩ = some (.int .i64 (k + 1)) := cell_at q0 rfl
  have c1 : W.cell? ⟨w.heap.size, 1, none⟩ = some (.int .i64 a) := cell_at q0 rfl
  have c2 : W.cell? ⟨w.heap.size, 2, none⟩ = some (.int .i64 b) := cell_at q0 rfl
  have c3 : W.cell? ⟨w.heap.size, 3, none⟩ = some (.int .i64 c) := cell_at q0 rfl
  have c4 : W.cell? ⟨w.heap.size, 4, none⟩ = some (.int .u64 v) := cell_at q0 rfl
  have g0 : W.cell? ⟨w.heap.size + 1, k + 1, none⟩ = some (.string wd) := cell_atL q1 HHF.out.1
  have g1 : W.cell? ⟨w.heap.size + 2, k + 1, none⟩ = some (.int .i64 (Tl.sizeOf k)) := cell_atL q2 HHF.out.2
  have b1 : (0 : Int) ≤ (k : Int) + 1 := by omega
  have b2 : (k : Int) + 1 < 13 := by omega
  have b3 : ((k : Int) + 1).toNat = k + 1 := by omega
  have hz := lt_of_heap q2
  have HB := Lib.hid hbw
  clear q0 q1 q2 hbw
  change Code.wp _ _ _ _ (((w.alloc (.cells (stepC ⟨(k : Int) + 1, a, b, c, v⟩) 24)).alloc (.cells wordC.toArray 9)).alloc (.cells manyC.toArray 3))
  rw [hW]
  clear hW
  obtain ⟨hnn, hss, h4⟩ := HNS0.out
  have HFit := Lib.hid hfit
  have HNS := Lib.hid (And.intro hnn hss)
  rw [hnn] at g1 s3
  have hend : ∀ e w' t, t = str (Tl.lineAt ⟨(k : Int) + 1, a, b, c, v⟩ k) → e = .returned (.tuple #[.string t, .bool true]) → Below w.heap.size w w' → LawQ ⟨(k : Int) + 1, a, b, c, v⟩ w e w' := fun e w' t ht he hb =>
    ⟨fun _ => by rw [he, ht]; simp only [show ((k : Int) + 1 - 1).toNat = k by omega], fun h => absurd ((HO.out.trans HFit.out).symm.trans h) (by decide), hb⟩
  have HE := Lib.hid hend
  unfold Tl.fitsB Tl.fitsN at hfit
  rw [hnn, hss] at hfit
  simp only [Tl.nums] at hfit
  simp at hfit
  clear hend HF HHF hnn hss
  have e5 : ((k : Int) + 1 != 5) = false := by have := h4; simp; omega
  have e6 : ((k : Int) + 1 == 5) = true := by have := h4; simp; omega
  subst hfit
  clear h4
  obtain ⟨q, hq, hql, hd⟩ := digits_g a hx.1.1 hx.1.2
  have HQ := Lib.hid hq
  obtain ⟨q3, hq3, hql3, hd3⟩ := digits_g b hx.2.1.1 hx.2.1.2
  have HQ3 := Lib.hid hq3
  have HD3 := Lib.hid hd3
  clear hq3 hd3
  have n3 : ¬ 9223372036854775807 < 1 + q3.size := by omega
  have n4 : ¬ 9223372036854775807 < wd.size + 1 + q.size + (1 + q3.size) := by omega
  obtain ⟨q4, hq4, hql4, hd4⟩ := plain_g v hx.2.2.2
  have HQ4 := Lib.hid hq4
  have HD4 := Lib.hid hd4
  clear hq4 hd4
  have n5 : ¬ 9223372036854775807 < 1 + q4.size := by omega
  have n6 : ¬ 9223372036854775807 < wd.size + 1 + q.size + (1 + q3.size) + (1 + q4.size) := by omega
  have hd' := fun d os => Calls.regrown_of (w := W) (d := d) (os := os) (hd _)
  have c0' := cell_regrown c0
  have c1' := cell_regrown c1
  have g0' := cell_regrown g0
  clear hq hd
  have n1 : ¬ 9223372036854775807 < wd.size + 1 := by omega
  have n2 : ¬ 9223372036854775807 < wd.size + 1 + q.size := by omega
  go_upto_region 8 with (fail)
  refine wp_region_quiet_below (by kernel_rfl) (by kernel_rfl) ?_
  repeat (quiet_step (exact hd' _ _))
  refine wpQuiet_nil ?_
  intro _ hw'
  obtain ⟨⟨dq, osq⟩, hw''⟩ := hw'
  subst hw''
  have hb2 := below_regrown W dq osq
  have a0 := cell_regrown c0 dq osq
  have a2 := cell_regrown c2 dq osq
  have a3 := cell_regrown c3 dq osq
  have a4 := cell_regrown c4 dq osq
  have hz2 : w.heap.size < (grow (redrawn W dq) osq).heap.size := by have := hb2.size; omega
  generalize grow (redrawn W dq) osq = W2 at *
  have HT := HB.out.trans (hb2.mono HB.out.size)
  have HT2 := Lib.hid HT
  clear c0 c1 c2 c3 c4 g0 g1 c0' c1' g0' hd' hb2 HT
  go_wp2_with fail
  refine (HD3.out _).mono ?_
  rintro e w3 ⟨rfl, hb3⟩
  have HT4 := Lib.hid (HT2.out.trans (hb3.mono HT2.out.size))
  have a0_3 := (hb3.cell (p := ⟨w.heap.size, 0, none⟩) hz2).trans a0
  have a2_3 := (hb3.cell (p := ⟨w.heap.size, 2, none⟩) hz2).trans a2
  have a3_3 := (hb3.cell (p := ⟨w.heap.size, 3, none⟩) hz2).trans a3
  have a4_3 := (hb3.cell (p := ⟨w.heap.size, 4, none⟩) hz2).trans a4
  have hz3 : w.heap.size < w3.heap.size := by have := hb3.size; omega
  clear hb3
  go_wp2_with fail
  refine (HD4.out _).mono ?_
  rintro e w4 ⟨rfl, hb4⟩
  have HT5 := Lib.hid (HT4.out.trans (hb4.mono HT4.out.size))
  have a0_4 := (hb4.cell (p := ⟨w.heap.size, 0, none⟩) hz3).trans a0_3
  have a2_4 := (hb4.cell (p := ⟨w.heap.size, 2, none⟩) hz3).trans a2_3
  have a3_4 := (hb4.cell (p := ⟨w.heap.size, 3, none⟩) hz3).trans a3_3
  have a4_4 := (hb4.cell (p := ⟨w.heap.size, 4, none⟩) hz3).trans a4_3
  have hz4 : w.heap.size < w4.heap.size := by have := hb4.size; omega
  clear hb4

  go_wp2
  go_ret2
  refine HE.out _ _ _ ?_ rfl HT5.out
  have h := line2s ⟨(k : Int) + 1, a, b, 0, v⟩ k HNS.out.1 HNS.out.2
  rw [← h, HWD.out, HQ.out, HQ3.out, HQ4.out]; rfl
set_option maxRecDepth 100000 in
set_option maxHeartbeats 1000000 in
theorem lline_fit3 (x : Tl.Stp) (hx : x.ok) (k : Nat) (hk : k < 12) (hkd : x.kind = k + 1) (hfit : Tl.fitsB x k = true) (hnn : Tl.sizeOf k = 3) (hss : Tl.scalOf k = false) (h4 : k ≠ 4) (w : World) :
    Calls Tryd.prog 9 #[.agg #[.int .i64 x.kind, .int .i64 x.a, .int .i64 x.b, .int .i64 x.c, .int .u64 x.v]] w (LawQ x w) := by
  have HNS0 := Lib.hid (And.intro hnn (And.intro hss h4))
  clear hnn hss h4
  have s3 := Tl.sizeOf_range k
  obtain ⟨f1, f2⟩ := wordC_at k hk
  have HF := Lib.hid (And.intro f1 f2)
  have HO := Lib.hid (okB_in hk hkd)
  obtain ⟨kd, a, b, c, v⟩ := x
  simp only at hkd
  subst hkd
  obtain ⟨wd, hwd⟩ : ∃ wd, wd = str (Tl.wordOf k) := ⟨_, rfl⟩
  have HWD := Lib.hid hwd
  rw [← hwd] at f1
  have hwl : wd.size ≤ 5 := by rw [hwd]; exact Tl.wordOf_len k
  have e1 : decide ((k : Int) + 1 < 1) = false := by simp; omega
  have e2 : decide ((12 : Int) < (k : Int) + 1) = false := by simp; omega
  have HHF := Lib.hid (And.intro f1 f2)
  clear f1 f2 hwd
  go_enter Tryd.func9, Tryd.ntmps9
  go_upto_region 3 with (fail)
  have hB := blocks3 w (.cells (stepC ⟨(k : Int) + 1, a, b, c, v⟩) 24) (.cells wordC.toArray 9) (.cells manyC.toArray 3)
  generalize hW : ((w.alloc (.cells (stepC ⟨(k : Int) + 1, a, b, c, v⟩) 24)).alloc (.cells wordC.toArray 9)).alloc (.cells manyC.toArray 3) = W at hB
  obtain ⟨q0, q1, q2, hbw⟩ := hB
  have c0 : W.cell? ⟨w.heap.size, 0, none⟩ = some (.int .i64 (k + 1)) := cell_at q0 rfl
  have c1 : W.cell? ⟨w.heap.size, 1, none⟩ = some (.int .i64 a) := cell_at q0 rfl
  have c2 : W.cell? ⟨w.heap.size, 2, none⟩ = some (.int .i64 b) := cell_at q0 rfl
  have c3 : W.cell? ⟨w.heap.size, 3, none⟩ = some (.int .i64 c) := cell_at q0 rfl
  have c4 : W.cell? ⟨w.heap.size, 4, none⟩ = some (.int .u64 v) := cell_at q0 rfl
  have g0 : W.cell? ⟨w.heap.size + 1, k + 1, none⟩ = some (.string wd) := cell_atL q1 HHF.out.1
  have g1 : W.cell? ⟨w.heap.size + 2, k + 1, none⟩ = some (.int .i64 (Tl.sizeOf k)) := cell_atL q2 HHF.out.2
  have b1 : (0 : Int) ≤ (k : Int) + 1 := by omega
  have b2 : (k : Int) + 1 < 13 := by omega
  have b3 : ((k : Int) + 1).toNat = k + 1 := by omega
  have hz := lt_of_heap q2
  have HB := Lib.hid hbw
  clear q0 q1 q2 hbw
  change Code.wp _ _ _ _ (((w.alloc (.cells (stepC ⟨(k : Int) + 1, a, b, c, v⟩) 24)).alloc (.cells wordC.toArray 9)).alloc (.cells manyC.toArray 3))
  rw [hW]
  clear hW
  obtain ⟨hnn, hss, h4⟩ := HNS0.out
  have HFit := Lib.hid hfit
  have HNS := Lib.hid (And.intro hnn hss)
  rw [hnn] at g1 s3
  have hend : ∀ e w' t, t = str (Tl.lineAt ⟨(k : Int) + 1, a, b, c, v⟩ k) → e = .returned (.tuple #[.string t, .bool true]) → Below w.heap.size w w' → LawQ ⟨(k : Int) + 1, a, b, c, v⟩ w e w' := fun e w' t ht he hb =>
    ⟨fun _ => by rw [he, ht]; simp only [show ((k : Int) + 1 - 1).toNat = k by omega], fun h => absurd ((HO.out.trans HFit.out).symm.trans h) (by decide), hb⟩
  have HE := Lib.hid hend
  unfold Tl.fitsB Tl.fitsN at hfit
  rw [hnn, hss] at hfit
  simp only [Tl.nums] at hfit
  simp at hfit
  clear hend HF HHF hnn hss
  have e5 : ((k : Int) + 1 != 5) = true := by have := h4; simp; omega
  have e6 : ((k : Int) + 1 == 5) = false := by have := h4; simp; omega
  subst hfit
  clear h4
  obtain ⟨q, hq, hql, hd⟩ := digits_g a hx.1.1 hx.1.2
  have HQ := Lib.hid hq
  obtain ⟨q3, hq3, hql3, hd3⟩ := digits_g b hx.2.1.1 hx.2.1.2
  have HQ3 := Lib.hid hq3
  have HD3 := Lib.hid hd3
  clear hq3 hd3
  have n3 : ¬ 9223372036854775807 < 1 + q3.size := by omega
  have n4 : ¬ 9223372036854775807 < wd.size + 1 + q.size + (1 + q3.size) := by omega
  obtain ⟨q4, hq4, hql4, hd4⟩ := digits_g c hx.2.2.1.1 hx.2.2.1.2
  have HQ4 := Lib.hid hq4
  have HD4 := Lib.hid hd4
  clear hq4 hd4
  have n5 : ¬ 9223372036854775807 < 1 + q4.size := by omega
  have n6 : ¬ 9223372036854775807 < wd.size + 1 + q.size + (1 + q3.size) + (1 + q4.size) := by omega
  have hd' := fun d os => Calls.regrown_of (w := W) (d := d) (os := os) (hd _)
  have c0' := cell_regrown c0
  have c1' := cell_regrown c1
  have g0' := cell_regrown g0
  clear hq hd
  have n1 : ¬ 9223372036854775807 < wd.size + 1 := by omega
  have n2 : ¬ 9223372036854775807 < wd.size + 1 + q.size := by omega
  go_upto_region 8 with (fail)
  refine wp_region_quiet_below (by kernel_rfl) (by kernel_rfl) ?_
  repeat (quiet_step (exact hd' _ _))
  refine wpQuiet_nil ?_
  intro _ hw'
  obtain ⟨⟨dq, osq⟩, hw''⟩ := hw'
  subst hw''
  have hb2 := below_regrown W dq osq
  have a0 := cell_regrown c0 dq osq
  have a2 := cell_regrown c2 dq osq
  have a3 := cell_regrown c3 dq osq
  have a4 := cell_regrown c4 dq osq
  have hz2 : w.heap.size < (grow (redrawn W dq) osq).heap.size := by have := hb2.size; omega
  generalize grow (redrawn W dq) osq = W2 at *
  have HT := HB.out.trans (hb2.mono HB.out.size)
  have HT2 := Lib.hid HT
  clear c0 c1 c2 c3 c4 g0 g1 c0' c1' g0' hd' hb2 HT
  go_wp2_with fail
  refine (HD3.out _).mono ?_
  rintro e w3 ⟨rfl, hb3⟩
  have HT4 := Lib.hid (HT2.out.trans (hb3.mono HT2.out.size))
  have a0_3 := (hb3.cell (p := ⟨w.heap.size, 0, none⟩) hz2).trans a0
  have a2_3 := (hb3.cell (p := ⟨w.heap.size, 2, none⟩) hz2).trans a2
  have a3_3 := (hb3.cell (p := ⟨w.heap.size, 3, none⟩) hz2).trans a3
  have a4_3 := (hb3.cell (p := ⟨w.heap.size, 4, none⟩) hz2).trans a4
  have hz3 : w.heap.size < w3.heap.size := by have := hb3.size; omega
  clear hb3
  go_wp2_with fail
  refine (HD4.out _).mono ?_
  rintro e w4 ⟨rfl, hb4⟩
  have HT5 := Lib.hid (HT4.out.trans (hb4.mono HT4.out.size))
  have a0_4 := (hb4.cell (p := ⟨w.heap.size, 0, none⟩) hz3).trans a0_3
  have a2_4 := (hb4.cell (p := ⟨w.heap.size, 2, none⟩) hz3).trans a2_3
  have a3_4 := (hb4.cell (p := ⟨w.heap.size, 3, none⟩) hz3).trans a3_3
  have a4_4 := (hb4.cell (p := ⟨w.heap.size, 4, none⟩) hz3).trans a4_3
  have hz4 : w.heap.size < w4.heap.size := by have := hb4.size; omega
  clear hb4

  go_wp2
  go_ret2
  refine HE.out _ _ _ ?_ rfl HT5.out
  have h := line3 ⟨(k : Int) + 1, a, b, c, 0⟩ k HNS.out.1 HNS.out.2
  rw [← h, HWD.out, HQ.out, HQ3.out, HQ4.out]; rfl

theorem lline_any (x : Tl.Stp) (hx : x.ok) (w : World) :
    Calls Tryd.prog 9 #[.agg #[.int .i64 x.kind, .int .i64 x.a, .int .i64 x.b, .int .i64 x.c, .int .u64 x.v]] w (LawQ x w) := by
  by_cases h : x.kind < 1 ∨ 12 < x.kind
  · exact lline_out x w h
  · obtain ⟨k, hk, hkd⟩ : ∃ k : Nat, k < 12 ∧ x.kind = k + 1 := ⟨(x.kind - 1).toNat, by omega, by omega⟩
    cases hf : Tl.fitsB x k with
    | false => exact lline_not x k hk hkd hf w
    | true =>
      match k, hk with
      | 0, _ => exact lline_fit3 x hx 0 (by decide) hkd hf rfl rfl (by decide) w
      | 1, _ => exact lline_fit3 x hx 1 (by decide) hkd hf rfl rfl (by decide) w
      | 2, _ => exact lline_fit3 x hx 2 (by decide) hkd hf rfl rfl (by decide) w
      | 3, _ => exact lline_fit2 x hx 3 (by decide) hkd hf rfl rfl (by decide) w
      | 4, _ => exact lline_fit2s x hx 4 (by decide) hkd hf rfl rfl rfl w
      | 5, _ => exact lline_fit1 x hx 5 (by decide) hkd hf rfl rfl (by decide) w
      | 6, _ => exact lline_fit2 x hx 6 (by decide) hkd hf rfl rfl (by decide) w
      | 7, _ => exact lline_fit2 x hx 7 (by decide) hkd hf rfl rfl (by decide) w
      | 8, _ => exact lline_fit1 x hx 8 (by decide) hkd hf rfl rfl (by decide) w
      | 9, _ => exact lline_fit1 x hx 9 (by decide) hkd hf rfl rfl (by decide) w
      | 10, _ => exact lline_fit2 x hx 10 (by decide) hkd hf rfl rfl (by decide) w
      | 11, _ => exact lline_fit1 x hx 11 (by decide) hkd hf rfl rfl (by decide) w
      | k + 12, hk => omega
end Go.Proofs.YtjhmeccdbcblbaaDoor
