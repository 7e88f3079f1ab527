/- The walk of tale.Line. -/
import Derived.Test.YtjhmeccdbcblbaaDoorWb
import Derived.Lib.QuietBelow
import Derived.StillTailTactics
set_option linter.unusedSimpArgs false
set_option linter.unusedVariables false
namespace Go.Proofs.YtjhmeccdbcblbaaDoor
open Go.RowKit Go.Sort
open Go.Lib (itoa decDigits join)

theorem formC_at : ∀ k : Nat, k < 12 → formC[k * 3]? = some (.string (str (Tl.wordOf k))) ∧ formC[k * 3 + 1]? = some (.int .i64 (Tl.sizeOf k)) ∧ formC[k * 3 + 2]? = some (.bool (Tl.scalOf k)) := by
  intro k hk
  match k, hk with
  | 0, _ => exact ⟨rfl, rfl, rfl⟩
  | 1, _ => exact ⟨rfl, rfl, rfl⟩
  | 2, _ => exact ⟨rfl, rfl, rfl⟩
  | 3, _ => exact ⟨rfl, rfl, rfl⟩
  | 4, _ => exact ⟨rfl, rfl, rfl⟩
  | 5, _ => exact ⟨rfl, rfl, rfl⟩
  | 6, _ => exact ⟨rfl, rfl, rfl⟩
  | 7, _ => exact ⟨rfl, rfl, rfl⟩
  | 8, _ => exact ⟨rfl, rfl, rfl⟩
  | 9, _ => exact ⟨rfl, rfl, rfl⟩
  | 10, _ => exact ⟨rfl, rfl, rfl⟩
  | 11, _ => exact ⟨rfl, rfl, rfl⟩
  | k + 12, hk => omega

theorem cell_atL {w : World} {b : Nat} {cs : List Value} {T : TypeId} {i : Nat} {v : Value} (h : w.heap[b]? = some (.cells cs.toArray T (0, 0))) (hv : cs[i]? = some v) : w.cell? ⟨b, i, none⟩ = some v :=
  cell_at h (by rw [List.getElem?_toArray]; exact hv)
theorem heap_new (w : World) (o : Obj) : (w.alloc o).heap[w.heap.size]? = some o := by show (w.heap.push o)[w.heap.size]? = some o; simp

theorem Line_out (x : Tl.Stp) (w : World) (h : x.kind < 1 ∨ 12 < x.kind) :
    Calls Tryd.prog 8 #[.agg #[.int .i64 x.kind, .int .i64 x.a, .int .i64 x.b, .int .i64 x.c, .int .u64 x.v]] w
      fun e w' => e = .returned (.tuple #[.string ⟨#[]⟩, .int .i64 1]) ∧ Below w.heap.size w w' := by
  by_cases h1 : x.kind < 1
  · go_enter Tryd.func8, Tryd.ntmps8
    go_wp2_with (go_at_call 13; refine (forms_any _).mono ?_; rintro e w' ⟨rfl, rfl⟩)
    go_quiet (fail)
    go_wp2
    go_ret2
    exact ⟨rfl, below_drewN (al (al (Below.refl _ _) _) _) _⟩
  · have h2 : 12 < x.kind := by omega
    have e1 : decide (x.kind < 1) = false := by simp; omega
    go_enter Tryd.func8, Tryd.ntmps8
    go_wp2_with (go_at_call 13; refine (forms_any _).mono ?_; rintro e w' ⟨rfl, rfl⟩)
    go_quiet (fail)
    go_wp2
    go_ret2
    exact ⟨rfl, below_drewN (al (al (Below.refl _ _) _) _) _⟩

theorem Env.drew {w : World} (h : Env w) : Env w.drew := h.below (Below.refl _ _).drew

theorem own_cells {w : World} {base : Nat} {v : Value} {L : List ByteArray} (hne : L ≠ []) (h : w.ownsRow base 9 1 v L.length (L.map Value.string)) :
    ∃ g cap, v = .slice (some ⟨g, 0, none⟩) L.length cap ∧ base ≤ g ∧ L.length ≤ cap ∧ g < w.heap.size ∧ ∀ (j : Nat) x, L[j]? = some x → w.cell? ⟨g, 0 + j, none⟩ = some (.string x) := by
  obtain ⟨-, h2⟩ := h
  rcases h2 with ⟨-, h2⟩ | ⟨g, cap, cur, hv, hg, hh, hn, -, hsz, ht⟩
  · exact absurd (List.eq_nil_of_length_eq_zero h2) hne
  · refine ⟨g, cap, hv, hg, hn, lt_of_heap hh, fun j x hj => ?_⟩
    refine cell_at hh ?_
    have hj' : j < L.length := (List.getElem?_eq_some_iff.1 hj).1
    have h3 : (cur.toList.take (L.length * 1))[j]? = some (.string x) := by rw [ht, List.getElem?_map, hj]; rfl
    rw [List.getElem?_take, if_pos (by omega)] at h3
    rw [Nat.zero_add]
    simpa using h3

theorem Join_own (L : List ByteArray) (hne : L ≠ []) (base : Nat) (v : Value) (w : World) (h : w.ownsRow base 9 1 v L.length (L.map Value.string)) (h1 : L.length ≤ 1000)
    (h2 : (join (L.map (·.data.toList)) [32]).length ≤ 140737488355328) :
    Calls Tryd.prog 15 #[v, .string ⟨#[32]⟩] w fun e w' => e = .returned (.string (str (join (L.map (·.data.toList)) [32]))) ∧ Below w.heap.size w w' := by
  obtain ⟨g, cap, rfl, -, hcap, hlt, hc⟩ := own_cells hne h
  exact Tryd.strings_Join g 0 cap L ⟨#[32]⟩ w hc hlt (by omega) hcap h2

theorem wordsB_data (x : Tl.Stp) (k : Nat) : (wordsB (str (Tl.wordOf k)) x (Tl.sizeOf k) (Tl.scalOf k)).map (·.data.toList) = Tl.wordsL x k := by
  unfold wordsB partB Tl.wordsL Tl.tailL str
  cases Tl.scalOf k <;> simp [Function.comp_def]
theorem wordsB_len (wd : ByteArray) (x : Tl.Stp) (n : Nat) (sc : Bool) : (wordsB wd x n sc).length ≤ 1000 ∧ wordsB wd x n sc ≠ [] := by
  unfold wordsB partB Tl.nums
  cases sc <;> simp <;> omega

/-- what Line answers at a kind that is one -/
def LineP (x : Tl.Stp) (k : Nat) (w : World) (e : Ending) (w' : World) : Prop :=
  (Tl.fitsB x k = true → e = .returned (.tuple #[.string (str (Tl.lineAt x k)), .int .i64 0])) ∧ (Tl.fitsB x k = false → e = .returned (.tuple #[.string ⟨#[]⟩, .int .i64 1])) ∧ Below w.heap.size w w'

set_option maxHeartbeats 1000000 in
set_option maxRecDepth 100000 in
theorem Line_in (x : Tl.Stp) (hx : x.ok) (w : World) (hE : Env w) (k : Nat) (hk : k < 12) (hkd : x.kind = k + 1) :
    Calls Tryd.prog 8 #[.agg #[.int .i64 x.kind, .int .i64 x.a, .int .i64 x.b, .int .i64 x.c, .int .u64 x.v]] w
      (LineP x k w) := by
  obtain ⟨kd, a, b, c, v⟩ := x
  simp only at hkd
  subst hkd
  obtain ⟨f1, f2, f3⟩ := formC_at k hk
  have s3 := Tl.sizeOf_range k
  obtain ⟨wd, hwd⟩ : ∃ wd, wd = str (Tl.wordOf k) := ⟨_, rfl⟩
  obtain ⟨n, hn⟩ : ∃ n, n = Tl.sizeOf k := ⟨_, rfl⟩
  obtain ⟨sc, hsc⟩ : ∃ n, n = Tl.scalOf k := ⟨_, rfl⟩
  rw [← hwd] at f1; rw [← hn] at f2 s3; rw [← hsc] at f3
  have HF := Lib.hid (show formC[k * 3]? = some (.string wd) ∧ formC[k * 3 + 1]? = some (.int .i64 n) ∧ formC[k * 3 + 2]? = some (.bool sc) from ⟨f1, f2, f3⟩)
  have HN := Lib.hid (And.intro hwd (And.intro hn hsc))
  clear f1 f2 f3 hwd hn hsc
  have e1 : decide ((k : Int) + 1 < 1) = false := by simp; omega
  have e2 : decide ((12 : Int) < (k : Int) + 1) = false := by simp; omega
  go_enter Tryd.func8, Tryd.ntmps8
  go_wp2_with (go_at_call 13; refine (forms_any _).mono ?_; rintro e w' ⟨rfl, rfl⟩)
  generalize hW : (w.alloc _).alloc formO = W
  have q0 : W.heap[w.heap.size]? = some (.cells #[.int .i64 (k + 1), .int .i64 a, .int .i64 b, .int .i64 c, .int .u64 v] 24) := by rw [← hW]; exact heap_alloc' (heap_new _ _)
  have q1 : W.heap[w.heap.size + 1]? = some formO := by
    rw [← hW]
    have h := heap_new (w.alloc (.cells #[.int .i64 (k + 1), .int .i64 a, .int .i64 b, .int .i64 c, .int .u64 v] 24)) formO
    rw [show (w.alloc (.cells #[.int .i64 (k + 1), .int .i64 a, .int .i64 b, .int .i64 c, .int .u64 v] 24)).heap.size = w.heap.size + 1 from by show (w.heap.push _).size = _; simp] at h
    exact h
  have hBW : Below w.heap.size w W := by rw [← hW]; exact al (al (Below.refl _ _) _) _
  have HB := Lib.hid hBW
  clear hW hBW
  have c0 : W.cell? ⟨w.heap.size, 0, none⟩ = some (.int .i64 (k + 1)) := cell_at q0 rfl
  have c1 : W.cell? ⟨w.heap.size, 1, none⟩ = some (.int .i64 a) := cell_at q0 rfl
  have c2 : W.cell? ⟨w.heap.size, 2, none⟩ = some (.int .i64 b) := cell_at q0 rfl
  have c3 : W.cell? ⟨w.heap.size, 3, none⟩ = some (.int .i64 c) := cell_at q0 rfl
  have c4 : W.cell? ⟨w.heap.size, 4, none⟩ = some (.int .u64 v) := cell_at q0 rfl
  have g0 : W.cell? ⟨w.heap.size + 1, k * 3, none⟩ = some (.string wd) := cell_atL q1 HF.out.1
  have g1 : W.cell? ⟨w.heap.size + 1, k * 3 + 1, none⟩ = some (.int .i64 n) := cell_atL q1 HF.out.2.1
  have g2 : W.cell? ⟨w.heap.size + 1, k * 3 + 2, none⟩ = some (.bool sc) := cell_atL q1 HF.out.2.2
  have hz : w.heap.size + 1 < W.heap.size := lt_of_heap q1
  clear q0 q1
  have b1 : (0 : Int) ≤ (k : Int) := by omega
  have b2 : (k : Int) < 12 := by omega
  have b3 : IntKind.i64.wrap (k : Int) = (k : Int) := by rw [IntKind.wrap_i64]; omega
  have c0' := cell_regrown c0
  have c1' := cell_regrown c1
  have c2' := cell_regrown c2
  have c3' := cell_regrown c3
  have c4' := cell_regrown c4
  have g0' := cell_regrown g0
  have g1' := cell_regrown g1
  have g2' := cell_regrown g2
  have hf := fun d os => Calls.regrown_of (w := W) (d := d) (os := os) (fits_any (k + 1) a b c v wd n s3 sc _)
  refine wp_region_quiet_below (by kernel_rfl) (by kernel_rfl) ?_
  clear c0 c1 c2 c3 c4 g0 g1 g2
  repeat (quiet_step (exact hf _ _))
  refine wpQuiet_nil ?_
  intro _ hw'
  obtain ⟨⟨dq, osq⟩, hw''⟩ := hw'
  subst hw''
  have hBW2 := below_regrown W dq osq
  cases hfit : Tl.fitsN ⟨k + 1, a, b, c, v⟩ n sc with
  | false =>
    have e3 : Tl.fitsB ⟨(k : Int) + 1, a, b, c, v⟩ k = false := by unfold Tl.fitsB; rw [← HN.out.2.1, ← HN.out.2.2]; exact hfit
    have E3 := Lib.hid e3
    have H2 := Lib.hid hBW2
    clear hfit e3 hBW2
    go_wp2
    go_ret2
    exact ⟨fun h => absurd (E3.out.symm.trans h) (by decide), fun _ => rfl, HB.out.trans (H2.out.mono HB.out.size)⟩
  | true =>
    have e3 : Tl.fitsB ⟨(k : Int) + 1, a, b, c, v⟩ k = true := by unfold Tl.fitsB; rw [← HN.out.2.1, ← HN.out.2.2]; exact hfit
    have E3 := Lib.hid e3
    have H2 := Lib.hid hBW2
    have hE2 := hE.below (HB.out.trans (hBW2.mono HB.out.size))
    clear hfit e3 hBW2
    have a0 := c0' dq osq
    have a1 := c1' dq osq
    have a2 := c2' dq osq
    have a3 := c3' dq osq
    have a4 := c4' dq osq
    have a5 := g0' dq osq
    have a6 := g1' dq osq
    have a7 := g2' dq osq
    clear c0' c1' c2' c3' c4' g0' g1' g2' hf
    generalize hW2 : grow (redrawn W dq) osq = W2 at *
    clear hW2
    go_wp2
    go_still_tail 7, (by kernel_rfl)
    change wpList _ _ _ _ _ W2.drew
    have hE3 := hE2.drew
    have hbd : Below W2.heap.size W2 W2.drew := (Below.refl _ _).drew
    have Hbd := Lib.hid hbd
    clear hbd hE2
    generalize hW3 : W2.drew = W3 at *
    clear hW3
    go_wp2_with fail
    refine (words_any ⟨k + 1, a, b, c, v⟩ hx wd n s3.1 s3.2 sc _ hE3).mono ?_
    rintro e w1 ⟨v', rfl, hown, hb⟩
    have HO := Lib.hid hown
    have Hb := Lib.hid hb
    clear hown hb
    go_wp2_with fail
    have hlen := Tl.line_len ⟨k + 1, a, b, c, v⟩ hx k
    obtain ⟨h1, h2, h3⟩ := HN.out
    subst h1 h2 h3
    have hd := wordsB_data ⟨k + 1, a, b, c, v⟩ k
    refine (Join_own _ (wordsB_len _ _ _ _).2 _ _ _ HO.out (wordsB_len _ _ _ _).1 (by rw [hd]; unfold Tl.lineAt at hlen; omega)).mono ?_
    rintro e w2 ⟨rfl, hb2⟩
    rw [hd]
    have Hb2 := Lib.hid hb2
    clear hb2 hd hlen
    go_wp2
    go_ret2
    refine ⟨fun _ => rfl, fun h => absurd (E3.out.symm.trans h) (by decide), ?_⟩
    have r1 := HB.out.trans (H2.out.mono HB.out.size)
    have r2 := r1.trans (Hbd.out.mono r1.size)
    have r3 := r2.trans (Hb.out.mono r2.size)
    exact r3.trans (Hb2.out.mono r3.size)

/-- what Line answers -/
def LineQ (x : Tl.Stp) (w : World) (e : Ending) (w' : World) : Prop :=
  (Tl.okB x = true → e = .returned (.tuple #[.string (str (Tl.lineAt x (x.kind - 1).toNat)), .int .i64 0])) ∧ (Tl.okB x = false → e = .returned (.tuple #[.string ⟨#[]⟩, .int .i64 1])) ∧ Below w.heap.size w w'

theorem Line_any (x : Tl.Stp) (hx : x.ok) (w : World) (hE : Env w) :
    Calls Tryd.prog 8 #[.agg #[.int .i64 x.kind, .int .i64 x.a, .int .i64 x.b, .int .i64 x.c, .int .u64 x.v]] w (LineQ x w) := by
  by_cases h : x.kind < 1 ∨ 12 < x.kind
  · refine (Line_out x w h).mono fun e w' ⟨he, hb⟩ => ⟨fun hk => ?_, fun _ => he, hb⟩
    have := Tl.okB_kind hk; omega
  · have hkd : x.kind = ((x.kind - 1).toNat : Nat) + 1 := by omega
    refine (Line_in x hx w hE (x.kind - 1).toNat (by omega) hkd).mono fun e w' ⟨h1, h2, hb⟩ => ⟨fun hk => h1 (Tl.okB_kind hk).2.2, fun hk => h2 ?_, hb⟩
    unfold Tl.okB at hk
    have e1 : decide (1 ≤ x.kind) = true := by simp; omega
    have e2 : decide (x.kind ≤ 12) = true := by simp; omega
    rw [e1, e2] at hk
    simpa using hk
end Go.Proofs.YtjhmeccdbcblbaaDoor
