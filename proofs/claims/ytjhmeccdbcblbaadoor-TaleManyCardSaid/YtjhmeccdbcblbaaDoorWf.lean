/- The walk of tale.Step. -/
import Derived.Test.YtjhmeccdbcblbaaDoorWe
set_option linter.unusedSimpArgs false
set_option linter.unusedVariables false
namespace Go.Proofs.YtjhmeccdbcblbaaDoor
open Go.RowKit Go.Sort
open Go.Lib (itoa decDigits join)

theorem read_any (bk : Nat) (L : List ByteArray) (k0 : Nat) (hk0 : k0 < 12) (wd : ByteArray) (n : Nat) (hn : 1 ≤ n ∧ n ≤ 3) (sc : Bool) (w : World) (hE : Env w) (hL : L ≠ []) (hLl : L.length ≤ 4294967296)
    (hcs : ∀ (j : Nat) s, L[j]? = some s → w.cell? ⟨bk, j, none⟩ = some (.string s) ∧ s.size ≤ 4294967296) :
    Calls Tryd.prog 20 #[.slice (some ⟨bk, 0, none⟩) L.length L.length, .int .i64 (k0 + 1), .agg #[.string wd, .int .i64 n, .bool sc]] w (ReadP L k0 wd n sc w) := by
  obtain ⟨s0, hs0⟩ : ∃ s0, L[0]? = some s0 := by
    cases L with
    | nil => exact absurd rfl hL
    | cons a t => exact ⟨a, rfl⟩
  have hc := (hcs 0 s0 hs0).1
  by_cases h : s0 = wd
  · subst h
    by_cases hs : L.length = 1 + n + (if sc then 1 else 0)
    · exact read_main bk L k0 hk0 s0 n hn sc w hE hs0 hcs hs
    · exact read_len bk L k0 hk0 s0 n hn sc w hs0 hLl hc hs
  · exact read_word bk L k0 hk0 wd n hn sc w s0 hs0 hLl hc h

/-- the pieces of a text between spaces -/
def pieces (s : ByteArray) : List ByteArray := Lib.splitB ⟨#[32]⟩ 0 (Lib.countB s ⟨#[32]⟩) s
theorem pieces_data (s : ByteArray) : (pieces s).map (·.data.toList) = Lib.split s.data.toList [32] := Lib.splitB_data _ _ _ _
theorem pieces_length (s : ByteArray) : (pieces s).length = Lib.countB s ⟨#[32]⟩ + 1 := Lib.splitB_all _ (by decide) _ _ _ rfl
theorem pieces_len_le (s : ByteArray) (hs : s.size ≤ 4294967280) : (pieces s).length ≤ 4294967296 := by
  rw [pieces_length]; have := Lib.countB_le ⟨#[32]⟩ (by decide) s.size s (Nat.le_refl _); omega
theorem splitB_size (sep : ByteArray) : ∀ (k : Nat) (s : ByteArray) (x : ByteArray), x ∈ Lib.splitB sep 0 k s → x.size ≤ s.size
  | 0, s, x, h => by rw [Lib.splitB_zero] at h; simp at h; subst h; exact Nat.le_refl _
  | k + 1, s, x, h => by
    unfold Lib.splitB at h
    split at h
    · simp at h; subst h; exact Nat.le_refl _
    · rcases List.mem_cons.1 h with rfl | h
      · simp only [ByteArray.size_extract]; omega
      · have := splitB_size sep k _ x h
        simp only [ByteArray.size_extract] at this; omega
theorem pieces_size (s : ByteArray) (j : Nat) (x : ByteArray) (h : (pieces s)[j]? = some x) : x.size ≤ s.size :=
  splitB_size _ _ _ _ (List.mem_of_getElem? h)

theorem data_inj : ∀ {a b : List ByteArray}, a.map (·.data.toList) = b.map (·.data.toList) → a = b
  | [], [], _ => rfl
  | [], _ :: _, h => by simp at h
  | _ :: _, [], h => by simp at h
  | x :: a, y :: b, h => by
    simp only [List.map_cons, List.cons.injEq] at h
    rw [data_inj h.2]
    congr 1
    rw [← Lib.mk_data x, h.1, Lib.mk_data]

theorem is_pieces {x : Tl.Stp} {s : ByteArray} (h : Tl.Is x s.data.toList) : Match (pieces s) (x.kind - 1).toNat (str (Tl.wordOf (x.kind - 1).toNat)) (Tl.sizeOf (x.kind - 1).toNat) (Tl.scalOf (x.kind - 1).toNat) x := by
  obtain ⟨h1, h2, h3⟩ := h
  obtain ⟨k1, k2, k3⟩ := Tl.okB_kind h2
  refine ⟨h1, k2, k3, data_inj ?_⟩
  rw [pieces_data, wordsB_data, ← Tl.split_line, h3]

def StepP (s : ByteArray) (w : World) (e : Ending) (w' : World) : Prop :=
  (∀ x, Tl.Is x s.data.toList → e = .returned (.tuple #[.agg (stepC x), .int .i64 0])) ∧ ((¬ ∃ x, Tl.Is x s.data.toList) → e = .returned (.tuple #[.agg (stepC zeroS), .int .i64 9])) ∧ Below w.heap.size w w'

/-- what the loop of Step keeps -/
structure SR (s : ByteArray) (w wr : World) (k : Nat) : Prop where
  below : Below w.heap.size w wr
  h0 : wr.heap[w.heap.size]? = some (.cells (stepC zeroS) 24 (0, 0))
  h1 : wr.heap[w.heap.size + 1]? = some (.cells ((pieces s).map Value.string).toArray 9 (0, 0))
  h2 : wr.heap[w.heap.size + 2]? = some formO
  no : ∀ x, Tl.Is x s.data.toList → k ≤ (x.kind - 1).toNat
theorem SR.later {s : ByteArray} {w wr w1 : World} {k : Nat} (h : SR s w wr k) (hb : Below wr.heap.size wr w1) : SR s w w1 k :=
  ⟨h.below.trans (hb.mono h.below.size), heap_later h.h0 hb, heap_later h.h1 hb, heap_later h.h2 hb, h.no⟩
theorem SR.start (s : ByteArray) (w : World) : SR s w (((w.alloc (.cells (stepC zeroS) 24)).alloc (.cells ((pieces s).map Value.string).toArray 9)).alloc formO) 0 := by
  have s1 : ∀ (w : World) (o : Obj), (w.alloc o).heap.size = w.heap.size + 1 := fun w o => by show (w.heap.push o).size = _; simp
  refine ⟨al (al (al (Below.refl _ _) _) _) _, heap_alloc' (heap_alloc' (heap_new _ _)), heap_alloc' ?_, ?_, fun _ _ => Nat.zero_le _⟩
  · have h := heap_new (w.alloc (.cells (stepC zeroS) 24)) (.cells ((pieces s).map Value.string).toArray 9)
    rw [s1] at h; exact h
  · have h := heap_new ((w.alloc (.cells (stepC zeroS) 24)).alloc (.cells ((pieces s).map Value.string).toArray 9)) formO
    rw [s1, s1] at h; exact h

theorem Split_any (s : ByteArray) (hs : s.size ≤ 4294967280) (w : World) (hE : Env w) :
    Calls Tryd.prog 19 #[.string s, .string ⟨#[32]⟩] w fun e w' => e = .returned (.slice (some ⟨w.heap.size, 0, none⟩) (pieces s).length (pieces s).length) ∧ w' = w.alloc (.cells ((pieces s).map Value.string).toArray 9) := by
  obtain ⟨m, hm⟩ := hE.maxl
  rw [pieces_length]
  exact Tryd.strings_Split s ⟨#[32]⟩ m w (by omega) hm (by decide)

set_option maxRecDepth 100000 in
set_option maxHeartbeats 2000000 in
theorem Step_any (s : ByteArray) (hs : s.size ≤ 4294967280) (w : World) (hE : Env w) : Calls Tryd.prog 11 #[.string s] w (StepP s w) := by
  go_enter Tryd.func11, Tryd.ntmps11
  go_wp2_with fail
  refine (Split_any s hs _ (hE.below (al (Below.refl _ _) _))).mono ?_
  rintro e w' ⟨rfl, rfl⟩
  go_wp2_with fail
  refine (forms_any _).mono ?_
  rintro e w' ⟨rfl, rfl⟩
  go_wp2_with fail
  go_loopw [13] (fun i wr => ∃ (k : Nat), k ≤ 12 ∧ i = .int .i64 k ∧ SR s w wr k) (fun i _ => 12 - (intOf i).toNat)
  case atStart => exact ⟨0, by omega, rfl, SR.start s w⟩
  case round =>
    obtain ⟨k, hk, rfl, hR⟩ := hrel
    by_cases hlt : k < 12
    · obtain ⟨f1, f2, f3⟩ := formC_at k hlt
      have s3 := Tl.sizeOf_range k
      have g0 : wr.cell? ⟨w.heap.size + 2, k * 3, none⟩ = some (.string (str (Tl.wordOf k))) := cell_atL hR.h2 f1
      have g1 : wr.cell? ⟨w.heap.size + 2, k * 3 + 1, none⟩ = some (.int .i64 (Tl.sizeOf k)) := cell_atL hR.h2 f2
      have g2 : wr.cell? ⟨w.heap.size + 2, k * 3 + 2, none⟩ = some (.bool (Tl.scalOf k)) := cell_atL hR.h2 f3
      obtain ⟨wd, hwd⟩ : ∃ wd, wd = str (Tl.wordOf k) := ⟨_, rfl⟩
      obtain ⟨n, hn⟩ : ∃ n, n = Tl.sizeOf k := ⟨_, rfl⟩
      obtain ⟨sc, hsc⟩ : ∃ n, n = Tl.scalOf k := ⟨_, rfl⟩
      rw [← hwd] at g0; rw [← hn] at g1 s3; rw [← hsc] at g2
      have HN := Lib.hid (And.intro hwd (And.intro hn hsc))
      have hz := lt_of_heap hR.h2
      clear f1 f2 f3 hwd hn hsc
      have HR := Lib.hid hR
      clear hR
      have hb0 : Below wr.heap.size wr (wr.alloc (.cells #[.string wd, .int .i64 n, .bool sc] 45)) := al (Below.refl _ _) _
      have hcs : ∀ (j : Nat) t, (pieces s)[j]? = some t → (wr.alloc (.cells #[.string wd, .int .i64 n, .bool sc] 45)).cell? ⟨w.heap.size + 1, j, none⟩ = some (.string t) ∧ t.size ≤ 4294967296 := fun j t ht =>
        ⟨cell_atL (heap_later HR.out.h1 hb0) (by rw [List.getElem?_map, ht]; rfl), by have := pieces_size s j t ht; omega⟩
      have hE1 := (hE.below HR.out.below).below hb0
      have hrd := read_any (w.heap.size + 1) (pieces s) k hlt wd n s3 sc _ hE1 (fun e => by have := pieces_length s; rw [e] at this; simp at this) (pieces_len_le s hs) hcs
      have HC := Lib.hid hcs
      have HRD := Lib.hid hrd
      have Hb0 := Lib.hid hb0
      clear hcs hrd hb0
      go_wp2_with fail
      refine HRD.out.mono ?_
      rintro e w1 ⟨y, b, rfl, hy, hyb, hym, hb1⟩
      have hR1 := (HR.out.later Hb0.out).later hb1
      have q := heap_later (heap_new wr (.cells #[.string wd, .int .i64 n, .bool sc] 45)) hb1
      have c0 : w1.cell? ⟨wr.heap.size, 0, none⟩ = some (.string wd) := cell_at q rfl
      have c1 : w1.cell? ⟨wr.heap.size, 1, none⟩ = some (.int .i64 n) := cell_at q rfl
      have c2 : w1.cell? ⟨wr.heap.size, 2, none⟩ = some (.bool sc) := cell_at q rfl
      have hz1 := lt_of_heap q
      have hbx : Below w1.heap.size w1 (w1.alloc (.cells (stepC y) 24)) := al (Below.refl _ _) _
      have hR2 := hR1.later hbx
      have hE2 := (hE.below hR1.below).below hbx
      have HR2 := Lib.hid hR2
      have HY := Lib.hid (And.intro hyb hym)
      clear g0 g1 g2 q hR1 hbx hR2 hyb hym hb1 HRD hE1
      unfold stepC
      cases b with
      | false =>
        have hno : ∀ x, Tl.Is x s.data.toList → k + 1 ≤ (x.kind - 1).toNat := fun x hx => by
          have h1 := HR.out.no x hx
          by_cases e : (x.kind - 1).toNat = k
          · have h2 := is_pieces hx
            rw [e, ← HN.out.1, ← HN.out.2.1, ← HN.out.2.2] at h2
            exact absurd (HY.out.2 x h2).1 (by decide)
          · omega
        have HNO := Lib.hid hno
        clear hno
        go_wp2
        go_roundw
        case rel => exact ⟨k + 1, by omega, by go_num, HR2.out.below, HR2.out.h0, HR2.out.h1, HR2.out.h2, HNO.out⟩
        case measure => simp [intOf]; omega
      | true =>
        go_wp2_with fail
        refine (words_any y hy wd n s3.1 s3.2 sc _ hE2).mono ?_
        rintro e w2 ⟨v, rfl, hown, hb2⟩
        have hR3 := HR2.out.later hb2
        have HB2 := Lib.hid hb2
        have HR3 := Lib.hid hR3
        have HO := Lib.hid hown
        have hz2 := hb2.size
        clear hown hR3 hb2 c0 c1 c2
        go_wp2_with fail
        have hlen := Tl.line_len y hy k
        have hd := wordsB_data y k
        rw [← HN.out.1, ← HN.out.2.1, ← HN.out.2.2] at hd
        refine (Join_own _ (wordsB_len _ _ _ _).2 _ _ _ HO.out (wordsB_len _ _ _ _).1 (by rw [hd]; unfold Tl.lineAt at hlen; omega)).mono ?_
        rintro e w3 ⟨rfl, hb3⟩
        rw [hd]
        have hR4 := HR3.out.later hb3
        have q := heap_later (heap_later (heap_new w1 (.cells (stepC y) 24)) HB2.out) hb3
        have d0 : w3.cell? ⟨w1.heap.size, 0, none⟩ = some (.int .i64 y.kind) := cell_at q rfl
        have d1 : w3.cell? ⟨w1.heap.size, 1, none⟩ = some (.int .i64 y.a) := cell_at q rfl
        have d2 : w3.cell? ⟨w1.heap.size, 2, none⟩ = some (.int .i64 y.b) := cell_at q rfl
        have d3 : w3.cell? ⟨w1.heap.size, 3, none⟩ = some (.int .i64 y.c) := cell_at q rfl
        have d4 : w3.cell? ⟨w1.heap.size, 4, none⟩ = some (.int .u64 y.v) := cell_at q rfl
        have hfit : Tl.fitsB y k = true := by unfold Tl.fitsB; rw [← HN.out.2.1, ← HN.out.2.2]; exact (HY.out.1 (by first | rfl | trivial)).2
        have hkd := (HY.out.1 (by first | rfl | trivial)).1
        have hok : Tl.okB y = true := by
          unfold Tl.okB
          rw [hkd, show ((k : Int) + 1 - 1).toNat = k by omega, hfit]
          simp; omega
        have hkk : (y.kind - 1).toNat = k := by omega
        obtain ⟨t, ht⟩ : ∃ t, t = str (join (Tl.wordsL y k) [32]) := ⟨_, rfl⟩
        rw [← ht]
        have HR4 := Lib.hid hR4
        have HT := Lib.hid ht
        have HK := Lib.hid (And.intro hok hkk)
        clear hlen hd q hfit hkd hok hkk hb3 ht
        by_cases hts : t = s
        · have e1 : (t.toList == s.toList) = true := by rw [hts]; exact str_eq s
          have hIs : Tl.Is y s.data.toList := ⟨hy, HK.out.1, by rw [HK.out.2, ← hts, HT.out]; rfl⟩
          have q1 := hR4.h0
          have f0 : w3.cell? ⟨w.heap.size, 0, none⟩ = some (.int .i64 0) := cell_at q1 rfl
          have f1 : w3.cell? ⟨w.heap.size, 1, none⟩ = some (.int .i64 0) := cell_at q1 rfl
          have f2 : w3.cell? ⟨w.heap.size, 2, none⟩ = some (.int .i64 0) := cell_at q1 rfl
          have f3 : w3.cell? ⟨w.heap.size, 3, none⟩ = some (.int .i64 0) := cell_at q1 rfl
          have f4 : w3.cell? ⟨w.heap.size, 4, none⟩ = some (.int .u64 0) := cell_at q1 rfl
          have g0 := fun i => frozen_at (i := i) q1
          have HIs := Lib.hid hIs
          have HTS := Lib.hid hts
          clear hR4 q1 hIs hts
          go_wp2
          refine bodyPost_ret (v := .tuple #[.agg (stepC y), .int .i64 0]) (by simp [results, Tryd.results11, go_sem, stepC, *]) rfl ?_
          have hb := HR4.out.below
          refine ⟨fun x hx => by rw [hx.inj HIs.out], fun h => absurd ⟨y, HIs.out⟩ h, ?_⟩
          (repeat (first | (with_reducible exact Below.refl _ _) | (with_reducible assumption) | (with_reducible refine al ?_ _) | (with_reducible refine below_drewN ?_ _) | (with_reducible refine Below.drew ?_) | (with_reducible refine Go.Proofs.YtjhmeccdbcblbaaDoor.sc ?_ ?_ _; (first | exact Nat.le_refl _ | exact Nat.le_add_right _ _ | (simp only [Nat.add_assoc]; exact Nat.le_add_right _ _)))))
        · have e1 := str_ne hts
          have hno : ∀ x, Tl.Is x s.data.toList → k + 1 ≤ (x.kind - 1).toNat := fun x hx => by
            have h1 := HR.out.no x hx
            by_cases e : (x.kind - 1).toNat = k
            · have h2 := is_pieces hx
              rw [e, ← HN.out.1, ← HN.out.2.1, ← HN.out.2.2] at h2
              have h3 := (HY.out.2 x h2).2
              subst h3
              refine absurd ?_ hts
              have h4 := hx.2.2
              rw [e] at h4
              rw [HT.out, ← Lib.mk_data s, ← h4]
              rfl
            · omega
          have HNO := Lib.hid hno
          have HTS := Lib.hid hts
          clear hno hR4 d0 d1 d2 d3 d4 hts
          go_wp2
          go_roundw
          case rel => exact ⟨k + 1, by omega, by go_num, HR4.out.below, HR4.out.h0, HR4.out.h1, HR4.out.h2, HNO.out⟩
          case measure => simp [intOf]; omega
    · have hk12 : k = 12 := by omega
      subst hk12
      have q1 := hR.h0
      have f0 : wr.cell? ⟨w.heap.size, 0, none⟩ = some (.int .i64 0) := cell_at q1 rfl
      have f1 : wr.cell? ⟨w.heap.size, 1, none⟩ = some (.int .i64 0) := cell_at q1 rfl
      have f2 : wr.cell? ⟨w.heap.size, 2, none⟩ = some (.int .i64 0) := cell_at q1 rfl
      have f3 : wr.cell? ⟨w.heap.size, 3, none⟩ = some (.int .i64 0) := cell_at q1 rfl
      have f4 : wr.cell? ⟨w.heap.size, 4, none⟩ = some (.int .u64 0) := cell_at q1 rfl
      have g0 := fun i => frozen_at (i := i) q1
      have HR := Lib.hid hR
      clear q1 hR
      go_wp2
      refine bodyPost_ret (v := .tuple #[.agg (stepC zeroS), .int .i64 9]) (by simp [results, Tryd.results11, go_sem, stepC, zeroS, *]) rfl ?_
      have hb := HR.out.below
      refine ⟨fun x hx => ?_, fun _ => rfl, ?_⟩
      · have h1 := HR.out.no x hx
        have h2 := (Tl.okB_kind hx.2.1).1
        omega
      · (repeat (first | (with_reducible exact Below.refl _ _) | (with_reducible assumption) | (with_reducible refine al ?_ _) | (with_reducible refine below_drewN ?_ _) | (with_reducible refine Below.drew ?_) | (with_reducible refine Go.Proofs.YtjhmeccdbcblbaaDoor.sc ?_ ?_ _; (first | exact Nat.le_refl _ | exact Nat.le_add_right _ _ | (simp only [Nat.add_assoc]; exact Nat.le_add_right _ _)))))
end Go.Proofs.YtjhmeccdbcblbaaDoor
