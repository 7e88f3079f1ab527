/- The walk of the law's own 'line'. -/
import Derived.Test.YtjhmeccdbcblbaaDoorWg
set_option linter.unusedSimpArgs false
set_option linter.unusedVariables false
namespace Go.Proofs.YtjhmeccdbcblbaaDoor
open Go.RowKit Go.Sort
open Go.Lib (itoa decDigits join)

def wordC : List Value := [.string ⟨#[]⟩, .string ⟨#[109, 97, 107, 101]⟩, .string ⟨#[103, 101, 116]⟩, .string ⟨#[115, 101, 116]⟩, .string ⟨#[114, 101, 97, 100]⟩, .string ⟨#[119, 114, 105, 116, 101]⟩, .string ⟨#[99, 108, 101, 97, 114]⟩,
  .string ⟨#[99, 111, 112, 121]⟩, .string ⟨#[115, 97, 109, 101]⟩, .string ⟨#[110, 105, 108]⟩, .string ⟨#[115, 104, 97, 112, 101]⟩, .string ⟨#[105, 100, 108, 101]⟩, .string ⟨#[102, 111, 114, 99, 101]⟩]
def manyC : List Value := [.int .i64 0, .int .i64 3, .int .i64 3, .int .i64 3, .int .i64 2, .int .i64 2, .int .i64 1, .int .i64 2, .int .i64 2, .int .i64 1, .int .i64 1, .int .i64 2, .int .i64 1]
theorem wordC_at : ∀ k : Nat, k < 12 → wordC[k + 1]? = some (.string (str (Tl.wordOf k))) ∧ manyC[k + 1]? = some (.int .i64 (Tl.sizeOf k)) := by
  intro k hk
  match k, hk with
  | 0, _ => exact ⟨rfl, rfl⟩
  | 1, _ => exact ⟨rfl, rfl⟩
  | 2, _ => exact ⟨rfl, rfl⟩
  | 3, _ => exact ⟨rfl, rfl⟩
  | 4, _ => exact ⟨rfl, rfl⟩
  | 5, _ => exact ⟨rfl, rfl⟩
  | 6, _ => exact ⟨rfl, rfl⟩
  | 7, _ => exact ⟨rfl, rfl⟩
  | 8, _ => exact ⟨rfl, rfl⟩
  | 9, _ => exact ⟨rfl, rfl⟩
  | 10, _ => exact ⟨rfl, rfl⟩
  | 11, _ => exact ⟨rfl, rfl⟩
  | k + 12, hk => omega

/-- what the law's line answers -/
def LawQ (x : Tl.Stp) (w : World) (e : Ending) (w' : World) : Prop :=
  (Tl.okB x = true → e = .returned (.tuple #[.string (str (Tl.lineAt x (x.kind - 1).toNat)), .bool true])) ∧ (Tl.okB x = false → e = .returned (.tuple #[.string ⟨#[]⟩, .bool false])) ∧ Below w.heap.size w w'

theorem okB_out {x : Tl.Stp} (h : x.kind < 1 ∨ 12 < x.kind) : Tl.okB x = false := by
  cases hk : Tl.okB x with
  | false => rfl
  | true => have := Tl.okB_kind hk; omega
theorem okB_in {x : Tl.Stp} {k : Nat} (hk : k < 12) (h : x.kind = k + 1) : Tl.okB x = Tl.fitsB x k := by
  unfold Tl.okB
  rw [h, show ((k : Int) + 1 - 1).toNat = k by omega]
  have e1 : decide (1 ≤ (k : Int) + 1) = true := by simp; omega
  have e2 : decide ((k : Int) + 1 ≤ 12) = true := by simp; omega
  rw [e1, e2]; simp

set_option maxRecDepth 100000 in
set_option maxHeartbeats 1000000 in
theorem lline_out (x : Tl.Stp) (w : World) (h : x.kind < 1 ∨ 12 < x.kind) :
    Calls Tryd.prog 9 #[.agg #[.int .i64 x.kind, .int .i64 x.a, .int .i64 x.b, .int .i64 x.c, .int .u64 x.v]] w (LawQ x w) := by
  have HO := Lib.hid (okB_out h)
  by_cases h1 : x.kind < 1
  · clear h
    go_enter Tryd.func9, Tryd.ntmps9
    go_wp2
    go_ret2
    exact ⟨fun h => absurd (HO.out.symm.trans h) (by decide), fun _ => rfl, al (al (al (Below.refl _ _) _) _) _⟩
  · have h2 : 12 < x.kind := by omega
    clear h
    go_enter Tryd.func9, Tryd.ntmps9
    go_wp2
    go_ret2
    exact ⟨fun h => absurd (HO.out.symm.trans h) (by decide), fun _ => rfl, al (al (al (Below.refl _ _) _) _) _⟩

theorem blocks3 (w : World) (a b c : Obj) :
    (((w.alloc a).alloc b).alloc c).heap[w.heap.size]? = some a ∧ (((w.alloc a).alloc b).alloc c).heap[w.heap.size + 1]? = some b ∧ (((w.alloc a).alloc b).alloc c).heap[w.heap.size + 2]? = some c ∧ Below w.heap.size w (((w.alloc a).alloc b).alloc c) := by
  have s1 : ∀ (w : World) (o : Obj), (w.alloc o).heap.size = w.heap.size + 1 := fun w o => by show (w.heap.push o).size = _; simp
  refine ⟨heap_alloc' (heap_alloc' (heap_new _ _)), heap_alloc' ?_, ?_, al (al (al (Below.refl _ _) _) _) _⟩
  · have h := heap_new (w.alloc a) b
    rw [s1] at h; exact h
  · have h := heap_new ((w.alloc a).alloc b) c
    rw [s1, s1] at h; exact h

set_option maxRecDepth 100000 in
set_option maxHeartbeats 1000000 in
theorem lline_not (x : Tl.Stp) (k : Nat) (hk : k < 12) (hkd : x.kind = k + 1) (hfit : Tl.fitsB x k = false) (w : World) :
    Calls Tryd.prog 9 #[.agg #[.int .i64 x.kind, .int .i64 x.a, .int .i64 x.b, .int .i64 x.c, .int .u64 x.v]] w (LawQ x w) := by
  have s3 := Tl.sizeOf_range k
  obtain ⟨f1, f2⟩ := wordC_at k hk
  have HF := Lib.hid (And.intro f1 f2)
  have HO := Lib.hid (okB_in hk hkd)
  obtain ⟨kd, a, b, c, v⟩ := x
  simp only at hkd
  subst hkd
  obtain ⟨wd, hwd⟩ : ∃ wd, wd = str (Tl.wordOf k) := ⟨_, rfl⟩
  have HWD := Lib.hid hwd
  rw [← hwd] at f1
  have hwl : wd.size ≤ 5 := by rw [hwd]; exact Tl.wordOf_len k
  have e1 : decide ((k : Int) + 1 < 1) = false := by simp; omega
  have e2 : decide ((12 : Int) < (k : Int) + 1) = false := by simp; omega
  have HHF := Lib.hid (And.intro f1 f2)
  clear f1 f2 hwd
  go_enter Tryd.func9, Tryd.ntmps9
  go_upto_region 3 with (fail)
  have hB := blocks3 w (.cells (stepC ⟨(k : Int) + 1, a, b, c, v⟩) 24) (.cells wordC.toArray 9) (.cells manyC.toArray 3)
  generalize hW : ((w.alloc (.cells (stepC ⟨(k : Int) + 1, a, b, c, v⟩) 24)).alloc (.cells wordC.toArray 9)).alloc (.cells manyC.toArray 3) = W at hB
  obtain ⟨q0, q1, q2, hbw⟩ := hB
  have c0 : W.cell? ⟨w.heap.size, 0, none⟩ = some (.int .i64 (k + 1)) := cell_at q0 rfl
  have c1 : W.cell? ⟨w.heap.size, 1, none⟩ = some (.int .i64 a) := cell_at q0 rfl
  have c2 : W.cell? ⟨w.heap.size, 2, none⟩ = some (.int .i64 b) := cell_at q0 rfl
  have c3 : W.cell? ⟨w.heap.size, 3, none⟩ = some (.int .i64 c) := cell_at q0 rfl
  have c4 : W.cell? ⟨w.heap.size, 4, none⟩ = some (.int .u64 v) := cell_at q0 rfl
  have g0 : W.cell? ⟨w.heap.size + 1, k + 1, none⟩ = some (.string wd) := cell_atL q1 HHF.out.1
  have g1 : W.cell? ⟨w.heap.size + 2, k + 1, none⟩ = some (.int .i64 (Tl.sizeOf k)) := cell_atL q2 HHF.out.2
  have b1 : (0 : Int) ≤ (k : Int) + 1 := by omega
  have b2 : (k : Int) + 1 < 13 := by omega
  have b3 : ((k : Int) + 1).toNat = k + 1 := by omega
  have hz := lt_of_heap q2
  have HB := Lib.hid hbw
  clear q0 q1 q2 hbw
  clear g0
  have HFit := Lib.hid hfit
  clear hfit
  obtain ⟨n, hn⟩ : ∃ n, n = Tl.sizeOf k := ⟨_, rfl⟩
  rw [← hn] at g1 s3
  have HN := Lib.hid hn
  clear hn HF HHF
  have hend : ∀ e w', e = .returned (.tuple #[.string ⟨#[]⟩, .bool false]) → Below w.heap.size w w' → LawQ ⟨(k : Int) + 1, a, b, c, v⟩ w e w' := fun e w' he hb =>
    ⟨fun h => absurd (HFit.out.symm.trans (HO.out.symm.trans h)) (by decide), fun _ => he, hb⟩
  have HE := Lib.hid hend
  clear hend
  change Code.wp _ _ _ _ (((w.alloc (.cells (stepC ⟨(k : Int) + 1, a, b, c, v⟩) 24)).alloc (.cells wordC.toArray 9)).alloc (.cells manyC.toArray 3))
  rw [hW]
  clear hW
  by_cases h4 : k = 4
  · subst h4
    obtain rfl : n = 2 := HN.out
    go_wp2_with fail
    all_goals first
      | (go_ret2; exact HE.out _ _ rfl HB.out)
      | (exfalso; have h := HFit.out; simp_all [Tl.fitsB, Tl.fitsN, Tl.sizeOf, Tl.scalOf, Tl.nums])
  · have e5 : ((k : Int) + 1 != 5) = true := by simp; omega
    have hsc : Tl.scalOf k = false := by unfold Tl.scalOf; split <;> simp_all
    have HSC := Lib.hid hsc
    clear hsc h4
    obtain rfl | rfl | rfl : n = 1 ∨ n = 2 ∨ n = 3 := by omega
    all_goals
      go_wp2_with fail
      all_goals first
        | (go_ret2; exact HE.out _ _ rfl HB.out)
        | (exfalso; have h := HFit.out; unfold Tl.fitsB at h; rw [HSC.out, ← HN.out] at h; simp_all [Tl.fitsN, Tl.nums])

end Go.Proofs.YtjhmeccdbcblbaaDoor
