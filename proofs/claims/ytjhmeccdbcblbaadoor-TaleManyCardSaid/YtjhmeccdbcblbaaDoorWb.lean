/- The walks of package tale's words: an entry's words by a form, joined. -/
import Derived.Test.YtjhmeccdbcblbaaDoorWa
set_option linter.unusedSimpArgs false
set_option linter.unusedVariables false
namespace Go.Proofs.YtjhmeccdbcblbaaDoor
open Go.RowKit Go.Sort
open Go.Lib (itoa decDigits join)

theorem cell_at {w : World} {b : Nat} {cs : Array Value} {T : TypeId} {i : Nat} {v : Value} (h : w.heap[b]? = some (.cells cs T (0, 0))) (hv : cs[i]? = some v) : w.cell? ⟨b, i, none⟩ = some v := by
  simp [World.cell?, h, hv]
theorem frozen_at {w : World} {b : Nat} {cs : Array Value} {T : TypeId} {i : Nat} (h : w.heap[b]? = some (.cells cs T (0, 0))) : w.frozen? ⟨b, i, none⟩ = false := by
  simp [World.frozen?, h]
theorem lt_of_heap {w : World} {b : Nat} {o : Obj} (h : w.heap[b]? = some o) : b < w.heap.size := (Array.getElem?_eq_some_iff.1 h).1
theorem heap_later {w w1 : World} {b : Nat} {o : Obj} (h : w.heap[b]? = some o) (hb : Below w.heap.size w w1) : w1.heap[b]? = some o := by
  rw [hb.block b (lt_of_heap h)]; exact h
theorem heap_alloc' {w : World} {b : Nat} {o o' : Obj} (h : w.heap[b]? = some o) : (w.alloc o').heap[b]? = some o := by
  rw [Below.heap_alloc _ _ _ (lt_of_heap h)]; exact h
theorem own_later {w w1 : World} {base : Nat} {e : TypeId} {size : Nat} {v : Value} {n : Nat} {xs : List Value} (h : w.ownsRow base e size v n xs) (hb : Below w.heap.size w w1) : w1.ownsRow base e size v n xs := by
  obtain ⟨h1, h2⟩ := h
  refine ⟨h1, ?_⟩
  rcases h2 with h2 | ⟨g, cap, cur, hv, hg, hh, r⟩
  · exact .inl h2
  · exact .inr ⟨g, cap, cur, hv, hg, heap_later hh hb, r⟩

/-- what an append leaves of a block of another type -/
theorem heap_grown {w w1 : World} {b base n : Nat} {e T : TypeId} {v : Value} {xs : List Value} {cs : Array Value} (hT : T ≠ e) (h : w.heap[b]? = some (.cells cs T (0, 0)))
    (ho : w.ownsRow base e 1 v n xs) (hg : w.grownBy w1 v.ownBlock) : w1.heap[b]? = some (.cells cs T (0, 0)) := by
  rw [hg.block b (lt_of_heap h) ?_]; exact h
  intro hb
  obtain ⟨-, h2⟩ := ho
  rcases h2 with ⟨rfl, -⟩ | ⟨g, cap, cur, rfl, hg', hh, r⟩
  · simp [Value.ownBlock] at hb
  · simp [Value.ownBlock] at hb
    subst hb
    rw [h] at hh
    simp at hh
    exact hT hh.2
theorem below_grown {a w w1 : World} {n : Nat} {e : TypeId} {v : Value} {xs : List Value} (h : Below a.heap.size a w) (ho : w.ownsRow a.heap.size e 1 v n xs) (hg : w.grownBy w1 v.ownBlock) : Below a.heap.size a w1 := by
  refine h.grown hg h.size (fun k hk => ?_)
  obtain ⟨-, h2⟩ := ho
  rcases h2 with ⟨rfl, -⟩ | ⟨g, cap, cur, rfl, hg', hh, r⟩
  · simp [Value.ownBlock] at hk
  · simp [Value.ownBlock] at hk; omega

theorem Itoa_any (n : Int) (h0 : -9223372036854775808 ≤ n) (h1 : n ≤ 9223372036854775807) (w : World) (hE : Env w) :
    Calls Tryd.prog 26 #[.int .i64 n] w fun e w' => e = .returned (.string ⟨(itoa n).toArray⟩) ∧ Below w.heap.size w w' :=
  (Tryd.strconv_Itoa n h0 h1 w hE.tab).mono fun _ _ ⟨he, k, os, hw⟩ => ⟨he, hw ▸ below_grow k os⟩

set_option maxHeartbeats 400000 in
theorem FormatUint_any (u : Nat) (hu : u < 18446744073709551616) (w : World) (hE : Env w) :
    Calls Tryd.prog 27 #[.int .u64 u, .int .i64 10] w fun e w' => e = .returned (.string ⟨(decDigits u).toArray⟩) ∧ Below w.heap.size w w' := by
  have H := fun w (h : Env w) => iFormatUint_any u hu w h.tab
  have HH := Lib.hid H
  clear H
  go_enter Tryd.func27, Tryd.ntmps27
  go_wp2_with (go_at_call 38; refine (HH.out _ hE).mono ?_; rintro e w' ⟨rfl, hb⟩)
  go_ret
  exact ⟨rfl, hb⟩

def str (l : List UInt8) : ByteArray := ⟨l.toArray⟩
/-- the first words -/
def partB (wd : ByteArray) (x : Tl.Stp) (k : Nat) : List ByteArray := wd :: ((Tl.nums x).take k).map (fun n => str (itoa n))
def wordsB (wd : ByteArray) (x : Tl.Stp) (n : Nat) (sc : Bool) : List ByteArray := partB wd x n ++ if sc then [str (decDigits x.v)] else []
theorem part_succ (wd : ByteArray) (x : Tl.Stp) (k : Nat) (hk : k < 3) : partB wd x (k + 1) = partB wd x k ++ [str (itoa ((Tl.nums x).getD k 0))] := by
  unfold partB Tl.nums
  obtain rfl | rfl | rfl : k = 0 ∨ k = 1 ∨ k = 2 := by omega
  all_goals rfl

def stepC (x : Tl.Stp) : Array Value := #[.int .i64 x.kind, .int .i64 x.a, .int .i64 x.b, .int .i64 x.c, .int .u64 x.v]
def numsC (x : Tl.Stp) : Array Value := #[.int .i64 x.a, .int .i64 x.b, .int .i64 x.c]
theorem numsC_at (x : Tl.Stp) (k : Nat) (hk : k < 3) : (numsC x)[k]? = some (.int .i64 ((Tl.nums x).getD k 0)) := by
  unfold numsC Tl.nums
  obtain rfl | rfl | rfl : k = 0 ∨ k = 1 ∨ k = 2 := by omega
  all_goals rfl
theorem nums_range (x : Tl.Stp) (hx : x.ok) (k : Nat) : -9223372036854775808 ≤ (Tl.nums x).getD k 0 ∧ (Tl.nums x).getD k 0 ≤ 9223372036854775807 := by
  obtain ⟨h1, h2, h3, -⟩ := hx
  unfold Tl.nums
  match k with
  | 0 => exact h1
  | 1 => exact h2
  | 2 => exact h3
  | k + 3 => exact ⟨by simp, by simp⟩

/-- what words' loop keeps -/
structure WR (w wr : World) (wd : ByteArray) (x : Tl.Stp) (n : Nat) (sc : Bool) (k : Nat) (v : Value) : Prop where
  own : wr.ownsRow w.heap.size 9 1 v (k + 1) ((partB wd x k).map Value.string)
  below : Below w.heap.size w wr
  hs : wr.heap[w.heap.size]? = some (.cells (stepC x) 24 (0, 0))
  hf : wr.heap[w.heap.size + 1]? = some (.cells #[.string wd, .int .i64 n, .bool sc] 45 (0, 0))
  hn : wr.heap[w.heap.size + 3]? = some (.cells (numsC x) 3 (0, 0))

theorem WR.later {w wr w1 : World} {wd : ByteArray} {x : Tl.Stp} {n : Nat} {sc : Bool} {k : Nat} {v : Value} (h : WR w wr wd x n sc k v) (hb : Below wr.heap.size wr w1) : WR w w1 wd x n sc k v :=
  ⟨own_later h.own hb, h.below.trans (hb.mono h.below.size), heap_later h.hs hb, heap_later h.hf hb, heap_later h.hn hb⟩

theorem Tryd.info9 : (Tryd.prog.info? 9).map (fun i => (i.zero, i.size, i.bytes)) = some (some (.string ⟨#[]⟩), 1, 16) := by kernel_rfl

def OwnStrs (w : World) (L : List ByteArray) (e : Ending) (w' : World) : Prop :=
  ∃ v, e = .returned v ∧ w'.ownsRow w.heap.size 9 1 v L.length (L.map Value.string) ∧ Below w.heap.size w w'

theorem partB_length (wd : ByteArray) (x : Tl.Stp) (k : Nat) (hk : k ≤ 3) : (partB wd x k).length = k + 1 := by
  unfold partB Tl.nums; simp; omega

theorem WR.step {w wr w2 : World} {wd : ByteArray} {x : Tl.Stp} {n : Nat} {sc : Bool} {k : Nat} {v v' : Value} {o : Obj} (h : WR w wr wd x n sc k v) (hk : k < 3)
    (ho : w2.ownsRow w.heap.size 9 1 v' (k + 1 + 1) ((partB wd x k).map Value.string ++ [.string (str (itoa ((Tl.nums x).getD k 0)))])) (hg : (wr.alloc o).grownBy w2 v.ownBlock) : WR w w2 wd x n sc (k + 1) v' := by
  have h0 : (wr.alloc o).ownsRow w.heap.size 9 1 v (k + 1) ((partB wd x k).map Value.string) := h.own.alloc _
  refine ⟨?_, below_grown (al h.below _) h0 hg, heap_grown (by decide) (heap_alloc' h.hs) h0 hg, heap_grown (by decide) (heap_alloc' h.hf) h0 hg, heap_grown (by decide) (heap_alloc' h.hn) h0 hg⟩
  rw [part_succ wd x k hk, List.map_append]
  exact ho

theorem WR.start (w : World) (wd : ByteArray) (x : Tl.Stp) (n : Nat) (sc : Bool) :
    WR w ((((w.alloc (.cells (stepC x) 24)).alloc (.cells #[.string wd, .int .i64 n, .bool sc] 45)).alloc (.cells #[.string wd] 9)).alloc (.cells (numsC x) 3)) wd x n sc 0 (.slice (some ⟨w.heap.size + 1 + 1, 0, none⟩) 1 1) := by
  have e0 : ∀ (w : World) (o : Obj), (w.alloc o).heap[w.heap.size]? = some o := fun w o => by show (w.heap.push o)[w.heap.size]? = some o; simp
  have s1 : ∀ (w : World) (o : Obj), (w.alloc o).heap.size = w.heap.size + 1 := fun w o => by show (w.heap.push o).size = _; simp
  refine ⟨?_, al (al (al (al (Below.refl _ _) _) _) _) _, ?_, ?_, ?_⟩
  · refine ⟨rfl, .inr ⟨w.heap.size + 1 + 1, 1, #[.string wd], rfl, by omega, ?_, by omega, by unfold maxLen; omega, rfl, rfl⟩⟩
    refine heap_alloc' ?_
    have h := e0 ((w.alloc (.cells (stepC x) 24)).alloc (.cells #[.string wd, .int .i64 n, .bool sc] 45)) (.cells #[.string wd] 9)
    rw [s1, s1] at h; exact h
  · exact heap_alloc' (heap_alloc' (heap_alloc' (e0 _ _)))
  · refine heap_alloc' (heap_alloc' ?_)
    have h := e0 (w.alloc (.cells (stepC x) 24)) (.cells #[.string wd, .int .i64 n, .bool sc] 45)
    rw [s1] at h; exact h
  · have h := e0 (((w.alloc (.cells (stepC x) 24)).alloc (.cells #[.string wd, .int .i64 n, .bool sc] 45)).alloc (.cells #[.string wd] 9)) (.cells (numsC x) 3)
    rw [s1, s1, s1] at h; exact h

set_option maxRecDepth 100000 in
set_option maxHeartbeats 1000000 in
theorem words_any (x : Tl.Stp) (hx : x.ok) (wd : ByteArray) (n : Nat) (hn : 1 ≤ n) (hn3 : n ≤ 3) (sc : Bool) (w : World) (hE : Env w) :
    Calls Tryd.prog 16 #[.agg #[.int .i64 x.kind, .int .i64 x.a, .int .i64 x.b, .int .i64 x.c, .int .u64 x.v], .agg #[.string wd, .int .i64 n, .bool sc]] w (OwnStrs w (wordsB wd x n sc)) := by
  obtain ⟨i0, hi, hz0, hz1, hz2⟩ := info_parts Tryd.info9
  go_enter Tryd.func16, Tryd.ntmps16
  go_wp2
  go_loopw [5, 22] (fun v i wr => ∃ k : Nat, k ≤ n ∧ i = .int .i64 k ∧ WR w wr wd x n sc k v) (fun _ i _ => n - (intOf i).toNat)
  case atStart =>
    exact ⟨0, by omega, rfl, WR.start w wd x n sc⟩
  case round =>
    obtain ⟨k, hk, rfl, hW⟩ := hrel
    by_cases hlt : k < n
    · have hck := cell_at hW.hn (numsC_at x k (by omega))
      have hr := nums_range x hx k
      have hEr := hE.below hW.below
      generalize hm : (Tl.nums x).getD k 0 = m at hck hr
      have HM := Lib.hid hm
      clear hm
      go_wp2_with fail
      refine (Itoa_any _ hr.1 hr.2 _ hEr).mono ?_
      rintro e w1 ⟨rfl, hb1⟩
      have hW1 := hW.later hb1
      have HW := Lib.hid hW
      have Hb1 := Lib.hid hb1
      clear hb1 hW hck hEr
      go_wp2_with (at_builtin; refine wpList_append_own _ rfl _ _ 47 rfl w.heap.size 9 i0 (.string ⟨#[]⟩) 1 16 Tryd.underlying47 hi hz0 hz1 hz2 rfl (by decide) _ _ _ rfl (hW1.own.alloc _) ⟨w1.heap.size, 0, none⟩ 1 1 [.string (str (itoa m))] rfl rfl ?c1 ?c2 ?c3 ?c4 ?c5 ?_)
      case c1 => exact cell_one_new _ _ _
      case c2 => intro u hu; simp at hu; subst hu; rfl
      case c3 => unfold maxLen; omega
      case c4 => omega
      case c5 => have := hW1.below.size; simp; omega
      intro v' w2 ho hg _
      have hW2 := hW1.step (by omega) (by rw [HM.out]; exact ho) hg
      have HW2 := Lib.hid hW2
      clear hW2 hg ho hW1
      go_wp2
      go_roundw
      case rel => exact ⟨k + 1, by omega, by go_num, HW2.out⟩
      case measure => simp [intOf]; omega
    · have hkn : k = n := by omega
      subst hkn
      have hsc := cell_at (i := 2) hW.hf rfl
      have hv := cell_at (i := 4) hW.hs rfl
      have hEr := hE.below hW.below
      have HW := Lib.hid hW
      clear hW
      cases sc with
      | true =>
        go_wp2_with fail
        refine (FormatUint_any _ hx.2.2.2 _ hEr).mono ?_
        rintro e w1 ⟨rfl, hb1⟩
        have hW1 := HW.out.later hb1
        clear hb1 hsc hv hEr
        go_wp2_with (at_builtin; refine wpList_append_own _ rfl _ _ 47 rfl w.heap.size 9 i0 (.string ⟨#[]⟩) 1 16 Tryd.underlying47 hi hz0 hz1 hz2 rfl (by decide) _ _ _ rfl (hW1.own.alloc _) ⟨w1.heap.size, 0, none⟩ 1 1 [.string (str (decDigits x.v))] rfl rfl ?d1 ?d2 ?d3 ?d4 ?d5 ?_)
        case d1 => exact cell_one_new _ _ _
        case d2 => intro u hu; simp at hu; subst hu; rfl
        case d3 => unfold maxLen; omega
        case d4 => omega
        case d5 => have := hW1.below.size; simp; omega
        intro v' w2 ho hg _
        have hb2 := below_grown (al hW1.below _) (hW1.own.alloc _) hg
        have HO := Lib.hid ho
        have HB := Lib.hid hb2
        clear hb2 hg ho hW1
        go_wp2
        go_ret
        refine ⟨v', rfl, ?_, HB.out⟩
        have h := HO.out
        rw [wordsB, if_pos rfl, List.map_append, List.length_append, partB_length _ _ _ hn3]
        exact h
      | false =>
        go_wp2
        go_ret
        refine ⟨_, rfl, ?_, HW.out.below⟩
        rw [wordsB, if_neg (by decide), List.append_nil, partB_length _ _ _ hn3]
        exact HW.out.own
end Go.Proofs.YtjhmeccdbcblbaaDoor
