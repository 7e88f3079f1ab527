/- The walk of tale.Read. -/
import Derived.Test.YtjhmeccdbcblbaaDoorWj
import Derived.Test.YtjhmeccdbcblbaaDoorWi
set_option linter.unusedSimpArgs false
set_option linter.unusedVariables false
namespace Go.Proofs.YtjhmeccdbcblbaaDoor
open Go.RowKit Go.Sort
open Go.Lib (itoa decDigits join)
attribute [local go_sem] Oper.semAt_some

set_option maxHeartbeats 400000 in
theorem Lines_any (s : ByteArray) (w : World) : Calls Tryd.prog 21 #[.string s] w fun e w' => e = .returned (.func (.func 32) #[] #[.pointer (some ⟨w.heap.size, 0, none⟩)]) ∧ w' = w.alloc (.cells #[.string s] 9) := by
  go_enter Tryd.func21, Tryd.ntmps21
  go_wp2
  go_ret
  exact ⟨rfl, rfl⟩

/-- a line without its end -/
def cut (x : ByteArray) : ByteArray := ⟨(Lib.trimSuffix x.data.toList [10]).toArray⟩
theorem Trim_any (x : ByteArray) (w : World) (hx : x.size ≤ 4294967280) : Calls Tryd.prog 22 #[.string x, .string ⟨#[10]⟩] w fun e w' => e = .returned (.string (cut x)) ∧ w = w' :=
  (Tryd.strings_TrimSuffix x ⟨#[10]⟩ w (by omega)).mono fun _ _ h => ⟨h.1, h.2.symm⟩
theorem cut_size (x : ByteArray) : (cut x).size ≤ x.size := by
  show (Lib.trimSuffix x.data.toList [10]).length ≤ x.size
  unfold Lib.trimSuffix
  rw [Lib.size_eq x]
  split
  · simp
  · exact Nat.le_refl _

/-- the entries of these lines -/
inductive Are : List Tl.Stp → List ByteArray → Prop
  | nil : Are [] []
  | snoc {xs : List Tl.Stp} {ls : List ByteArray} (h : Are xs ls) {x : Tl.Stp} {l : ByteArray} (hx : Tl.Is x (cut l).data.toList) : Are (xs ++ [x]) (ls ++ [l])

theorem Are.length {xs : List Tl.Stp} {ls : List ByteArray} (h : Are xs ls) : xs.length = ls.length := by
  induction h with
  | nil => rfl
  | snoc h hx ih => simp [ih]
def rows (xs : List Tl.Stp) : List Value := (xs.map fun x => (stepC x).toList).flatten
theorem rows_snoc (xs : List Tl.Stp) (x : Tl.Stp) : rows (xs ++ [x]) = rows xs ++ (stepC x).toList := by simp [rows]

/-- what the loop of Read keeps: the lines pre have been read as xs -/
structure RI (w W : World) (xs : List Tl.Stp) (v : Value) : Prop where
  below : Below w.heap.size w W
  h0 : W.heap[w.heap.size]? = some (.cells #[.slice none 0 0] 35 (0, 0))
  h1 : W.heap[w.heap.size + 1]? = some (.cells #[.int .i64 0] 3 (0, 0))
  h2 : W.heap[w.heap.size + 2]? = some (.cells #[.int .i64 0] 25 (0, 0))
  h3 : W.heap[w.heap.size + 3]? = some (.cells #[v] 35 (0, 0))
  own : W.ownsRow (w.heap.size + 5) 24 5 v xs.length (rows xs)
  sz : w.heap.size + 5 ≤ W.heap.size

/-- what is left where a line is none -/
structure RX (w W : World) (n : Nat) : Prop where
  below : Below w.heap.size w W
  h0 : W.cell? ⟨w.heap.size, 0, none⟩ = some (.slice none 0 0)
  h1 : W.cell? ⟨w.heap.size + 1, 0, none⟩ = some (.int .i64 n)
  h2 : W.cell? ⟨w.heap.size + 2, 0, none⟩ = some (.int .i64 9)

def ReadQ (s : ByteArray) (w : World) (e : Ending) (w' : World) : Prop :=
  Below w.heap.size w w' ∧ ((∃ xs v, Are xs (lines s) ∧ e = .returned (.tuple #[v, .int .i64 0, .int .i64 0]) ∧ w'.ownsRow w.heap.size 24 5 v xs.length (rows xs)) ∨
    ∃ pre x r xs, lines s = pre ++ x :: r ∧ Are xs pre ∧ (¬ ∃ y, Tl.Is y (cut x).data.toList) ∧ e = .returned (.tuple #[.slice none 0 0, .int .i64 (pre.length + 1), .int .i64 9]))

theorem own_keep {w W W' : World} {base : Nat} {e : TypeId} {size : Nat} {v : Value} {n : Nat} {xs : List Value} (h : W.ownsRow base e size v n xs) (hk : Keep w W W') : W'.ownsRow base e size v n xs := by
  obtain ⟨h1, h2⟩ := h
  refine ⟨h1, ?_⟩
  rcases h2 with h2 | ⟨g, cap, cur, hv, hg, hh, r⟩
  · exact .inl h2
  · exact .inr ⟨g, cap, cur, hv, hg, hk.cells _ _ hh rfl, r⟩
theorem below_keep {w0 w W W' : World} (hle : w0.heap.size ≤ w.heap.size) (h : Below w0.heap.size w0 W) (hk : Keep w W W') : Below w0.heap.size w0 W' :=
  ⟨hk.os.trans h.os, hk.tape.trans h.tape, hk.output.trans h.output, Nat.le_trans h.size hk.size, fun k hk' => (hk.low k (by omega)).trans (h.block k hk')⟩
theorem RI.keep {w0 w W W' : World} {xs : List Tl.Stp} {v : Value} (hle : w0.heap.size ≤ w.heap.size) (h : RI w0 W xs v) (hk : Keep w W W') : RI w0 W' xs v :=
  ⟨below_keep hle h.below hk, hk.cells _ _ h.h0 rfl, hk.cells _ _ h.h1 rfl, hk.cells _ _ h.h2 rfl, hk.cells _ _ h.h3 rfl, own_keep h.own hk, Nat.le_trans h.sz hk.size⟩
theorem cell_keep {w W W' : World} {a : Addr} {v : Value} (h : W.cell? a = some v) (hk : Keep w W W') : W'.cell? a = some v := by
  obtain ⟨o, ho, hc⟩ := cells_of_cell h
  rw [World.cell?_of_block (w := W) ((hk.cells _ _ ho hc).trans ho.symm)]; exact h
theorem RX.keep {w0 w W W' : World} {n : Nat} (hle : w0.heap.size ≤ w.heap.size) (h : RX w0 W n) (hk : Keep w W W') : RX w0 W' n :=
  ⟨below_keep hle h.below hk, cell_keep h.h0 hk, cell_keep h.h1 hk, cell_keep h.h2 hk⟩
theorem RI.later {w0 W W' : World} {xs : List Tl.Stp} {v : Value} (h : RI w0 W xs v) (hb : Below W.heap.size W W') : RI w0 W' xs v :=
  ⟨h.below.trans (hb.mono h.below.size), heap_later h.h0 hb, heap_later h.h1 hb, heap_later h.h2 hb, heap_later h.h3 hb, own_later h.own hb, Nat.le_trans h.sz hb.size⟩
theorem RI.set {w0 W : World} {xs : List Tl.Stp} {v : Value} (h : RI w0 W xs v) (u : Value) : RI w0 (W.setCell ⟨w0.heap.size + 4, 0, none⟩ u) xs v :=
  ⟨h.below.setCell (by simp) u, by rw [Below.heap_setCell _ _ _ _ (by simp)]; exact h.h0, by rw [Below.heap_setCell _ _ _ _ (by simp)]; exact h.h1, by rw [Below.heap_setCell _ _ _ _ (by simp)]; exact h.h2,
    by rw [Below.heap_setCell _ _ _ _ (by simp)]; exact h.h3, ownsRow_setCell_below h.own (by simp) u, by have := h.sz; simpa [World.setCell] using this⟩
theorem RI.slice {w0 W : World} {xs : List Tl.Stp} {v : Value} (h : RI w0 W xs v) : ∃ a cap, v = .slice a xs.length cap := by
  obtain ⟨-, ⟨h1, h2⟩ | ⟨g, cap, cur, hv, -⟩⟩ := h.own
  · exact ⟨none, 0, by rw [h1, h2]⟩
  · exact ⟨_, _, hv⟩

theorem own_base {w : World} {base base' : Nat} {e : TypeId} {size : Nat} {v : Value} {n : Nat} {xs : List Value} (h : w.ownsRow base e size v n xs) (hb : base' ≤ base) : w.ownsRow base' e size v n xs := by
  obtain ⟨h1, h2⟩ := h
  refine ⟨h1, ?_⟩
  rcases h2 with h2 | ⟨g, cap, cur, hv, hg, r⟩
  · exact .inl h2
  · exact .inr ⟨g, cap, cur, hv, Nat.le_trans hb hg, r⟩
theorem blocks5 (w : World) (a b c d e : Obj) :
    ((((((w.alloc a).alloc b).alloc c).alloc d).alloc e)).heap[w.heap.size]? = some a ∧ ((((((w.alloc a).alloc b).alloc c).alloc d).alloc e)).heap[w.heap.size + 1]? = some b ∧ ((((((w.alloc a).alloc b).alloc c).alloc d).alloc e)).heap[w.heap.size + 2]? = some c ∧
    ((((((w.alloc a).alloc b).alloc c).alloc d).alloc e)).heap[w.heap.size + 3]? = some d ∧ ((((((w.alloc a).alloc b).alloc c).alloc d).alloc e)).heap[w.heap.size + 4]? = some e ∧ Below w.heap.size w ((((((w.alloc a).alloc b).alloc c).alloc d).alloc e)) ∧ ((((((w.alloc a).alloc b).alloc c).alloc d).alloc e)).heap.size = w.heap.size + 5 := by
  obtain ⟨h1, h2, h3, h4⟩ := blocks3 w a b c
  have s1 : ∀ (w : World) (o : Obj), (w.alloc o).heap.size = w.heap.size + 1 := fun w o => by show (w.heap.push o).size = _; simp
  refine ⟨heap_alloc' (heap_alloc' h1), heap_alloc' (heap_alloc' h2), heap_alloc' (heap_alloc' h3), heap_alloc' ?_, ?_, al (al h4 _) _, by rw [s1, s1, s1, s1, s1]⟩
  · have h := heap_new (((w.alloc a).alloc b).alloc c) d
    rw [s1, s1, s1] at h; exact h
  · have h := heap_new ((((w.alloc a).alloc b).alloc c).alloc d) e
    rw [s1, s1, s1, s1] at h; exact h

theorem Step_in (n l : Nat) (s : ByteArray) (hs : s.size ≤ 4294967280) (w : World) (hE : Env w) : CallsIn (Fence.wide.inRound l) n Tryd.prog 11 #[.string s] w (StepP s w) :=
  CallsIn.inRound l (callsIn_wide.2 (Step_any s hs w hE))
theorem Trim_in (n l : Nat) (x : ByteArray) (w : World) (hx : x.size ≤ 4294967280) : CallsIn (Fence.wide.inRound l) n Tryd.prog 22 #[.string x, .string ⟨#[10]⟩] w fun e w' => e = .returned (.string (cut x)) ∧ w = w' :=
  CallsIn.inRound l (callsIn_wide.2 (Trim_any x w hx))

theorem Tryd.info24 : (Tryd.prog.info? 24).map (fun i => (i.zero, i.size, i.bytes)) = some (some (.agg #[.int .i64 0, .int .i64 0, .int .i64 0, .int .i64 0, .int .u64 0]), 5, 40) := by kernel_rfl

theorem own_row {w : World} {base : Nat} {e : TypeId} {size : Nat} {v : Value} {n : Nat} {xs : List Value} (h : w.ownsRow base e size v n xs) {k : Nat} (hk : v.ownBlock = some k) : base ≤ k ∧ ∃ cur, w.heap[k]? = some (.cells cur e (0, 0)) := by
  obtain ⟨-, ⟨rfl, -⟩ | ⟨g, cap, cur, rfl, hg', hh, r⟩⟩ := h
  · simp [Value.ownBlock] at hk
  · simp [Value.ownBlock] at hk; subst hk; exact ⟨hg', cur, hh⟩

theorem block_grown {w w1 : World} {base : Nat} {e : TypeId} {size : Nat} {v : Value} {n : Nat} {xs : List Value} (ho : w.ownsRow base e size v n xs) (hg : w.grownBy w1 v.ownBlock) {b : Nat} (hb : b < w.heap.size) (hbb : b < base) : w1.heap[b]? = w.heap[b]? :=
  hg.block b hb (fun e => by have := (own_row ho e.symm).1; omega)

theorem others_below {w w1 : World} (h : Below w.heap.size w w1) : KeepsOthers w w1 := ⟨h.size, fun _ _ hk _ => heap_later hk h⟩
theorem others_grown {w w1 : World} {base : Nat} {e : TypeId} {size : Nat} {v : Value} {n : Nat} {xs : List Value} (ho : w.ownsRow base e size v n xs) (hg : w.grownBy w1 v.ownBlock) : KeepsOthers w w1 :=
  ⟨hg.size, fun k o hk hc => (hg.block k (lt_of_heap hk) (fun e => by
    obtain ⟨-, cur, hh⟩ := own_row ho e.symm
    rw [hk] at hh; cases hh; cases hc)).trans hk⟩

/-- what a round that goes on leaves -/
theorem RI.next {w0 W w2 w3 : World} {xs : List Tl.Stp} {v v' : Value} {y : Tl.Stp} {bs : Nat} (hbs : bs = w0.heap.size + 4) (hW : bs < W.heap.size) (h : RI w0 w2 xs v) (hb2 : Below W.heap.size W w2) (o1 o2 : Obj)
    (ho : w3.ownsRow (w0.heap.size + 5) 24 5 v' (xs.length + 1) (rows xs ++ (stepC y).toList)) (hg : ((w2.alloc o1).alloc o2).grownBy w3 v.ownBlock) :
    RI w0 (w3.setCell ⟨w0.heap.size + 3, 0, none⟩ v') (xs ++ [y]) v' ∧ KeepsOthers W (w3.setCell ⟨w0.heap.size + 3, 0, none⟩ v') ∧ (w3.setCell ⟨w0.heap.size + 3, 0, none⟩ v').heap[bs]? = W.heap[bs]? := by
  have hz2 := hb2.size
  have hz : w0.heap.size + 4 < w2.heap.size := by omega
  have hoA : ((w2.alloc o1).alloc o2).ownsRow (w0.heap.size + 5) 24 5 v xs.length (rows xs) := (h.own.alloc _).alloc _
  have hblk : ∀ b, b ≤ w0.heap.size + 4 → w3.heap[b]? = w2.heap[b]? := fun b hb => by
    rw [block_grown hoA hg (by simp; omega) (by omega), Below.heap_alloc _ _ _ (by simp; omega), Below.heap_alloc _ _ _ (by omega)]
  have hA : Below w0.heap.size w0 ((w2.alloc o1).alloc o2) := al (al h.below _) _
  have hB : Below w0.heap.size w0 w3 := hA.grown hg hA.size (fun k hk => by have := (own_row hoA hk).1; omega)
  refine ⟨⟨hB.setCell (by simp) _, ?_, ?_, ?_, ?_, ?_, ?_⟩, ?_, ?_⟩
  · rw [Below.heap_setCell _ _ _ _ (by simp), hblk _ (by omega)]; exact h.h0
  · rw [Below.heap_setCell _ _ _ _ (by simp), hblk _ (by omega)]; exact h.h1
  · rw [Below.heap_setCell _ _ _ _ (by simp), hblk _ (by omega)]; exact h.h2
  · have h3 : w3.heap[w0.heap.size + 3]? = some (.cells #[v] 35 (0, 0)) := by rw [hblk _ (by omega)]; exact h.h3
    simp only [World.setCell, Array.getElem?_modify, if_true, h3, Option.map_some]
    rfl
  · rw [rows_snoc, List.length_append]
    exact ownsRow_setCell_below ho (by simp) _
  · have h1 := hg.size
    have h2 := h.sz
    simp only [World.size_alloc] at h1
    simp only [World.setCell, Array.size_modify]; omega
  · exact (others_below hb2).trans (((KeepsOthers.alloc _ _).trans (KeepsOthers.alloc _ _)).trans ((others_grown hoA hg).trans (KeepsOthers.setCell _ _ _)))
  · rw [Below.heap_setCell _ _ _ _ (by simp; omega), hblk _ (by omega)]
    exact hb2.block _ hW

theorem cells_new (w : World) (l : List Value) (T : TypeId) (j : Nat) (u : Value) (h : l[j]? = some u) : (w.alloc (.cells l.toArray T)).cell? ((⟨w.heap.size, 0, none⟩ : Addr).add j) = some u := by
  rw [Lib.add_plain]
  refine cell_atL (heap_new _ _) ?_
  rw [Nat.zero_add]; exact h

set_option maxRecDepth 100000 in
set_option maxHeartbeats 2000000 in
theorem Read_in (s : ByteArray) (hs : s.size ≤ 65000) (w : World) (hE : Env w) : CallsIn Fence.wide 6 Tryd.prog 12 #[.string s] w (ReadQ s w) := by
  refine callsIn_of_wp_marks Tryd.func12 rfl trivial ?_ rfl
  simp only [Tryd.ntmps12, List.size_toArray, List.length_cons, List.length_nil, Nat.reduceAdd, Nat.reduceSub, Array.replicate_succ, Array.replicate_zero, List.push_toArray, List.append_toArray, List.nil_append, List.cons_append]
  gi_wp2_with (refine ⟨trivial, ?_⟩; gi_at_call 21; refine (callsIn_wide.2 (Lines_any _ _)).mono ?_; rintro e w' ⟨rfl, rfl⟩)
  obtain ⟨q0, q1, q2, q3, q4, hb, hz⟩ := blocks5 w (.cells #[.slice none 0 0] 35) (.cells #[.int .i64 0] 3) (.cells #[.int .i64 0] 25) (.cells #[.slice none 0 0] 35) (.cells #[.string s] 9)
  generalize hW : ((((((w.alloc (.cells #[.slice none 0 0] 35)).alloc (.cells #[.int .i64 0] 3)).alloc (.cells #[.int .i64 0] 25)).alloc (.cells #[.slice none 0 0] 35)).alloc (.cells #[.string s] 9))) = w1 at q0 q1 q2 q3 q4 hb hz
  have hle : w.heap.size ≤ w1.heap.size := by omega
  refine wpIn_range_lines (n := 4) (w.heap.size + 4) s (by omega) rfl q4 (fun pre W => ∃ xs v, Are xs pre ∧ RI w W xs v) (fun pre W => ∃ pre' x xs, pre = pre' ++ [x] ∧ Are xs pre' ∧ (¬ ∃ y, Tl.Is y (cut x).data.toList) ∧ RX w W (pre'.length + 1))
    (fun pre W W' ⟨xs, v, h1, h2⟩ hk => ⟨xs, v, h1, h2.keep hle hk⟩) (fun pre W W' ⟨pre', x, xs, h1, h2, h3, h4⟩ hk => ⟨pre', x, xs, h1, h2, h3, h4.keep hle hk⟩)
    (fun pre W u ⟨xs, v, h1, h2⟩ => ⟨xs, v, h1, h2.set u⟩) ⟨[], .slice none 0 0, .nil, hb, q0, q1, q2, q3, World.ownsRow_nil _ _ _ _, by omega⟩
    (fun x => { tmps := #[.string s, undef, .pointer (some ⟨w.heap.size, 0, none⟩), .pointer (some ⟨w.heap.size + 1, 0, none⟩), .pointer (some ⟨w.heap.size + 1 + 1, 0, none⟩), .pointer (some ⟨w.heap.size + 1 + 1 + 1, 0, none⟩), .string x, undef, undef,
      .string s, .func (.func 32) #[] #[.pointer (some ⟨w.heap.size + 1 + 1 + 1 + 1, 0, none⟩)], .string x, undef, undef, undef, undef, undef, undef, undef, undef, undef, undef, undef, undef, undef, undef, undef, undef, undef, undef, undef, undef], defers := [] })
    ?assign ?body ?done ?stop
  case assign =>
    intro l x W K hK
    gi_wp2
    exact hK
  case body =>
    rintro l pre x W ⟨xs, v, hA, hR⟩ hlen hx
    obtain ⟨av, cv, rfl⟩ := hR.slice
    have hAl := hA.length
    have c3 : W.cell? ⟨w.heap.size + 3, 0, none⟩ = some (.slice av xs.length cv) := cell_at hR.h3 rfl
    have e1 : decide ((65536 : Int) ≤ (xs.length : Int)) = false := by simp; omega
    have hEr := hE.below hR.below
    have HR := Lib.hid hR
    have HA := Lib.hid (And.intro hA hAl)
    clear hR hA hAl
    gi_wp2_with (refine ⟨trivial, ?_⟩; gi_at_call 22; refine (Trim_in _ l x _ (by omega)).mono ?_; rintro e w' ⟨rfl, rfl⟩)
    have hcs := cut_size x
    refine ⟨trivial, ?_⟩
    refine (Step_in _ l (cut x) (by omega) _ hEr).mono ?_
    rintro e w2 ⟨hyes, hno, hb2⟩
    have hR2 := HR.out.later hb2
    have HR2 := Lib.hid hR2
    clear hcs c3 hEr
    by_cases hex : ∃ y, Tl.Is y (cut x).data.toList
    · obtain ⟨y, hy⟩ := hex
      obtain rfl := hyes y hy
      obtain ⟨i0, hi, hz0, hz1, hz2⟩ := info_parts Tryd.info24
      have c3 : w2.cell? ⟨w.heap.size + 3, 0, none⟩ = some (.slice av xs.length cv) := cell_at hR2.h3 rfl
      have own2 := hR2.own
      have hzz : w.heap.size + 3 < w2.heap.size := lt_of_heap hR2.h3
      have hsz2 := hR2.below.size
      have HB2 := Lib.hid hb2
      have HY := Lib.hid hy
      have hxl : xs.length ≤ 65000 := by have := HA.out.2; omega
      unfold stepC
      clear hyes hno hR2 hb2 hy
      gi_wp2_with (gi_at_builtin; refine wpListIn_append_own _ rfl _ _ 35 rfl (w.heap.size + 5) 24 i0 _ 5 40 Tryd.underlying35 hi hz0 hz1 hz2 rfl (by decide) _ _ _ rfl ((own2.alloc _).alloc _) ⟨w2.heap.size + 1, 0, none⟩ 1 1 (stepC y).toList rfl rfl ?c1 ?c2 ?c3 ?c4 ?c5 ?_)
      case c1 =>
        intro j u hj
        have h := cells_new (w2.alloc (.cells (stepC y) 24)) (stepC y).toList 24 j u hj
        rw [World.size_alloc] at h
        exact h
      case c2 => intro u hu; simp [stepC] at hu; rcases hu with rfl | rfl | rfl | rfl | rfl <;> rfl
      case c3 => unfold maxLen; omega
      case c4 => omega
      case c5 => have := HR2.out.sz; simp; omega
      intro v' w3 ho hg _
      obtain ⟨g', cap', rfl⟩ := ownsRow_succ ho
      have hnx := HR2.out.next (bs := w.heap.size + 4) rfl (by have := HR.out.sz; omega) HB2.out _ _ ho hg
      have h33 := hnx.1.h3
      have HNX := Lib.hid hnx
      have hb3 : w3.heap[w.heap.size + 3]? = some (.cells #[.slice av xs.length cv] 35 (0, 0)) := by
        rw [block_grown ((own2.alloc _).alloc _) hg (by simp; omega) (by omega), Below.heap_alloc _ _ _ (by simp; omega), Below.heap_alloc _ _ _ (by omega)]
        exact HR2.out.h3
      have c3' : w3.cell? ⟨w.heap.size + 3, 0, none⟩ = some (.slice av xs.length cv) := cell_at hb3 rfl
      have f3' : w3.frozen? ⟨w.heap.size + 3, 0, none⟩ = false := frozen_at hb3
      clear ho hg hnx h33 hb3 own2 c3
      gi_wp2
      exact ⟨⟨xs ++ [y], _, .snoc HA.out.1 HY.out, HNX.out.1⟩, HNX.out.2.1, HNX.out.2.2⟩
    · obtain rfl := hno hex
      have c3 : w2.cell? ⟨w.heap.size + 3, 0, none⟩ = some (.slice av xs.length cv) := cell_at hR2.h3 rfl
      have c0 : w2.cell? ⟨w.heap.size, 0, none⟩ = some (.slice none 0 0) := cell_at hR2.h0 rfl
      have c1 : w2.cell? ⟨w.heap.size + 1, 0, none⟩ = some (.int .i64 0) := cell_at hR2.h1 rfl
      have c2 : w2.cell? ⟨w.heap.size + 2, 0, none⟩ = some (.int .i64 0) := cell_at hR2.h2 rfl
      have f0 : w2.frozen? ⟨w.heap.size, 0, none⟩ = false := frozen_at hR2.h0
      have f1 : w2.frozen? ⟨w.heap.size + 1, 0, none⟩ = false := frozen_at hR2.h1
      have f2 : w2.frozen? ⟨w.heap.size + 2, 0, none⟩ = false := frozen_at hR2.h2
      have hz3 : w.heap.size + 3 < w2.heap.size := lt_of_heap hR2.h3
      have hz0 : w.heap.size < w2.heap.size := by omega
      have hz1 : w.heap.size + 1 < w2.heap.size := by omega
      have hz2 : w.heap.size + 2 < w2.heap.size := by omega
      have HB2 := Lib.hid hb2
      have HEX := Lib.hid hex
      have hxl : xs.length ≤ 65000 := by have := HA.out.2; omega
      have k1 : IntKind.i64.wrap ((xs.length : Int) + 1) = (xs.length : Int) + 1 := by rw [IntKind.wrap_i64]; omega
      unfold stepC zeroS
      clear hyes hno hR2 hb2 hex
      gi_wp2
      gi_region
      all_goals gi_wp2
      all_goals
        refine ⟨⟨pre, x, xs, rfl, HA.out.1, HEX.out, ?_, ?_, ?_, ?_⟩, ?_⟩
        · have hb := HR2.out.below
          repeat (first | (with_reducible exact hb) | (with_reducible refine al ?_ _) | (with_reducible refine Below.drew ?_) | (with_reducible refine Go.Proofs.YtjhmeccdbcblbaaDoor.sc ?_ ?_ _; (first | exact Nat.le_refl _ | exact Nat.le_add_right _ _ | (simp only [Nat.add_assoc]; exact Nat.le_add_right _ _))))
        · go_simp
        · rw [← HA.out.2]; go_simp
        · go_simp
        · repeat (first | (with_reducible exact others_below HB2.out) | (with_reducible refine KeepsOthers.trans ?_ (KeepsOthers.drew _)) | (with_reducible refine KeepsOthers.trans ?_ (KeepsOthers.alloc _ _)) | (with_reducible refine KeepsOthers.trans ?_ (KeepsOthers.setCell _ _ _)))
  case done =>
    rintro D W hD ⟨xs, v, hA, hR⟩ hd
    obtain ⟨av, cv, rfl⟩ := hR.slice
    have c3 : W.cell? ⟨w.heap.size + 3, 0, none⟩ = some (.slice av xs.length cv) := cell_at hR.h3 rfl
    have c0 : W.cell? ⟨w.heap.size, 0, none⟩ = some (.slice none 0 0) := cell_at hR.h0 rfl
    have c1 : W.cell? ⟨w.heap.size + 1, 0, none⟩ = some (.int .i64 0) := cell_at hR.h1 rfl
    have c2 : W.cell? ⟨w.heap.size + 2, 0, none⟩ = some (.int .i64 0) := cell_at hR.h2 rfl
    have f0 : W.frozen? ⟨w.heap.size, 0, none⟩ = false := frozen_at hR.h0
    have f1 : W.frozen? ⟨w.heap.size + 1, 0, none⟩ = false := frozen_at hR.h1
    have f2 : W.frozen? ⟨w.heap.size + 2, 0, none⟩ = false := frozen_at hR.h2
    have HR := Lib.hid hR
    have HD := Lib.hid hd
    clear hR hd
    gi_wp2
    have hdd := (((KeepsOthers.setCell W ⟨w.heap.size, 0, none⟩ (.slice av xs.length cv)).trans (KeepsOthers.setCell _ ⟨w.heap.size + 1, 0, none⟩ (.int .i64 0))).trans (KeepsOthers.setCell _ ⟨w.heap.size + 2, 0, none⟩ (.int .i64 0))).same D _ HD.out rfl
    refine ⟨by simp, .inl ⟨_, _, rfl, run_takeDeferred hdd, ?_⟩⟩
    have y0 : (((W.setCell ⟨w.heap.size, 0, none⟩ (.slice av xs.length cv)).setCell ⟨w.heap.size + 1, 0, none⟩ (.int .i64 0)).setCell ⟨w.heap.size + 2, 0, none⟩ (.int .i64 0)).cell? ⟨w.heap.size, 0, none⟩ = some (.slice av xs.length cv) := by go_simp
    have y1 : (((W.setCell ⟨w.heap.size, 0, none⟩ (.slice av xs.length cv)).setCell ⟨w.heap.size + 1, 0, none⟩ (.int .i64 0)).setCell ⟨w.heap.size + 2, 0, none⟩ (.int .i64 0)).cell? ⟨w.heap.size + 1, 0, none⟩ = some (.int .i64 0) := by go_simp
    have y2 : (((W.setCell ⟨w.heap.size, 0, none⟩ (.slice av xs.length cv)).setCell ⟨w.heap.size + 1, 0, none⟩ (.int .i64 0)).setCell ⟨w.heap.size + 2, 0, none⟩ (.int .i64 0)).cell? ⟨w.heap.size + 2, 0, none⟩ = some (.int .i64 0) := by go_simp
    have hbX : Below w.heap.size w (((W.setCell ⟨w.heap.size, 0, none⟩ (.slice av xs.length cv)).setCell ⟨w.heap.size + 1, 0, none⟩ (.int .i64 0)).setCell ⟨w.heap.size + 2, 0, none⟩ (.int .i64 0)) :=
      ((HR.out.below.setCell (Nat.le_refl _) _).setCell (Nat.le_add_right _ _) _).setCell (Nat.le_add_right _ _) _
    have hoX : (((W.setCell ⟨w.heap.size, 0, none⟩ (.slice av xs.length cv)).setCell ⟨w.heap.size + 1, 0, none⟩ (.int .i64 0)).setCell ⟨w.heap.size + 2, 0, none⟩ (.int .i64 0)).ownsRow (w.heap.size + 5) 24 5 (.slice av xs.length cv) xs.length (rows xs) :=
      ownsRow_setCell_below (ownsRow_setCell_below (ownsRow_setCell_below HR.out.own (by simp) _) (by simp) _) (by simp) _
    have hkX := keep_put (w := w1) (o' := .deferred none) hD hdd rfl
    generalize hX : ((W.setCell ⟨w.heap.size, 0, none⟩ (.slice av xs.length cv)).setCell ⟨w.heap.size + 1, 0, none⟩ (.int .i64 0)).setCell ⟨w.heap.size + 2, 0, none⟩ (.int .i64 0) = X at y0 y1 y2 hbX hoX hkX
    have hX' : ((W.setCell ⟨w.heap.size, 0, none⟩ (.slice av xs.length cv)).setCell ⟨w.heap.size + 1, 0, none⟩ (.int .i64 0)).setCell ⟨w.heap.size + 1 + 1, 0, none⟩ (.int .i64 0) = X := hX
    try rw [hX']
    replace y0 := cell_keep y0 hkX
    replace y1 := cell_keep y1 hkX
    replace y2 := cell_keep y2 hkX
    replace hbX := below_keep hle hbX hkX
    replace hoX := own_keep hoX hkX
    generalize X.putObj D (.deferred none) = Y at *
    refine ⟨.tuple #[.slice av xs.length cv, .int .i64 0, .int .i64 0], by simp [results, Tryd.results12, go_sem, y0, y1, y2], hbX, .inl ⟨xs, _, hA, rfl, own_base hoX (by omega)⟩⟩
  case stop =>
    rintro D pre x r W hD he ⟨pre', x', xs, h1, h2, h3, h4⟩ hd
    obtain ⟨rfl, rfl⟩ : pre = pre' ∧ x = x' := by
      have h := List.append_inj' h1 rfl
      exact ⟨h.1, by simpa using h.2⟩
    gi_wp2
    refine ⟨by simp, .inl ⟨_, _, rfl, run_takeDeferred hd, ?_⟩⟩
    have hkX := keep_put (w := w1) (o' := .deferred none) hD hd rfl
    have h4' := h4.keep hle hkX
    generalize W.putObj D (.deferred none) = Y at *
    have y0 := h4'.h0
    have y1 := h4'.h1
    have y2 := h4'.h2
    refine ⟨.tuple #[.slice none 0 0, .int .i64 (pre.length + 1), .int .i64 9], by simp [results, Tryd.results12, go_sem, y0, y1, y2], h4'.below, .inr ⟨pre, x, r, xs, he, h2, h3, rfl⟩⟩
end Go.Proofs.YtjhmeccdbcblbaaDoor
