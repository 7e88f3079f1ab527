/- The walk of strings.Lines: the lines of a text, each handed to the body of a loop. -/
import Derived.Test.YtjhmeccdbcblbaaDoorWf
import Derived.RangeFuncNested
import Derived.RangeFuncBound
import Derived.RangeFuncCalls
import Derived.RangeFuncLeaves
import Derived.Shelf.Abstract
import Derived.Shelf.RegionOpen
import Derived.OwnWalkIn
import Derived.TacticsInMore
import Derived.LoopNIn
import Derived.LoopIn
set_option linter.unusedSimpArgs false
set_option linter.unusedVariables false
namespace Go.Proofs.YtjhmeccdbcblbaaDoor
open Go.RowKit Go.Sort
open Go.Lib (itoa decDigits join)
attribute [local go_sem] Oper.semAt_some

def nl (s : ByteArray) : Int := Lib.indexByte s.data.toList 10
def linesF : Nat → ByteArray → List ByteArray
  | 0, _ => []
  | f + 1, s => if s.size = 0 then [] else if nl s = -1 then [s] else s.extract 0 ((nl s).toNat + 1) :: linesF f (s.extract ((nl s).toNat + 1) s.size)
def lines (s : ByteArray) : List ByteArray := linesF s.size s

theorem nl_range (s : ByteArray) : nl s = -1 ∨ (0 ≤ nl s ∧ nl s < s.size) := by
  have key : ∀ l : List UInt8, Lib.indexByte l 10 = -1 ∨ (0 ≤ Lib.indexByte l 10 ∧ Lib.indexByte l 10 < l.length) := by
    intro l
    induction l with
    | nil => exact .inl rfl
    | cons b l ih =>
      unfold Lib.indexByte
      by_cases h1 : (b == 10) = true
      · rw [if_pos h1]; exact .inr ⟨by omega, by simp⟩
      · rw [if_neg h1]
        by_cases h2 : (Lib.indexByte l 10 == -1) = true
        · rw [if_pos h2]; exact .inl rfl
        · rw [if_neg h2]
          have h3 : Lib.indexByte l 10 ≠ -1 := fun e => h2 (beq_iff_eq.2 e)
          have := ih.resolve_left h3
          exact .inr ⟨by omega, by simp; omega⟩
  unfold nl
  rw [Lib.size_eq s]
  exact key _

theorem linesF_fuel : ∀ (f g : Nat) (s : ByteArray), s.size ≤ f → s.size ≤ g → linesF f s = linesF g s
  | 0, 0, _, _, _ => rfl
  | 0, g + 1, s, h, _ => by simp [linesF, Nat.le_zero.1 h]
  | f + 1, 0, s, _, h => by simp [linesF, Nat.le_zero.1 h]
  | f + 1, g + 1, s, hf, hg => by
    rw [linesF, linesF]
    by_cases h0 : s.size = 0
    · rw [if_pos h0, if_pos h0]
    · rw [if_neg h0, if_neg h0]
      by_cases h1 : nl s = -1
      · rw [if_pos h1, if_pos h1]
      · rw [if_neg h1, if_neg h1]
        have := (nl_range s).resolve_left h1
        rw [linesF_fuel f g _ (by simp only [ByteArray.size_extract]; omega) (by simp only [ByteArray.size_extract]; omega)]
theorem lines_step (s : ByteArray) (h0 : s.size ≠ 0) (h1 : nl s ≠ -1) : lines s = s.extract 0 ((nl s).toNat + 1) :: lines (s.extract ((nl s).toNat + 1) s.size) := by
  unfold lines
  have h2 := (nl_range s).resolve_left h1
  obtain ⟨m, hm⟩ : ∃ m, s.size = m + 1 := ⟨s.size - 1, by omega⟩
  conv => lhs; rw [hm]
  rw [linesF, if_neg h0, if_neg h1]
  rw [linesF_fuel m _ _ (by simp only [ByteArray.size_extract]; omega) (Nat.le_refl _)]
theorem lines_last (s : ByteArray) (h0 : s.size ≠ 0) (h1 : nl s = -1) : lines s = [s] := by
  unfold lines
  obtain ⟨m, hm⟩ : ∃ m, s.size = m + 1 := ⟨s.size - 1, by omega⟩
  rw [hm, linesF, if_neg h0, if_pos h1]
theorem lines_none (s : ByteArray) (h0 : s.size = 0) : lines s = [] := by
  unfold lines; rw [h0]; rfl

theorem IndexByte_in (n : Nat) (r : ByteArray) (w : World) : CallsIn Fence.wide n Tryd.prog 33 #[.string r, .int .u8 10] w fun e w' => e = .returned (.int .i64 (nl r)) ∧ w = w' :=
  callsIn_wide.2 ((Tryd.strings_IndexByte r 10 w).mono fun _ _ h => ⟨h.1, h.2.symm⟩)

/-- what the iterator keeps: r is left, pre has come -/
structure LR (s0 : ByteArray) (bs : Nat) (J : List ByteArray → World → Prop) (wr : World) (pre : List ByteArray) (r : ByteArray) : Prop where
  h : wr.heap[bs]? = some (.cells #[.string r] 9 (0, 0))
  j : J pre wr
  e : lines s0 = pre ++ lines r
  len : pre.length + r.size ≤ s0.size

set_option maxRecDepth 100000 in
set_option maxHeartbeats 2000000 in
theorem linesIt (n l bs : Nat) (J Jx : List ByteArray → World → Prop) (s0 : ByteArray) (hs : s0.size ≤ 4294967280)
    (hJ : ∀ pre W v, J pre W → J pre (W.setCell ⟨bs, 0, none⟩ v)) (hJd : ∀ pre W, J pre W → J pre W.drew)
    (hY : ∀ pre x W, J pre W → pre.length < s0.size → x.size ≤ s0.size → YieldAt Fence.wide n Tryd.prog l #[.string x] W fun e W' =>
      (e = .returned (.bool true) ∧ J (pre ++ [x]) W' ∧ W'.heap[bs]? = W.heap[bs]?) ∨ (e = .returned (.bool false) ∧ Jx (pre ++ [x]) W'))
    (W : World) (hb : W.heap[bs]? = some (.cells #[.string s0] 9 (0, 0))) (h0 : J [] W) :
    CallsIn Fence.wide (n + 1) Tryd.prog 32 #[.func (.yield l) #[] #[], .pointer (some ⟨bs, 0, none⟩)] W fun e W' => (∃ v, e = .returned v) ∧
      (J (lines s0) W' ∨ ∃ pre x r, lines s0 = pre ++ x :: r ∧ Jx (pre ++ [x]) W') := by
  refine callsIn_of_wp Tryd.func32 rfl trivial ?_ rfl
  simp only [Tryd.ntmps32, List.size_toArray, List.length_cons, List.length_nil, Nat.reduceAdd, Nat.reduceSub, Array.replicate_succ, Array.replicate_zero, List.push_toArray, List.append_toArray, List.nil_append, List.cons_append]
  gi_wp2
  gi_loopw [3, 4] (fun _ _ wr => ∃ pre r, LR s0 bs J wr pre r) (fun _ _ wr => match wr.cell? ⟨bs, 0, none⟩ with | some (.string r) => r.size | _ => 0)
  case atStart => exact ⟨[], s0, hb, h0, rfl, by simp⟩
  case round =>
    obtain ⟨pre, r, hR⟩ := hrel
    have hc : wr.cell? ⟨bs, 0, none⟩ = some (.string r) := cell_at hR.h rfl
    have hf : wr.frozen? ⟨bs, 0, none⟩ = false := frozen_at hR.h
    have HR := Lib.hid hR
    clear hR
    by_cases hz : r.size = 0
    · have e1 : decide (0 < r.size) = false := by simpa using hz
      clear hz
      gi_wp2
      go_end0
      refine ⟨⟨_, rfl⟩, .inl ?_⟩
      have h1 := HR.out.e
      rw [lines_none r (by simpa using e1), List.append_nil] at h1
      rw [h1]; exact HR.out.j
    · have e1 : decide (0 < r.size) = true := by simp; omega
      have hlen := HR.out.len
      rcases nl_range r with hn | ⟨hn0, hn1⟩
      · obtain ⟨fn, tmps, assign, body, hy, hRR⟩ := hY pre r _ (hJ _ _ (.string ⟨#[]⟩) HR.out.j) (by omega) (by omega)
        have HRR := Lib.hid hRR
        have HN := Lib.hid hn
        clear hRR
        have hi : ∀ w, CallsIn Fence.wide n Tryd.prog 33 #[.string r, .int .u8 10] w fun e w' => e = .returned (.int .i64 (-1)) ∧ w = w' := fun w => by have h := IndexByte_in n r w; rw [hn] at h; exact h
        have HI := Lib.hid hi
        clear hi hn
        gi_wp2_with (refine ⟨trivial, ?_⟩; gi_at_call 33; refine (HI.out _).mono ?_; rintro e w' ⟨rfl, rfl⟩)
        refine HRR.out.mono ?_
        rintro e W3 (⟨rfl, hJ3, hk3⟩ | ⟨rfl, hJx3⟩)
        · gi_wp2
          go_roundw
          case rel =>
            refine ⟨pre ++ [r], ⟨#[]⟩, ?_, hJ3, ?_, ?_⟩
            · rw [hk3]
              simp only [World.setCell, Array.getElem?_modify, if_true, HR.out.h, Option.map_some]
              rfl
            · rw [HR.out.e, lines_last r (by omega) HN.out, lines_none ⟨#[]⟩ rfl, List.append_nil]
            · have e0 : (⟨#[]⟩ : ByteArray).size = 0 := rfl
              simp [e0]; omega
          case measure =>
            have e0 : (⟨#[]⟩ : ByteArray).size = 0 := rfl
            have hc3 : W3.cell? ⟨bs, 0, none⟩ = some (.string ⟨#[]⟩) := by
              rw [World.cell?_of_block (a := ⟨bs, 0, none⟩) hk3]
              exact World.cell?_setCell_same _ _ _ hc
            rw [hc3, hc]
            simp [e0]; omega
        · gi_wp2
          refine bodyPost_ret (results_none rfl _ _ _) rfl ?_
          exact ⟨⟨_, rfl⟩, .inr ⟨pre, r, [], by rw [HR.out.e, lines_last r (by omega) HN.out], hJx3⟩⟩
      · obtain ⟨i, hi⟩ : ∃ i : Nat, nl r = i := ⟨(nl r).toNat, by omega⟩
        have hi2 : i < r.size := by omega
        have has : (r.extract 0 (i + 1)).size = i + 1 := by simp only [ByteArray.size_extract]; omega
        have hbs : (r.extract (i + 1) r.size).size = r.size - (i + 1) := by simp only [ByteArray.size_extract]; omega
        obtain ⟨fn, tmps, assign, body, hy, hRR⟩ := hY pre (r.extract 0 (i + 1)) _ (hJd _ _ (hJ _ _ (.string (r.extract (i + 1) r.size)) HR.out.j)) (by omega) (by omega)
        have HRR := Lib.hid hRR
        have hii : ∀ w, CallsIn Fence.wide n Tryd.prog 33 #[.string r, .int .u8 10] w fun e w' => e = .returned (.int .i64 i) ∧ w = w' := fun w => by have h := IndexByte_in n r w; rw [hi] at h; exact h
        have HI := Lib.hid hii
        have HA := Lib.hid (And.intro hi (And.intro has hbs))
        clear hii hRR hn0 hn1 hi has hbs
        gi_wp2_with (refine ⟨trivial, ?_⟩; gi_at_call 33; refine (HI.out _).mono ?_; rintro e w' ⟨rfl, rfl⟩)
        have k1 : IntKind.i64.wrap ((i : Int) + 1) = (i : Int) + 1 := by rw [IntKind.wrap_i64]; omega
        have k2 : (0 : Int) ≤ (i : Int) + 1 := by omega
        have k3 : ((i : Int) + 1).toNat = i + 1 := by omega
        have k4 : (i : Int) + 1 ≤ (r.size : Int) := by omega
        gi_region
        gi_wp2
        refine HRR.out.mono ?_
        rintro e W3 (⟨rfl, hJ3, hk3⟩ | ⟨rfl, hJx3⟩)
        · gi_wp2
          go_roundw
          case rel =>
            refine ⟨pre ++ [r.extract 0 (i + 1)], r.extract (i + 1) r.size, ?_, hJ3, ?_, ?_⟩
            · rw [hk3]
              have h1 : wr.heap[bs]? = some (.cells #[.string r] 9 (0, 0)) := HR.out.h
              show (wr.setCell ⟨bs, 0, none⟩ (.string (r.extract (i + 1) r.size))).heap[bs]? = _
              simp only [World.setCell, Array.getElem?_modify, if_true, h1, Option.map_some]
              rfl
            · have h1 := lines_step r (by omega) (by rw [HA.out.1]; omega)
              rw [HA.out.1] at h1
              rw [HR.out.e, h1]
              simp
            · have := HA.out.2.2
              simp only [List.length_append, List.length_cons, List.length_nil]; omega
          case measure =>
            have hc3 : W3.cell? ⟨bs, 0, none⟩ = some (.string (r.extract (i + 1) r.size)) := by
              rw [World.cell?_of_block (a := ⟨bs, 0, none⟩) hk3]
              exact World.cell?_setCell_same _ _ _ hc
            rw [hc3, hc]
            have := HA.out.2.2
            show (r.extract (i + 1) r.size).size < r.size
            omega
        · gi_wp2
          refine bodyPost_ret (results_none rfl _ _ _) rfl ?_
          have h1 := lines_step r (by omega) (by rw [HA.out.1]; omega)
          rw [HA.out.1] at h1
          exact ⟨⟨_, rfl⟩, .inr ⟨pre, r.extract 0 (i + 1), lines (r.extract (i + 1) r.size), by rw [HR.out.e, h1]; rfl, hJx3⟩⟩

/-! ### a loop over the lines of a text -/
/-- W' keeps what lay below w's end, and all cells; no block has gone -/
structure Keep (w W W' : World) : Prop where
  os : W'.os = W.os
  tape : W'.tape = W.tape
  output : W'.output = W.output
  size : W.heap.size ≤ W'.heap.size
  low : ∀ k, k < w.heap.size → W'.heap[k]? = W.heap[k]?
  cells : ∀ (k : Nat) (o : Obj), W.heap[k]? = some o → o.isCells = true → W'.heap[k]? = some o

theorem keep_put {w W : World} {l : Nat} {o o' : Obj} (hl : w.heap.size ≤ l) (h : W.heap[l]? = some o) (ho : o.isCells = false) : Keep w W (W.putObj l o') := by
  refine ⟨rfl, rfl, rfl, by simp, fun k hk => World.putObj_heap_other (by omega), fun k c hc hcc => ?_⟩
  by_cases e : k = l
  · subst e; rw [h] at hc; cases hc; rw [ho] at hcc; cases hcc
  · rw [World.putObj_heap_other e]; exact hc
theorem keep_alloc {w W : World} (hw : w.heap.size ≤ W.heap.size) (o : Obj) : Keep w W (W.alloc o) :=
  ⟨rfl, rfl, rfl, by simp, fun k hk => Below.heap_alloc _ _ _ (by omega), fun k c hc _ => heap_alloc' hc⟩
theorem keep_drew {w W : World} : Keep w W W.drew := ⟨rfl, rfl, rfl, Nat.le_refl _, fun _ _ => rfl, fun _ _ h _ => h⟩

/-- how a round may end -/
def roundEnd (bs : Nat) (I Ix : List ByteArray → World → Prop) (xs : List ByteArray) (W : World) : Exit → Act → World → Prop
  | .normal, _, W' => I xs W' ∧ KeepsOthers W W' ∧ W'.heap[bs]? = W.heap[bs]?
  | .ret, _, W' => Ix xs W' ∧ KeepsOthers W W'
  | _, _, _ => False

theorem wpIn_range_lines {n : Nat} {g : Operand} {p : Tmp} {assign body : Code} {Q : Exit → Act → World → Prop} {a : Act} {w : World} (bs : Nat) (s0 : ByteArray) (hs : s0.size ≤ 4294967280)
    (hg : a.eval g = .func (.func 32) #[] #[.pointer (some ⟨bs, 0, none⟩)]) (hbs : w.heap[bs]? = some (.cells #[.string s0] 9 (0, 0)))
    (I Ix : List ByteArray → World → Prop) (hI : ∀ pre W W', I pre W → Keep w W W' → I pre W') (hIx : ∀ pre W W', Ix pre W → Keep w W W' → Ix pre W')
    (hset : ∀ pre W v, I pre W → I pre (W.setCell ⟨bs, 0, none⟩ v)) (h0 : I [] w) (a₁ : ByteArray → Act)
    (hassign : ∀ (l : Nat) (x : ByteArray) (W : World) (K : Act → World → Prop), K (a₁ x) W →
      assign.wpIn (Fence.wide.inRound l) n Tryd.prog (Exit.then K (fun _ _ _ => False)) { tmps := a.tmps.setIfInBounds p (.string x), defers := [] } W)
    (hbody : ∀ (l : Nat) (pre : List ByteArray) (x : ByteArray) (W : World), I pre W → pre.length < s0.size → x.size ≤ s0.size → body.wpIn (Fence.wide.inRound l) n Tryd.prog (roundEnd bs I Ix (pre ++ [x]) W) (a₁ x) W)
    (hdone : ∀ (D : Nat) (W : World), w.heap.size ≤ D → I (lines s0) W → W.heap[D]? = some (.deferred (some [])) → Q .normal { a with defers := { target := .collected D, args := #[] } :: a.defers } W)
    (hstop : ∀ (D : Nat) (pre : List ByteArray) (x : ByteArray) (r : List ByteArray) (W : World), w.heap.size ≤ D → lines s0 = pre ++ x :: r → Ix (pre ++ [x]) W → W.heap[D]? = some (.deferred (some [])) →
      Code.ret.wpIn Fence.wide (n + 2) Tryd.prog Q { a with defers := { target := .collected D, args := #[] } :: a.defers } W) :
    (Code.rangeFunc g #[p] assign body).wpIn Fence.wide (n + 2) Tryd.prog Q a w := by
  refine wpIn_rangeFunc ?_
  intro fn hfn
  have hsz : bs < w.heap.size := lt_of_heap hbs
  -- the record of the loop, at whatever state
  let R : LoopState → Option Code → Obj := fun st pe => .loop { state := st, pending := pe, fn, tmps := a.tmps, params := #[p], assign, body, defers := w.heap.size }
  let W1 := (w.alloc (.deferred (some []))).alloc (R .ready none)
  have hD1 : W1.heap[w.heap.size]? = some (.deferred (some [])) := heap_alloc' (heap_new w _)
  have hL1 : W1.heap[w.heap.size + 1]? = some (R .ready none) := by
    have h := heap_new (w.alloc (.deferred (some []))) (R .ready none)
    rw [World.size_alloc] at h; exact h
  have hb1 : W1.heap[bs]? = some (.cells #[.string s0] 9 (0, 0)) := heap_alloc' (heap_alloc' hbs)
  have hI1 : I [] W1 := hI _ _ _ (hI _ _ _ h0 (keep_alloc (Nat.le_refl _) _)) (keep_alloc (by simp) _)
  refine ⟨w.heap.size + 1, [{ target := .collected w.heap.size, args := #[] }], W1, { target := .fn (.func 32) #[.pointer (some ⟨bs, 0, none⟩)], args := #[.func (.yield (w.heap.size + 1)) #[] #[]] }, W1, 32,
    #[.func (.yield (w.heap.size + 1)) #[] #[], .pointer (some ⟨bs, 0, none⟩)], W1, run_enterLoop_outer _ _ _ _ _, ?_, fun _ _ => trivial, ?_, fun _ => by omega, ?_⟩
  · simp only [resolve, hg]
    simp [go_sem]
  · simp [invoke, go_sem, enters_of Tryd.func32 (by kernel_rfl) rfl]
  · refine (linesIt n (w.heap.size + 1) bs
      (fun pre W => I pre W ∧ W.heap[w.heap.size + 1]? = some (R .ready none) ∧ W.heap[w.heap.size]? = some (.deferred (some [])))
      (fun pre W => Ix pre W ∧ W.heap[w.heap.size + 1]? = some (R .done (some .ret)) ∧ W.heap[w.heap.size]? = some (.deferred (some [])))
      s0 hs ?_ ?_ ?_ W1 hb1 ⟨hI1, hL1, hD1⟩).mono ?_
    · rintro pre W v ⟨h1, h2, h3⟩
      exact ⟨hset _ _ _ h1, by rw [Below.heap_setCell _ _ _ _ (by simp; omega)]; exact h2, by rw [Below.heap_setCell _ _ _ _ (by simp; omega)]; exact h3⟩
    · rintro pre W ⟨h1, h2, h3⟩
      exact ⟨hI _ _ _ h1 keep_drew, h2, h3⟩
    · rintro pre x W ⟨h1, h2, h3⟩ hlen hx
      have hy : (Instr.yield (w.heap.size + 1) #[.string x]).run Tryd.prog W = .ok (.round (w.heap.size + 1) fn (a.tmps.setIfInBounds p (.string x)) assign body) W := by
        rw [run_yield h2 rfl]; simp
      let PP : Ending → World → Prop := fun e W' => (e = .returned (.bool true) ∧ (I (pre ++ [x]) W' ∧ W'.heap[w.heap.size + 1]? = some (R .ready none) ∧ W'.heap[w.heap.size]? = some (.deferred (some []))) ∧ W'.heap[bs]? = W.heap[bs]?) ∨
        (e = .returned (.bool false) ∧ Ix (pre ++ [x]) W' ∧ W'.heap[w.heap.size + 1]? = some (R .done (some .ret)) ∧ W'.heap[w.heap.size]? = some (.deferred (some [])))
      refine ⟨fn, _, assign, body, hy, roundIn_of_wpIn hfn ?_⟩
      refine hassign (w.heap.size + 1) x W (fun a₁ w₁ => ∃ w₂, (Instr.beginRound (w.heap.size + 1)).run Tryd.prog w₁ = .ok () w₂ ∧ body.wpIn (Fence.wide.inRound (w.heap.size + 1)) n Tryd.prog (roundPost Tryd.prog (w.heap.size + 1) PP) a₁ w₂) ?_
      refine ⟨_, run_beginRound h2 rfl, ?_⟩
      have hlt := lt_of_heap h2
      have h4 : (W.putObj (w.heap.size + 1) (R .busy none)).heap[w.heap.size + 1]? = some (R .busy none) := World.putObj_heap_same hlt
      have h5 : (W.putObj (w.heap.size + 1) (R .busy none)).heap[w.heap.size]? = some (.deferred (some [])) := (World.putObj_heap_other (by omega)).trans h3
      have h6 : (W.putObj (w.heap.size + 1) (R .busy none)).heap[bs]? = W.heap[bs]? := World.putObj_heap_other (by omega)
      refine wpIn_mono (hbody (w.heap.size + 1) pre x _ (hI _ _ _ h1 (keep_put (by omega) h2 rfl)) hlen hx) ?_
      intro e a3 W3 hp
      cases e with
      | normal =>
        obtain ⟨p1, p2, p3⟩ := hp
        have h7 := p2.same _ _ h4 rfl
        exact ⟨_, _, run_endRound none h7, .inl ⟨rfl, ⟨hI _ _ _ p1 (keep_put (by omega) h7 rfl), World.putObj_heap_same (lt_of_heap h7), (World.putObj_heap_other (by omega)).trans (p2.same _ _ h5 rfl)⟩,
          (World.putObj_heap_other (by omega)).trans (p3.trans h6)⟩⟩
      | ret =>
        obtain ⟨p1, p2⟩ := hp
        have h7 := p2.same _ _ h4 rfl
        exact ⟨_, _, run_endRound (some .ret) h7, .inr ⟨rfl, hIx _ _ _ p1 (keep_put (by omega) h7 rfl), World.putObj_heap_same (lt_of_heap h7), (World.putObj_heap_other (by omega)).trans (p2.same _ _ h5 rfl)⟩⟩
      | exit id => exact hp.elim
      | goto t => exact hp.elim
      | panic ch => exact hp.elim
      | outgrown => exact hp.elim
    · rintro e W2 ⟨⟨v, rfl⟩, ⟨h1, h2, h3⟩ | ⟨pre, x, r, he, h1, h2, h3⟩⟩
      · exact ⟨none, _, run_endLoop h2 (by simp), hdone _ _ (Nat.le_refl _) (hI _ _ _ h1 (keep_put (by omega) h2 rfl)) ((World.putObj_heap_other (by omega)).trans h3)⟩
      · exact ⟨some .ret, _, run_endLoop h2 (by simp), hstop _ pre x r _ (Nat.le_refl _) he (hIx _ _ _ h1 (keep_put (by omega) h2 rfl)) ((World.putObj_heap_other (by omega)).trans h3)⟩
end Go.Proofs.YtjhmeccdbcblbaaDoor
