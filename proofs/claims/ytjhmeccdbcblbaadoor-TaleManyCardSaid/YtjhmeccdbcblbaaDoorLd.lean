/- The walk of the law TaleMany. -/
import Derived.Test.YtjhmeccdbcblbaaDoorWl
import Derived.Test.YtjhmeccdbcblbaaDoorPd
import Derived.BigQuiet
set_option linter.unusedSimpArgs false
set_option linter.unusedVariables false
namespace Go.Proofs.YtjhmeccdbcblbaaDoor
open Go.RowKit Go.Sort
open Go.Lib (itoa decDigits join)
attribute [local go_sem] Oper.semAt_some

/-- the first k entries of X that have lines -/
def goods (X : Nat → Tl.Stp) (k : Nat) : List Tl.Stp := ((List.range k).map X).filter Tl.okB
theorem goods_succ (X : Nat → Tl.Stp) (k : Nat) : goods X (k + 1) = if Tl.okB (X k) then goods X k ++ [X k] else goods X k := by
  unfold goods
  rw [List.range_succ, List.map_append, List.filter_append]
  cases h : Tl.okB (X k) <;> simp [h]
theorem goods_len (X : Nat → Tl.Stp) (k : Nat) : (goods X k).length ≤ k := by
  have h := List.length_filter_le Tl.okB ((List.range k).map X)
  simpa [goods] using h
theorem goods_ok (X : Nat → Tl.Stp) (k : Nat) (h : ∀ i, i < k → (X i).ok) : ∀ x ∈ goods X k, x.ok ∧ Tl.okB x = true := by
  intro x hx
  obtain ⟨h1, h2⟩ := List.mem_filter.1 hx
  obtain ⟨i, hi, rfl⟩ := List.mem_map.1 h1
  exact ⟨h i (by simpa using hi), h2⟩

/-- a slice of entries that came in -/
structure ListIs (w : World) (v : Value) (n : Nat) (X : Nat → Tl.Stp) : Prop where
  len : n ≤ maxLen
  ok : ∀ i, i < n → (X i).ok
  at' : ∃ a cap, v = .slice a n cap ∧ (0 < n → ∃ b off, a = some ⟨b, off, none⟩ ∧ b < w.heap.size ∧ ∀ i, i < n → ∀ (j : Nat) u, (stepC (X i)).toList[j]? = some u → w.cell? ⟨b, off + i * 5 + j, none⟩ = some u)

/-- what the first loop of TaleMany keeps -/
structure MR (w wr : World) (X : Nat → Tl.Stp) (x y : Tl.Stp) (gv : Value) (k : Nat) : Prop where
  below : Below w.heap.size w wr
  h0 : wr.heap[w.heap.size]? = some (.cells (stepC x) 24 (0, 0))
  h1 : wr.heap[w.heap.size + 1]? = some (.cells (stepC y) 24 (0, 0))
  own : wr.ownsRow (w.heap.size + 2) 24 5 gv (goods X k).length (rows (goods X k))
theorem MR.later {w wr wr' : World} {X : Nat → Tl.Stp} {x y : Tl.Stp} {gv : Value} {k : Nat} (h : MR w wr X x y gv k) (hb : Below wr.heap.size wr wr') : MR w wr' X x y gv k :=
  ⟨h.below.trans (hb.mono h.below.size), heap_later h.h0 hb, heap_later h.h1 hb, own_later h.own hb⟩
theorem MR.skip {w wr : World} {X : Nat → Tl.Stp} {x y : Tl.Stp} {gv : Value} {k : Nat} (h : MR w wr X x y gv k) (hk : Tl.okB (X k) = false) : MR w wr X x y gv (k + 1) := by
  refine ⟨h.below, h.h0, h.h1, ?_⟩
  rw [goods_succ, hk]; exact h.own

theorem MR.next {w w1 w3 : World} {X : Nat → Tl.Stp} {x y : Tl.Stp} {gv v' : Value} {k : Nat} (h : MR w w1 X x y gv k) (hk : Tl.okB (X k) = true) (o : Obj)
    (ho : w3.ownsRow (w.heap.size + 2) 24 5 v' ((goods X k).length + 1) (rows (goods X k) ++ (stepC (X k)).toList)) (hg : (w1.alloc o).grownBy w3 gv.ownBlock) : MR w w3 X x y v' (k + 1) := by
  have hA : Below w.heap.size w (w1.alloc o) := al h.below _
  have hoA : (w1.alloc o).ownsRow (w.heap.size + 2) 24 5 gv (goods X k).length (rows (goods X k)) := h.own.alloc _
  have hz1 := lt_of_heap h.h1
  have hblk : ∀ b, b ≤ w.heap.size + 1 → w3.heap[b]? = w1.heap[b]? := fun b hb => by
    rw [block_grown hoA hg (by simp; omega) (by omega), Below.heap_alloc _ _ _ (by omega)]
  refine ⟨hA.grown hg hA.size (fun k hk => by have := (own_row hoA hk).1; omega), by rw [hblk _ (by omega)]; exact h.h0, by rw [hblk _ (by omega)]; exact h.h1, ?_⟩
  rw [goods_succ, hk, if_pos rfl, List.length_append, rows_snoc]
  exact ho
theorem data_inj2 {a b : ByteArray} (h : a.data.toList = b.data.toList) : a = b := by
  rw [← Lib.mk_data a, ← Lib.mk_data b, h]
/-- what Line answers -/
theorem line_cases {x : Tl.Stp} {w w' : World} {e : Ending} (h : LineQ x w e w') (hx : x.ok := by assumption) : Below w.heap.size w w' ∧ ∃ (s : ByteArray) (n : Int), e = .returned (.tuple #[.string s, .int .i64 n]) ∧ ((n = 0 ∧ Tl.okB x = true ∧ Tl.Is x s.data.toList) ∨ n = 1) := by
  obtain ⟨h1, h2, hb⟩ := h
  cases hk : Tl.okB x with
  | true => exact ⟨hb, _, _, h1 hk, .inl ⟨rfl, rfl, hx, hk, rfl⟩⟩
  | false => exact ⟨hb, _, _, h2 hk, .inr rfl⟩
/-- what Read answers at the text of entries -/
theorem read_text {G : List Tl.Stp} (hG : ∀ x ∈ G, x.ok ∧ Tl.okB x = true) {w w2 : World} {e : Ending} (h : ReadQ (str (textOf G)) w e w2) :
    Below w.heap.size w w2 ∧ ∃ v, e = .returned (.tuple #[v, .int .i64 0, .int .i64 0]) ∧ w2.ownsRow w.heap.size 24 5 v G.length (rows G) := by
  obtain ⟨hb, ⟨xs, v, hA, he, ho⟩ | ⟨pre, x0, r, xs, hl, hA, hn, he⟩⟩ := h
  · have := are_text hG hA
    subst this
    exact ⟨hb, v, he, ho⟩
  · exfalso
    rw [lines_text] at hl
    have hm : x0 ∈ G.map fun x => str (lineOf x ++ [10]) := by rw [hl]; simp
    obtain ⟨u, hu, rfl⟩ := List.mem_map.1 hm
    exact hn ⟨u, by rw [cut_line]; exact ⟨(hG u hu).1, (hG u hu).2, rfl⟩⟩

set_option maxRecDepth 100000 in
set_option maxHeartbeats 4000000 in
theorem TaleMany_any (v : Value) (n : Nat) (X : Nat → Tl.Stp) (x y : Tl.Stp) (hx : x.ok) (hy : y.ok) (w : World) (hL : ListIs w v n X) (hE : Env w) : Calls Tryd.prog 6 #[v, .agg (stepC x), .agg (stepC y)] w (TrueQ w) := by
  obtain ⟨hn, hok, a, cap, rfl, hcells⟩ := hL
  have HK := Lib.hid (And.intro hok hcells)
  clear hok hcells
  unfold maxLen at hn
  unfold stepC
  go_enter Tryd.func6, Tryd.ntmps6
  go_wp2_with fail
  obtain ⟨q0, q1, q2, hb3⟩ := blocks3 w (.cells (stepC x) 24) (.cells (stepC y) 24) (.cells #[] 24)
  have hsz3 : (((w.alloc (.cells (stepC x) 24)).alloc (.cells (stepC y) 24)).alloc (.cells #[] 24)).heap.size = w.heap.size + 3 := by
    simp
  go_loopw [7, 8, 9] (fun t gv i wr => ∃ k : Nat, k ≤ n ∧ k ≤ 50 ∧ i = .int .i64 k ∧ t = .string (str (textOf (goods X k))) ∧ MR w wr X x y gv k) (fun _ _ i _ => 50 - (intOf i).toNat)
  case atStart => exact ⟨0, by omega, by omega, rfl, rfl, hb3, q0, q1, rfl, .inr ⟨w.heap.size + 2, 0, #[], rfl, Nat.le_refl _, q2, Nat.le_refl _, by decide, rfl, rfl⟩⟩
  case round =>
    obtain ⟨k, hkn, hk50, rfl, rfl, hM⟩ := hrel
    have hglen := goods_len X k
    have hgok := goods_ok X k (fun i hi => HK.out.1 i (by omega))
    have htl : (str (textOf (goods X k))).size ≤ 5550 := by
      have := textOf_len _ (fun x hx => (hgok x hx).1)
      show ((textOf (goods X k)).toArray).size ≤ _
      simp only [List.size_toArray]
      omega
    obtain ⟨ga, gc, rfl⟩ : ∃ a cap, u8 = .slice a (goods X k).length cap := by
      rcases own_at hM.own with ⟨h1, h2⟩ | ⟨g, cap, hv, -⟩
      · exact ⟨none, 0, by rw [h2, h1]; rfl⟩
      · exact ⟨_, _, hv⟩
    have HM := Lib.hid hM
    have hErr := hE.below hM.below
    have HGO := Lib.hid hgok
    clear q0 q1 q2 hb3 hsz3 hM hgok
    have b1 : decide ((k : Int) < (n : Int)) = decide (k < n) := by simp
    have b2 : decide ((k : Int) < 50) = decide (k < 50) := by
      by_cases h : k < 50 <;> simp [h] <;> omega
    by_cases hgo : k < n ∧ k < 50
    · obtain ⟨hk1, hk2⟩ := hgo
      rw [decide_eq_true hk1] at b1
      rw [decide_eq_true hk2] at b2
      obtain ⟨lb, lo, rfl, hlb, hcell⟩ := HK.out.2 (by omega)
      have hxk := HK.out.1 k hk1
      have c0 : wr.cell? ⟨lb, lo + k * 5, none⟩ = some (.int .i64 (X k).kind) := by rw [HM.out.below.cell (by simp; omega)]; exact hcell k hk1 0 _ rfl
      have c1 : wr.cell? ⟨lb, lo + k * 5 + 1, none⟩ = some (.int .i64 (X k).a) := by rw [HM.out.below.cell (by simp; omega)]; exact hcell k hk1 1 _ rfl
      have c2 : wr.cell? ⟨lb, lo + k * 5 + 2, none⟩ = some (.int .i64 (X k).b) := by rw [HM.out.below.cell (by simp; omega)]; exact hcell k hk1 2 _ rfl
      have c3 : wr.cell? ⟨lb, lo + k * 5 + 3, none⟩ = some (.int .i64 (X k).c) := by rw [HM.out.below.cell (by simp; omega)]; exact hcell k hk1 3 _ rfl
      have c4 : wr.cell? ⟨lb, lo + k * 5 + 4, none⟩ = some (.int .u64 (X k).v) := by rw [HM.out.below.cell (by simp; omega)]; exact hcell k hk1 4 _ rfl
      have HC := Lib.hid (hcell k hk1)
      clear hcell
      go_wp2_with fail
      refine (Line_any (X k) hxk _ hErr).mono ?_
      rintro e w1 ⟨h1, h2, hb1⟩
      have HM1 := Lib.hid (HM.out.later hb1)
      have HB1 := Lib.hid hb1
      have b6 : IntKind.i64.wrap ((k : Int) + 1) = (k : Int) + 1 := by rw [IntKind.wrap_i64]; omega
      cases hkk : Tl.okB (X k) with
      | false =>
        obtain rfl := h2 hkk
        have HS := Lib.hid (HM1.out.skip hkk)
        have HG := Lib.hid (show goods X (k + 1) = goods X k by rw [goods_succ, hkk]; rfl)
        clear h1 h2 hb1
        go_wp2
        go_roundw
        case rel => exact ⟨k + 1, by omega, by omega, by go_num, by rw [HG.out], HS.out⟩
        case measure => simp [intOf]; omega
      | true =>
        obtain rfl := h1 hkk
        have hll : (str (Tl.lineAt (X k) ((X k).kind - 1).toNat)).size ≤ 110 := Tl.line_len (X k) hxk _
        have HG := Lib.hid (show goods X (k + 1) = goods X k ++ [X k] by rw [goods_succ, hkk]; rfl)
        have d0 : w1.cell? ⟨lb, lo + k * 5, none⟩ = some (.int .i64 (X k).kind) := by rw [HB1.out.cell (by have := HM.out.below.size; simp; omega)]; exact c0
        have d1 : w1.cell? ⟨lb, lo + k * 5 + 1, none⟩ = some (.int .i64 (X k).a) := by rw [HB1.out.cell (by have := HM.out.below.size; simp; omega)]; exact c1
        have d2 : w1.cell? ⟨lb, lo + k * 5 + 2, none⟩ = some (.int .i64 (X k).b) := by rw [HB1.out.cell (by have := HM.out.below.size; simp; omega)]; exact c2
        have d3 : w1.cell? ⟨lb, lo + k * 5 + 3, none⟩ = some (.int .i64 (X k).c) := by rw [HB1.out.cell (by have := HM.out.below.size; simp; omega)]; exact c3
        have d4 : w1.cell? ⟨lb, lo + k * 5 + 4, none⟩ = some (.int .u64 (X k).v) := by rw [HB1.out.cell (by have := HM.out.below.size; simp; omega)]; exact c4
        obtain ⟨L, hLd⟩ : ∃ L, L = str (Tl.lineAt (X k) ((X k).kind - 1).toNat) := ⟨_, rfl⟩
        obtain ⟨T, hTd⟩ : ∃ T, T = str (textOf (goods X k)) := ⟨_, rfl⟩
        rw [← hLd] at hll ⊢
        rw [← hTd] at htl ⊢
        have HLT := Lib.hid (And.intro hLd hTd)
        have own2 := HM1.out.own
        obtain ⟨i0, hi, hz0, hz1, hz2⟩ := info_parts Tryd.info24
        clear h1 h2 hb1 c0 c1 c2 c3 c4 hLd hTd
        go_wp2_with (at_builtin; refine wpList_append_own _ rfl _ _ 35 rfl (w.heap.size + 2) 24 i0 _ 5 40 Tryd.underlying35 hi hz0 hz1 hz2 rfl (by decide) _ _ _ rfl (own2.alloc _) ⟨w1.heap.size, 0, none⟩ 1 1 (stepC (X k)).toList rfl rfl ?a1 ?a2 ?a3 ?a4 ?a5 ?_)
        case a1 =>
          intro j u hj
          exact cells_new w1 (stepC (X k)).toList 24 j u hj
        case a2 => intro u hu; simp [stepC] at hu; rcases hu with rfl | rfl | rfl | rfl | rfl <;> rfl
        case a3 => unfold maxLen; omega
        case a4 => omega
        case a5 => have := HM1.out.below.size; have := lt_of_heap HM1.out.h1; simp; omega
        intro v' w3 ho hg _
        have HNX := Lib.hid (HM1.out.next hkk _ ho hg)
        have HTX := Lib.hid (show T ++ (L ++ ⟨#[10]⟩) = str (textOf (goods X (k + 1))) by
          rw [HG.out, textOf_snoc, HLT.out.1, HLT.out.2]
          show str _ ++ (str _ ++ str [10]) = _
          rw [str_append, str_append]; rfl)
        clear ho hg own2 d0 d1 d2 d3 d4
        go_wp2
        go_roundw
        case rel => exact ⟨k + 1, by omega, by omega, by go_num, by rw [HTX.out], HNX.out⟩
        case measure => simp [intOf]; omega
    · have hb12 : ((decide ((k : Int) < (n : Int)) = true ∧ decide ((k : Int) < 50) = false) ∧ ¬ k < 50 ∧ k < n) ∨ (decide ((k : Int) < (n : Int)) = false ∧ ¬ k < n) := by
        by_cases h : k < n
        · exact .inl ⟨⟨by simp; omega, by simp; omega⟩, by omega, h⟩
        · exact .inr ⟨by simp; omega, h⟩
      clear b1 b2 hgo
      rcases hb12 with ⟨⟨b1, b2⟩, hnk, hkn1⟩ | ⟨b1, hnk⟩
      · go_wp2_with fail
        clear b1
        refine (Read_any (str (textOf (goods X k))) (by omega) _ hErr).mono ?_
        rintro e w2 hq
        obtain ⟨hb2, rv, rfl, ho⟩ := read_text HGO.out hq
        have hM2 := HM.out.later hb2
        have hE2 := hErr.below hb2
        have OA := Lib.hid (own_at hM2.own)
        have OB := Lib.hid (own_at ho)
        obtain ⟨ra, rc, rfl⟩ : ∃ a cap, rv = .slice a (goods X k).length cap := by
          rcases own_at ho with ⟨h1, h2⟩ | ⟨g, cap, hv, -⟩
          · exact ⟨none, 0, by rw [h2, h1]; rfl⟩
          · exact ⟨_, _, hv⟩
        have HM2 := Lib.hid hM2
        clear hM2 ho hq htl hb2
        generalize hG : goods X k = G at *
        have HGG := Lib.hid hG
        clear hG
        go_wp2_with fail
        go_loopw [15] (fun i wr' => ∃ j : Nat, j ≤ G.length ∧ i = .int .i64 j ∧ Below w2.heap.size w2 wr') (fun i _ => G.length - (intOf i).toNat)
        case atStart => exact ⟨0, by omega, rfl, Below.refl _ _⟩
        case round =>
          obtain ⟨j, hjl, rfl, hbj⟩ := hrel
          by_cases hjn : j < G.length
          · have b7 : decide ((j : Int) < (G.length : Int)) = true := by simp; omega
            obtain ⟨z, hz⟩ : ∃ z, G[j]? = some z := ⟨_, List.getElem?_eq_getElem hjn⟩
            obtain ⟨g1, p1, hs1, -, hc1, hg1, hcell1⟩ := OA.out.resolve_left (fun h => by rw [h.1] at hjn; simp at hjn)
            obtain ⟨g2, p2, hs2, -, hc2, hg2, hcell2⟩ := OB.out.resolve_left (fun h => by rw [h.1] at hjn; simp at hjn)
            obtain ⟨rfl, rfl⟩ : ga = some ⟨g1, 0, none⟩ ∧ gc = p1 := by cases hs1; exact ⟨rfl, rfl⟩
            obtain ⟨rfl, rfl⟩ : ra = some ⟨g2, 0, none⟩ ∧ rc = p2 := by cases hs2; exact ⟨rfl, rfl⟩
            have c0 : wr.cell? ⟨g1, j * 5, none⟩ = some (.int .i64 z.kind) := by rw [hbj.cell (by simp; omega)]; exact hcell1 j z hz 0 _ rfl
            have c1 : wr.cell? ⟨g1, j * 5 + 1, none⟩ = some (.int .i64 z.a) := by rw [hbj.cell (by simp; omega)]; exact hcell1 j z hz 1 _ rfl
            have c2 : wr.cell? ⟨g1, j * 5 + 2, none⟩ = some (.int .i64 z.b) := by rw [hbj.cell (by simp; omega)]; exact hcell1 j z hz 2 _ rfl
            have c3 : wr.cell? ⟨g1, j * 5 + 3, none⟩ = some (.int .i64 z.c) := by rw [hbj.cell (by simp; omega)]; exact hcell1 j z hz 3 _ rfl
            have c4 : wr.cell? ⟨g1, j * 5 + 4, none⟩ = some (.int .u64 z.v) := by rw [hbj.cell (by simp; omega)]; exact hcell1 j z hz 4 _ rfl
            have d0 : wr.cell? ⟨g2, j * 5, none⟩ = some (.int .i64 z.kind) := by rw [hbj.cell (by simp; omega)]; exact hcell2 j z hz 0 _ rfl
            have d1 : wr.cell? ⟨g2, j * 5 + 1, none⟩ = some (.int .i64 z.a) := by rw [hbj.cell (by simp; omega)]; exact hcell2 j z hz 1 _ rfl
            have d2 : wr.cell? ⟨g2, j * 5 + 2, none⟩ = some (.int .i64 z.b) := by rw [hbj.cell (by simp; omega)]; exact hcell2 j z hz 2 _ rfl
            have d3 : wr.cell? ⟨g2, j * 5 + 3, none⟩ = some (.int .i64 z.c) := by rw [hbj.cell (by simp; omega)]; exact hcell2 j z hz 3 _ rfl
            have d4 : wr.cell? ⟨g2, j * 5 + 4, none⟩ = some (.int .u64 z.v) := by rw [hbj.cell (by simp; omega)]; exact hcell2 j z hz 4 _ rfl
            clear hcell1 hcell2 hs1 hs2
            have HBJ := Lib.hid hbj
            clear hbj
            go_upto_region 16 with (fail)
            go_quiet (fail)
            go_wp2
            go_roundw
            case rel => exact ⟨j + 1, by omega, by go_num, below_drewN HBJ.out _⟩
            case measure => simp [intOf]; omega
          · have hjG : j = G.length := by omega
            have b7 : decide ((j : Int) < (G.length : Int)) = false := by simp; omega
            have HM3 := Lib.hid (HM2.out.later hbj)
            have hE3 := hE2.below hbj
            clear hbj
            have q0 := HM3.out.h0
            have q1 := HM3.out.h1
            have c0 : wr.cell? ⟨w.heap.size, 0, none⟩ = some (.int .i64 x.kind) := cell_at q0 rfl
            have c1 : wr.cell? ⟨w.heap.size, 1, none⟩ = some (.int .i64 x.a) := cell_at q0 rfl
            have c2 : wr.cell? ⟨w.heap.size, 2, none⟩ = some (.int .i64 x.b) := cell_at q0 rfl
            have c3 : wr.cell? ⟨w.heap.size, 3, none⟩ = some (.int .i64 x.c) := cell_at q0 rfl
            have c4 : wr.cell? ⟨w.heap.size, 4, none⟩ = some (.int .u64 x.v) := cell_at q0 rfl
            have hz0 := lt_of_heap q0
            have hz1 := lt_of_heap q1
            go_wp2_with fail
            refine (Line_any x hx _ hE3).mono ?_
            rintro e w3 hq3
            obtain ⟨hb3, sx, ex, rfl, hsx⟩ := line_cases hq3
            replace q1 := heap_later q1 hb3
            replace q0 := heap_later q0 hb3
            have hE4 := hE3.below hb3
            have HB3 := Lib.hid hb3
            clear c0 c1 c2 c3 c4 hq3 hb3
            have d0 : w3.cell? ⟨w.heap.size + 1, 0, none⟩ = some (.int .i64 y.kind) := cell_at q1 rfl
            have d1 : w3.cell? ⟨w.heap.size + 1, 1, none⟩ = some (.int .i64 y.a) := cell_at q1 rfl
            have d2 : w3.cell? ⟨w.heap.size + 1, 2, none⟩ = some (.int .i64 y.b) := cell_at q1 rfl
            have d3 : w3.cell? ⟨w.heap.size + 1, 3, none⟩ = some (.int .i64 y.c) := cell_at q1 rfl
            have d4 : w3.cell? ⟨w.heap.size + 1, 4, none⟩ = some (.int .u64 y.v) := cell_at q1 rfl
            have hz2 := lt_of_heap q1
            go_wp2_with fail
            refine (Line_any y hy _ hE4).mono ?_
            rintro e w4 hq4
            obtain ⟨hb4, sy, ey, rfl, hsy⟩ := line_cases hq4
            replace q1 := heap_later q1 hb4
            replace q0 := heap_later q0 hb4
            have hE5 := hE4.below hb4
            have HB4 := Lib.hid hb4
            clear d0 d1 d2 d3 d4 hq4 hb4
            go_wp2_with fail
            refine (awake_any _ hE5).mono ?_
            rintro e w5 ⟨rfl, hb5⟩
            replace q1 := heap_later q1 hb5
            replace q0 := heap_later q0 hb5
            have hfin : Below w.heap.size w w5 := HM3.out.below.trans (Below.mono (HB3.out.trans (Below.mono (HB4.out.trans (hb5.mono HB4.out.size)) HB3.out.size)) HM3.out.below.size)
            have HF := Lib.hid hfin
            clear hfin hb5
            have c0 : w5.cell? ⟨w.heap.size, 0, none⟩ = some (.int .i64 x.kind) := cell_at q0 rfl
            have c1 : w5.cell? ⟨w.heap.size, 1, none⟩ = some (.int .i64 x.a) := cell_at q0 rfl
            have c2 : w5.cell? ⟨w.heap.size, 2, none⟩ = some (.int .i64 x.b) := cell_at q0 rfl
            have c3 : w5.cell? ⟨w.heap.size, 3, none⟩ = some (.int .i64 x.c) := cell_at q0 rfl
            have c4 : w5.cell? ⟨w.heap.size, 4, none⟩ = some (.int .u64 x.v) := cell_at q0 rfl
            have d0 : w5.cell? ⟨w.heap.size + 1, 0, none⟩ = some (.int .i64 y.kind) := cell_at q1 rfl
            have d1 : w5.cell? ⟨w.heap.size + 1, 1, none⟩ = some (.int .i64 y.a) := cell_at q1 rfl
            have d2 : w5.cell? ⟨w.heap.size + 1, 2, none⟩ = some (.int .i64 y.b) := cell_at q1 rfl
            have d3 : w5.cell? ⟨w.heap.size + 1, 3, none⟩ = some (.int .i64 y.c) := cell_at q1 rfl
            have d4 : w5.cell? ⟨w.heap.size + 1, 4, none⟩ = some (.int .u64 y.v) := cell_at q1 rfl
            rcases hsx with ⟨rfl, hkx, hIx⟩ | rfl
            · rcases hsy with ⟨rfl, hky, hIy⟩ | rfl
              · by_cases hxy : x = y
                · subst hxy
                  obtain rfl : sx = sy := data_inj2 (hIx.2.2.symm.trans hIy.2.2)
                  have e9 : (sx.toList == sx.toList) = true := str_eq sx
                  go_wp2
                  all_goals go_ret
                  all_goals exact ⟨rfl, HF.out⟩
                · have hne : ¬ (x.kind = y.kind ∧ x.a = y.a ∧ x.b = y.b ∧ x.c = y.c ∧ x.v = y.v) := fun he => hxy (by
                    obtain ⟨a1, a2, a3, a4, a5⟩ := y
                    obtain ⟨b1, b2, b3, b4, b5⟩ := x
                    simp only at he
                    simp only [Tl.Stp.mk.injEq]
                    exact he)
                  have e9 : (sx.toList == sy.toList) = false := str_ne (fun h => hxy (hIx.inj (h ▸ hIy)))
                  have HNE := Lib.hid hne
                  clear hne hxy hIx hIy
                  go_wp2
                  all_goals first
                    | (exact (HNE.out ⟨by omega, by omega, by omega, by omega, by omega⟩).elim)
                    | (go_ret
                       exact ⟨rfl, HF.out⟩)
              · go_wp2
                all_goals go_ret
                all_goals exact ⟨rfl, HF.out⟩
            · clear hsy
              go_wp2
              all_goals go_ret
              all_goals exact ⟨rfl, HF.out⟩
      · go_wp2_with fail
        clear b1
        refine (Read_any (str (textOf (goods X k))) (by omega) _ hErr).mono ?_
        rintro e w2 hq
        obtain ⟨hb2, rv, rfl, ho⟩ := read_text HGO.out hq
        have hM2 := HM.out.later hb2
        have hE2 := hErr.below hb2
        have OA := Lib.hid (own_at hM2.own)
        have OB := Lib.hid (own_at ho)
        obtain ⟨ra, rc, rfl⟩ : ∃ a cap, rv = .slice a (goods X k).length cap := by
          rcases own_at ho with ⟨h1, h2⟩ | ⟨g, cap, hv, -⟩
          · exact ⟨none, 0, by rw [h2, h1]; rfl⟩
          · exact ⟨_, _, hv⟩
        have HM2 := Lib.hid hM2
        clear hM2 ho hq htl hb2
        generalize hG : goods X k = G at *
        have HGG := Lib.hid hG
        clear hG
        go_wp2_with fail
        go_loopw [15] (fun i wr' => ∃ j : Nat, j ≤ G.length ∧ i = .int .i64 j ∧ Below w2.heap.size w2 wr') (fun i _ => G.length - (intOf i).toNat)
        case atStart => exact ⟨0, by omega, rfl, Below.refl _ _⟩
        case round =>
          obtain ⟨j, hjl, rfl, hbj⟩ := hrel
          by_cases hjn : j < G.length
          · have b7 : decide ((j : Int) < (G.length : Int)) = true := by simp; omega
            obtain ⟨z, hz⟩ : ∃ z, G[j]? = some z := ⟨_, List.getElem?_eq_getElem hjn⟩
            obtain ⟨g1, p1, hs1, -, hc1, hg1, hcell1⟩ := OA.out.resolve_left (fun h => by rw [h.1] at hjn; simp at hjn)
            obtain ⟨g2, p2, hs2, -, hc2, hg2, hcell2⟩ := OB.out.resolve_left (fun h => by rw [h.1] at hjn; simp at hjn)
            obtain ⟨rfl, rfl⟩ : ga = some ⟨g1, 0, none⟩ ∧ gc = p1 := by cases hs1; exact ⟨rfl, rfl⟩
            obtain ⟨rfl, rfl⟩ : ra = some ⟨g2, 0, none⟩ ∧ rc = p2 := by cases hs2; exact ⟨rfl, rfl⟩
            have c0 : wr.cell? ⟨g1, j * 5, none⟩ = some (.int .i64 z.kind) := by rw [hbj.cell (by simp; omega)]; exact hcell1 j z hz 0 _ rfl
            have c1 : wr.cell? ⟨g1, j * 5 + 1, none⟩ = some (.int .i64 z.a) := by rw [hbj.cell (by simp; omega)]; exact hcell1 j z hz 1 _ rfl
            have c2 : wr.cell? ⟨g1, j * 5 + 2, none⟩ = some (.int .i64 z.b) := by rw [hbj.cell (by simp; omega)]; exact hcell1 j z hz 2 _ rfl
            have c3 : wr.cell? ⟨g1, j * 5 + 3, none⟩ = some (.int .i64 z.c) := by rw [hbj.cell (by simp; omega)]; exact hcell1 j z hz 3 _ rfl
            have c4 : wr.cell? ⟨g1, j * 5 + 4, none⟩ = some (.int .u64 z.v) := by rw [hbj.cell (by simp; omega)]; exact hcell1 j z hz 4 _ rfl
            have d0 : wr.cell? ⟨g2, j * 5, none⟩ = some (.int .i64 z.kind) := by rw [hbj.cell (by simp; omega)]; exact hcell2 j z hz 0 _ rfl
            have d1 : wr.cell? ⟨g2, j * 5 + 1, none⟩ = some (.int .i64 z.a) := by rw [hbj.cell (by simp; omega)]; exact hcell2 j z hz 1 _ rfl
            have d2 : wr.cell? ⟨g2, j * 5 + 2, none⟩ = some (.int .i64 z.b) := by rw [hbj.cell (by simp; omega)]; exact hcell2 j z hz 2 _ rfl
            have d3 : wr.cell? ⟨g2, j * 5 + 3, none⟩ = some (.int .i64 z.c) := by rw [hbj.cell (by simp; omega)]; exact hcell2 j z hz 3 _ rfl
            have d4 : wr.cell? ⟨g2, j * 5 + 4, none⟩ = some (.int .u64 z.v) := by rw [hbj.cell (by simp; omega)]; exact hcell2 j z hz 4 _ rfl
            clear hcell1 hcell2 hs1 hs2
            have HBJ := Lib.hid hbj
            clear hbj
            go_upto_region 16 with (fail)
            go_quiet (fail)
            go_wp2
            go_roundw
            case rel => exact ⟨j + 1, by omega, by go_num, below_drewN HBJ.out _⟩
            case measure => simp [intOf]; omega
          · have hjG : j = G.length := by omega
            have b7 : decide ((j : Int) < (G.length : Int)) = false := by simp; omega
            have HM3 := Lib.hid (HM2.out.later hbj)
            have hE3 := hE2.below hbj
            clear hbj
            have q0 := HM3.out.h0
            have q1 := HM3.out.h1
            have c0 : wr.cell? ⟨w.heap.size, 0, none⟩ = some (.int .i64 x.kind) := cell_at q0 rfl
            have c1 : wr.cell? ⟨w.heap.size, 1, none⟩ = some (.int .i64 x.a) := cell_at q0 rfl
            have c2 : wr.cell? ⟨w.heap.size, 2, none⟩ = some (.int .i64 x.b) := cell_at q0 rfl
            have c3 : wr.cell? ⟨w.heap.size, 3, none⟩ = some (.int .i64 x.c) := cell_at q0 rfl
            have c4 : wr.cell? ⟨w.heap.size, 4, none⟩ = some (.int .u64 x.v) := cell_at q0 rfl
            have hz0 := lt_of_heap q0
            have hz1 := lt_of_heap q1
            go_wp2_with fail
            refine (Line_any x hx _ hE3).mono ?_
            rintro e w3 hq3
            obtain ⟨hb3, sx, ex, rfl, hsx⟩ := line_cases hq3
            replace q1 := heap_later q1 hb3
            replace q0 := heap_later q0 hb3
            have hE4 := hE3.below hb3
            have HB3 := Lib.hid hb3
            clear c0 c1 c2 c3 c4 hq3 hb3
            have d0 : w3.cell? ⟨w.heap.size + 1, 0, none⟩ = some (.int .i64 y.kind) := cell_at q1 rfl
            have d1 : w3.cell? ⟨w.heap.size + 1, 1, none⟩ = some (.int .i64 y.a) := cell_at q1 rfl
            have d2 : w3.cell? ⟨w.heap.size + 1, 2, none⟩ = some (.int .i64 y.b) := cell_at q1 rfl
            have d3 : w3.cell? ⟨w.heap.size + 1, 3, none⟩ = some (.int .i64 y.c) := cell_at q1 rfl
            have d4 : w3.cell? ⟨w.heap.size + 1, 4, none⟩ = some (.int .u64 y.v) := cell_at q1 rfl
            have hz2 := lt_of_heap q1
            go_wp2_with fail
            refine (Line_any y hy _ hE4).mono ?_
            rintro e w4 hq4
            obtain ⟨hb4, sy, ey, rfl, hsy⟩ := line_cases hq4
            replace q1 := heap_later q1 hb4
            replace q0 := heap_later q0 hb4
            have hE5 := hE4.below hb4
            have HB4 := Lib.hid hb4
            clear d0 d1 d2 d3 d4 hq4 hb4
            go_wp2_with fail
            refine (awake_any _ hE5).mono ?_
            rintro e w5 ⟨rfl, hb5⟩
            replace q1 := heap_later q1 hb5
            replace q0 := heap_later q0 hb5
            have hfin : Below w.heap.size w w5 := HM3.out.below.trans (Below.mono (HB3.out.trans (Below.mono (HB4.out.trans (hb5.mono HB4.out.size)) HB3.out.size)) HM3.out.below.size)
            have HF := Lib.hid hfin
            clear hfin hb5
            have c0 : w5.cell? ⟨w.heap.size, 0, none⟩ = some (.int .i64 x.kind) := cell_at q0 rfl
            have c1 : w5.cell? ⟨w.heap.size, 1, none⟩ = some (.int .i64 x.a) := cell_at q0 rfl
            have c2 : w5.cell? ⟨w.heap.size, 2, none⟩ = some (.int .i64 x.b) := cell_at q0 rfl
            have c3 : w5.cell? ⟨w.heap.size, 3, none⟩ = some (.int .i64 x.c) := cell_at q0 rfl
            have c4 : w5.cell? ⟨w.heap.size, 4, none⟩ = some (.int .u64 x.v) := cell_at q0 rfl
            have d0 : w5.cell? ⟨w.heap.size + 1, 0, none⟩ = some (.int .i64 y.kind) := cell_at q1 rfl
            have d1 : w5.cell? ⟨w.heap.size + 1, 1, none⟩ = some (.int .i64 y.a) := cell_at q1 rfl
            have d2 : w5.cell? ⟨w.heap.size + 1, 2, none⟩ = some (.int .i64 y.b) := cell_at q1 rfl
            have d3 : w5.cell? ⟨w.heap.size + 1, 3, none⟩ = some (.int .i64 y.c) := cell_at q1 rfl
            have d4 : w5.cell? ⟨w.heap.size + 1, 4, none⟩ = some (.int .u64 y.v) := cell_at q1 rfl
            rcases hsx with ⟨rfl, hkx, hIx⟩ | rfl
            · rcases hsy with ⟨rfl, hky, hIy⟩ | rfl
              · by_cases hxy : x = y
                · subst hxy
                  obtain rfl : sx = sy := data_inj2 (hIx.2.2.symm.trans hIy.2.2)
                  have e9 : (sx.toList == sx.toList) = true := str_eq sx
                  go_wp2
                  all_goals go_ret
                  all_goals exact ⟨rfl, HF.out⟩
                · have hne : ¬ (x.kind = y.kind ∧ x.a = y.a ∧ x.b = y.b ∧ x.c = y.c ∧ x.v = y.v) := fun he => hxy (by
                    obtain ⟨a1, a2, a3, a4, a5⟩ := y
                    obtain ⟨b1, b2, b3, b4, b5⟩ := x
                    simp only at he
                    simp only [Tl.Stp.mk.injEq]
                    exact he)
                  have e9 : (sx.toList == sy.toList) = false := str_ne (fun h => hxy (hIx.inj (h ▸ hIy)))
                  have HNE := Lib.hid hne
                  clear hne hxy hIx hIy
                  go_wp2
                  all_goals first
                    | (exact (HNE.out ⟨by omega, by omega, by omega, by omega, by omega⟩).elim)
                    | (go_ret
                       exact ⟨rfl, HF.out⟩)
              · go_wp2
                all_goals go_ret
                all_goals exact ⟨rfl, HF.out⟩
            · clear hsy
              go_wp2
              all_goals go_ret
              all_goals exact ⟨rfl, HF.out⟩
end Go.Proofs.YtjhmeccdbcblbaaDoor
