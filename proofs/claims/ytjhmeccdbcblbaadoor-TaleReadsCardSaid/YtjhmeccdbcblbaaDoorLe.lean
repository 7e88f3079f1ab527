/- The walk of the law TaleReads. -/
import Derived.Test.YtjhmeccdbcblbaaDoorWl
import Derived.Test.YtjhmeccdbcblbaaDoorPd
import Derived.BigQuiet
set_option linter.unusedSimpArgs false
set_option linter.unusedVariables false
namespace Go.Proofs.YtjhmeccdbcblbaaDoor
open Go.RowKit Go.Sort
open Go.Lib (itoa decDigits join)
attribute [local go_sem] Oper.semAt_some

/-- what the loop of TaleReads keeps -/
structure TR (s : ByteArray) (w1 wr : World) (k f : Nat) : Prop where
  below : Below w1.heap.size w1 wr
  pre : ∃ pre : List ByteArray, lines s = pre ++ lines (s.extract f s.size) ∧ pre.length = k ∧ ∀ l ∈ pre, ∃ y, Tl.Is y (cut l).data.toList
  le : f ≤ s.size + 1 ∧ k ≤ f

theorem TR.start (s : ByteArray) (w1 : World) : TR s w1 w1 0 0 :=
  ⟨Below.refl _ _, ⟨[], by rw [ext_of, Lib.size_eq, List.take_length]; rfl, rfl, fun l h => by simp at h⟩, by omega⟩
theorem TR.next {s : ByteArray} {w1 wr wr' : World} {k f e : Nat} {x : ByteArray} (h : TR s w1 wr k f) (hb : Below wr.heap.size wr wr') (hx : lines (s.extract f s.size) = x :: lines (s.extract (e + 1) s.size)) (hy : ∃ y, Tl.Is y (cut x).data.toList)
    (hfe : f ≤ e) (he : e ≤ s.size) : TR s w1 wr' (k + 1) (e + 1) := by
  obtain ⟨h1, ⟨pre, h2, h3, h4⟩, h5⟩ := h
  refine ⟨h1.trans (hb.mono h1.size), ⟨pre ++ [x], by rw [h2, hx]; simp, by simp [h3], fun l hl => ?_⟩, by omega⟩
  rcases List.mem_append.1 hl with hl | hl
  · exact h4 l hl
  · simp at hl; subst hl; exact hy
theorem TR.done {s : ByteArray} {w1 wr : World} {k f : Nat} (h : TR s w1 wr k f) (hf : ¬ f < s.size) : (lines s).length = k ∧ ∀ l ∈ lines s, ∃ y, Tl.Is y (cut l).data.toList := by
  obtain ⟨h1, ⟨pre, h2, h3, h4⟩, h5⟩ := h
  have h6 : lines (s.extract f s.size) = [] := lines_none _ (by simp only [ByteArray.size_extract]; omega)
  rw [h2, h6, List.append_nil]
  exact ⟨h3, h4⟩
theorem TR.at {s : ByteArray} {w1 wr : World} {k f e : Nat} {x : ByteArray} (h : TR s w1 wr k f) (hx : lines (s.extract f s.size) = x :: lines (s.extract (e + 1) s.size)) : (lines s)[k]? = some x ∧ ∃ pre r, lines s = pre ++ x :: r ∧ pre.length = k ∧ ∀ l ∈ pre, ∃ y, Tl.Is y (cut l).data.toList := by
  obtain ⟨h1, ⟨pre, h2, h3, h4⟩, h5⟩ := h
  rw [h2, hx]
  exact ⟨by rw [List.getElem?_append_right (by omega), h3]; simp, pre, _, rfl, h3, h4⟩

theorem TR.drewN {s : ByteArray} {w1 wr : World} {k f : Nat} (h : TR s w1 wr k f) (n : Nat) : TR s w1 (wr.drewN n) k f := ⟨below_drewN h.below _, h.pre, h.le⟩
theorem byte_at (s : ByteArray) (e : Nat) (h : e < s.size) : s[e] = s.data.toList.getD e 0 := by
  have h2 : e < s.data.toList.length := by rw [← Lib.size_eq]; exact h
  rw [List.getD, List.getElem?_eq_getElem h2]
  rfl
set_option maxRecDepth 100000 in
set_option maxHeartbeats 4000000 in
theorem TaleReads_any (s : ByteArray) (w : World) (hE : Env w) : Calls Tryd.prog 5 #[.string s] w (TrueQ w) := by
  go_enter Tryd.func5, Tryd.ntmps5
  have hc : (20000 < s.size) ∨ (s.size ≤ 20000) := by omega
  rcases hc with hc | hc
  · have e1 : decide ((20000 : Int) < (s.size : Int)) = true := by simp; omega
    have hb : (20000 : Int) ≤ (s.size : Int) := by omega
    go_wp2_with fail
    have ht : (s.extract 0 20000).size ≤ 20000 := by simp only [ByteArray.size_extract]; omega
    generalize s.extract 0 20000 = t at *
    clear e1 hb
    refine (Read_any t (by omega) w hE).mono ?_
    rintro e w1 ⟨hb1, hq⟩
    have hE1 := hE.below hb1
    have HB1 := Lib.hid hb1
    clear hb1
    rcases hq with ⟨xs, v, hA, rfl, hown⟩ | ⟨pre0, x0, r0, xs0, hl0, hA0, hn0, rfl⟩
    · have hlen := hA.length
      obtain ⟨av, cv, rfl⟩ : ∃ a cap, v = .slice a xs.length cap := by
        rcases own_at hown with ⟨h1, h2⟩ | ⟨g, cap, hv, -⟩
        · exact ⟨none, 0, by rw [h2, h1]; rfl⟩
        · exact ⟨_, _, hv⟩
      have HA := Lib.hid (And.intro hA (And.intro hlen (own_at hown)))
      clear hA hlen hown
      go_wp2_with fail
      go_loopw [6, 7] (fun a b wr => ∃ (k f : Nat), a = .int .i64 k ∧ b = .int .i64 f ∧ TR t w1 wr k f) (fun a b _ => t.size + 1 - (intOf b).toNat)
      case atStart => exact ⟨0, 0, rfl, rfl, TR.start t w1⟩
      case round =>
        obtain ⟨k, f, rfl, rfl, hR⟩ := hrel
        have HR := Lib.hid hR
        have hle := hR.le
        have hErr := hE1.below hR.below
        clear hR
        by_cases hlt : f < t.size
        · have b1 : decide ((f : Int) < (t.size : Int)) = true := by simp; omega
          go_wp2_with fail
          go_loopw [8] (fun a wr' => ∃ e : Nat, a = .int .i64 e ∧ f ≤ e ∧ e ≤ t.size ∧ (∀ j, f ≤ j → j < e → t.data.toList.getD j 0 ≠ 10) ∧ wr' = wr) (fun a _ => t.size - (intOf a).toNat)
          case atStart => exact ⟨f, rfl, by omega, by omega, fun j h1 h2 => by omega, rfl⟩
          case round =>
            obtain ⟨e, rfl, hfe, hes, hno, rfl⟩ := hrel
            by_cases hcs : e < t.size ∧ t.data.toList.getD e 0 ≠ 10
            · obtain ⟨hlt2, hne⟩ := hcs
              have HNO := Lib.hid hno
              have b2 : decide ((e : Int) < (t.size : Int)) = true := by simp; omega
              have b3 : (((t[e]'hlt2).toNat : Int) != 10) = true := by
                rw [byte_at t e hlt2]
                have h4 : ((t.data.toList.getD e 0).toNat : Int) ≠ 10 := fun h => hne (UInt8.toNat_inj.1 (by rw [Int.ofNat_inj.1 h]; rfl))
                exact bne_iff_ne.2 h4
              clear hno
              go_wp2
              go_roundw
              case rel =>
                refine ⟨e + 1, by go_num, by omega, by omega, fun j h1 h2 => ?_, trivial⟩
                by_cases hj : j = e
                · subst hj; exact hne
                · exact HNO.out j h1 (by omega)
              case measure => simp [intOf]; omega
            · have hend : e = t.size ∨ t.data.toList.getD e 0 = 10 := by
                by_cases h1 : e = t.size
                · exact .inl h1
                · by_cases h2 : t.data.toList.getD e 0 = 10
                  · exact .inr h2
                  · exact absurd ⟨by omega, h2⟩ hcs
              obtain ⟨x, hx1, hx2⟩ := scan_line t f e hlt hfe hes hno hend
              obtain ⟨y, hy1, hy2⟩ := HA.out.1.get k x (HR.out.at hx1).1
              have hkx : k < xs.length := (List.getElem?_eq_some_iff.1 hy1).1
              rw [hx2] at hy2
              have HX := Lib.hid (And.intro hx1 hx2)
              have HY := Lib.hid hy2
              obtain ⟨g, cap, hsl, hgw, hcap, hgs, hgc⟩ := HA.out.2.2.resolve_left (fun h => by rw [h.1] at hkx; simp at hkx)
              have HC := Lib.hid (hgc k y hy1)
              obtain ⟨rfl, rfl⟩ : av = some ⟨g, 0, none⟩ ∧ cv = cap := by cases hsl; exact ⟨rfl, rfl⟩
              clear hx1 hx2 hy2 hno hgc hsl
              by_cases hes2 : e < t.size
              · have b2 : decide ((e : Int) < (t.size : Int)) = true := by simp; omega
                have b3 : (((t[e]'hes2).toNat : Int) != 10) = false := by
                  rw [byte_at t e hes2, hend.resolve_left (by omega)]; rfl
                go_wp2_with fail
                refine (Step_any (t.extract f e) (by simp only [ByteArray.size_extract]; omega) _ hErr).mono ?_
                rintro e2 w2 ⟨h1, -, hb2⟩
                obtain rfl := h1 y HY.out
                have HB2 := Lib.hid hb2
                have q1 := heap_new w2 (.cells (stepC y) 24)
                have hA1 := al (Below.refl _ w2) (.cells (stepC y) 24)
                have d0 : (w2.alloc (.cells (stepC y) 24)).cell? ⟨w2.heap.size, 0, none⟩ = some (.int .i64 y.kind) := cell_at q1 rfl
                have d1 : (w2.alloc (.cells (stepC y) 24)).cell? ⟨w2.heap.size, 1, none⟩ = some (.int .i64 y.a) := cell_at q1 rfl
                have d2 : (w2.alloc (.cells (stepC y) 24)).cell? ⟨w2.heap.size, 2, none⟩ = some (.int .i64 y.b) := cell_at q1 rfl
                have d3 : (w2.alloc (.cells (stepC y) 24)).cell? ⟨w2.heap.size, 3, none⟩ = some (.int .i64 y.c) := cell_at q1 rfl
                have d4 : (w2.alloc (.cells (stepC y) 24)).cell? ⟨w2.heap.size, 4, none⟩ = some (.int .u64 y.v) := cell_at q1 rfl
                have hbb := (HR.out.below.trans (hb2.mono HR.out.below.size)).trans (hA1.mono (HR.out.below.trans (hb2.mono HR.out.below.size)).size)
                have c0 : (w2.alloc (.cells (stepC y) 24)).cell? ⟨g, k * 5, none⟩ = some (.int .i64 y.kind) := by rw [hbb.cell (by simp; omega)]; exact HC.out 0 _ rfl
                have c1 : (w2.alloc (.cells (stepC y) 24)).cell? ⟨g, k * 5 + 1, none⟩ = some (.int .i64 y.a) := by rw [hbb.cell (by simp; omega)]; exact HC.out 1 _ rfl
                have c2 : (w2.alloc (.cells (stepC y) 24)).cell? ⟨g, k * 5 + 2, none⟩ = some (.int .i64 y.b) := by rw [hbb.cell (by simp; omega)]; exact HC.out 2 _ rfl
                have c3 : (w2.alloc (.cells (stepC y) 24)).cell? ⟨g, k * 5 + 3, none⟩ = some (.int .i64 y.c) := by rw [hbb.cell (by simp; omega)]; exact HC.out 3 _ rfl
                have c4 : (w2.alloc (.cells (stepC y) 24)).cell? ⟨g, k * 5 + 4, none⟩ = some (.int .u64 y.v) := by rw [hbb.cell (by simp; omega)]; exact HC.out 4 _ rfl
                have HN := Lib.hid (HR.out.next (hb2.trans (hA1.mono hb2.size)) HX.out.1 ⟨y, by rw [HX.out.2]; exact HY.out⟩ hfe hes)
                have b5 : decide ((xs.length : Int) < (k : Int) + 1) = false := by simp; omega
                have b6 : IntKind.i64.wrap ((k : Int) + 1) = (k : Int) + 1 := by rw [IntKind.wrap_i64]; omega
                clear hb2 hA1 hbb h1 q1
                unfold stepC at d0 d1 d2 d3 d4 c0 c1 c2 c3 c4
                unfold stepC
                go_upto_region 13 with (fail)
                go_quiet (fail)
                go_wp2
                go_roundw
                case rel => exact ⟨k + 1, e + 1, by go_num, by go_num, HN.out.drewN _⟩
                case measure => simp [intOf]; omega
              · have b2 : decide ((e : Int) < (t.size : Int)) = false := by simp; omega
                go_wp2_with fail
                refine (Step_any (t.extract f e) (by simp only [ByteArray.size_extract]; omega) _ hErr).mono ?_
                rintro e2 w2 ⟨h1, -, hb2⟩
                obtain rfl := h1 y HY.out
                have HB2 := Lib.hid hb2
                have q1 := heap_new w2 (.cells (stepC y) 24)
                have hA1 := al (Below.refl _ w2) (.cells (stepC y) 24)
                have d0 : (w2.alloc (.cells (stepC y) 24)).cell? ⟨w2.heap.size, 0, none⟩ = some (.int .i64 y.kind) := cell_at q1 rfl
                have d1 : (w2.alloc (.cells (stepC y) 24)).cell? ⟨w2.heap.size, 1, none⟩ = some (.int .i64 y.a) := cell_at q1 rfl
                have d2 : (w2.alloc (.cells (stepC y) 24)).cell? ⟨w2.heap.size, 2, none⟩ = some (.int .i64 y.b) := cell_at q1 rfl
                have d3 : (w2.alloc (.cells (stepC y) 24)).cell? ⟨w2.heap.size, 3, none⟩ = some (.int .i64 y.c) := cell_at q1 rfl
                have d4 : (w2.alloc (.cells (stepC y) 24)).cell? ⟨w2.heap.size, 4, none⟩ = some (.int .u64 y.v) := cell_at q1 rfl
                have hbb := (HR.out.below.trans (hb2.mono HR.out.below.size)).trans (hA1.mono (HR.out.below.trans (hb2.mono HR.out.below.size)).size)
                have c0 : (w2.alloc (.cells (stepC y) 24)).cell? ⟨g, k * 5, none⟩ = some (.int .i64 y.kind) := by rw [hbb.cell (by simp; omega)]; exact HC.out 0 _ rfl
                have c1 : (w2.alloc (.cells (stepC y) 24)).cell? ⟨g, k * 5 + 1, none⟩ = some (.int .i64 y.a) := by rw [hbb.cell (by simp; omega)]; exact HC.out 1 _ rfl
                have c2 : (w2.alloc (.cells (stepC y) 24)).cell? ⟨g, k * 5 + 2, none⟩ = some (.int .i64 y.b) := by rw [hbb.cell (by simp; omega)]; exact HC.out 2 _ rfl
                have c3 : (w2.alloc (.cells (stepC y) 24)).cell? ⟨g, k * 5 + 3, none⟩ = some (.int .i64 y.c) := by rw [hbb.cell (by simp; omega)]; exact HC.out 3 _ rfl
                have c4 : (w2.alloc (.cells (stepC y) 24)).cell? ⟨g, k * 5 + 4, none⟩ = some (.int .u64 y.v) := by rw [hbb.cell (by simp; omega)]; exact HC.out 4 _ rfl
                have HN := Lib.hid (HR.out.next (hb2.trans (hA1.mono hb2.size)) HX.out.1 ⟨y, by rw [HX.out.2]; exact HY.out⟩ hfe hes)
                have b5 : decide ((xs.length : Int) < (k : Int) + 1) = false := by simp; omega
                have b6 : IntKind.i64.wrap ((k : Int) + 1) = (k : Int) + 1 := by rw [IntKind.wrap_i64]; omega
                clear hb2 hA1 hbb h1 q1
                unfold stepC at d0 d1 d2 d3 d4 c0 c1 c2 c3 c4
                unfold stepC
                go_upto_region 13 with (fail)
                go_quiet (fail)
                go_wp2
                go_roundw
                case rel => exact ⟨k + 1, e + 1, by go_num, by go_num, HN.out.drewN _⟩
                case measure => simp [intOf]; omega
        · have b1 : decide ((f : Int) < (t.size : Int)) = false := by simp; omega
          have hdn : xs.length = k := HA.out.2.1.trans (HR.out.done hlt).1
          go_wp2_with fail
          refine (awake_any _ hErr).mono ?_
          rintro e w4 ⟨rfl, hb4⟩
          have HB4 := Lib.hid hb4
          have b7 : ((xs.length : Int) == (k : Int)) = true := by simp; omega
          clear hb4
          go_wp2
          go_ret
          exact ⟨rfl, HB1.out.trans ((HR.out.below.trans (HB4.out.mono HR.out.below.size)).mono HB1.out.size)⟩
    · have HL := Lib.hid (And.intro hl0 (And.intro hA0 hn0))
      clear hl0 hA0 hn0
      go_wp2_with fail
      go_loopw [6, 7] (fun a b wr => ∃ (k f : Nat), a = .int .i64 k ∧ b = .int .i64 f ∧ TR t w1 wr k f) (fun a b _ => t.size + 1 - (intOf b).toNat)
      case atStart => exact ⟨0, 0, rfl, rfl, TR.start t w1⟩
      case round =>
        obtain ⟨k, f, rfl, rfl, hR⟩ := hrel
        have HR := Lib.hid hR
        have hle := hR.le
        have hErr := hE1.below hR.below
        clear hR
        by_cases hlt : f < t.size
        · have b1 : decide ((f : Int) < (t.size : Int)) = true := by simp; omega
          go_wp2_with fail
          go_loopw [8] (fun a wr' => ∃ e : Nat, a = .int .i64 e ∧ f ≤ e ∧ e ≤ t.size ∧ (∀ j, f ≤ j → j < e → t.data.toList.getD j 0 ≠ 10) ∧ wr' = wr) (fun a _ => t.size - (intOf a).toNat)
          case atStart => exact ⟨f, rfl, by omega, by omega, fun j h1 h2 => by omega, rfl⟩
          case round =>
            obtain ⟨e, rfl, hfe, hes, hno, rfl⟩ := hrel
            by_cases hcs : e < t.size ∧ t.data.toList.getD e 0 ≠ 10
            · obtain ⟨hlt2, hne⟩ := hcs
              have HNO := Lib.hid hno
              have b2 : decide ((e : Int) < (t.size : Int)) = true := by simp; omega
              have b3 : (((t[e]'hlt2).toNat : Int) != 10) = true := by
                rw [byte_at t e hlt2]
                have h4 : ((t.data.toList.getD e 0).toNat : Int) ≠ 10 := fun h => hne (UInt8.toNat_inj.1 (by rw [Int.ofNat_inj.1 h]; rfl))
                exact bne_iff_ne.2 h4
              clear hno
              go_wp2
              go_roundw
              case rel =>
                refine ⟨e + 1, by go_num, by omega, by omega, fun j h1 h2 => ?_, trivial⟩
                by_cases hj : j = e
                · subst hj; exact hne
                · exact HNO.out j h1 (by omega)
              case measure => simp [intOf]; omega
            · have hend : e = t.size ∨ t.data.toList.getD e 0 = 10 := by
                by_cases h1 : e = t.size
                · exact .inl h1
                · by_cases h2 : t.data.toList.getD e 0 = 10
                  · exact .inr h2
                  · exact absurd ⟨by omega, h2⟩ hcs
              obtain ⟨x, hx1, hx2⟩ := scan_line t f e hlt hfe hes hno hend
              have HX := Lib.hid (And.intro hx1 hx2)
              clear hx1 hx2 hno
              by_cases hes2 : e < t.size
              · have b2 : decide ((e : Int) < (t.size : Int)) = true := by simp; omega
                have b3 : (((t[e]'hes2).toNat : Int) != 10) = false := by
                  rw [byte_at t e hes2, hend.resolve_left (by omega)]; rfl
                go_wp2_with fail
                refine (Step_any (t.extract f e) (by simp only [ByteArray.size_extract]; omega) _ hErr).mono ?_
                rintro e2 w2 ⟨h1, h2, hb2⟩
                have HB2 := Lib.hid hb2
                have HR2 := Lib.hid (HR.out.below.trans (hb2.mono HR.out.below.size))
                by_cases hex : ∃ y, Tl.Is y (t.extract f e).data.toList
                · obtain ⟨y, hy⟩ := hex
                  obtain rfl := h1 y hy
                  have hA1 := al (Below.refl _ w2) (.cells (stepC y) 24)
                  have HN := Lib.hid (HR.out.next (hb2.trans (hA1.mono hb2.size)) HX.out.1 ⟨y, by rw [HX.out.2]; exact hy⟩ hfe hes)
                  have b6 : IntKind.i64.wrap ((k : Int) + 1) = (k : Int) + 1 := by rw [IntKind.wrap_i64]; omega
                  clear hb2 hA1 h1 h2 hy
                  unfold stepC
                  go_upto_region 13 with (fail)
                  go_quiet (fail)
                  go_wp2
                  go_roundw
                  case rel => exact ⟨k + 1, e + 1, by go_num, by go_num, HN.out.drewN _⟩
                  case measure => simp [intOf]; omega
                · obtain rfl := h2 hex
                  have hA1 := al (Below.refl _ w2) (.cells (stepC zeroS) 24)
                  have hE5 := (hErr.below hb2).below hA1
                  have hkk : pre0.length = k := by
                    obtain ⟨-, pre, r, h3, h4, h5⟩ := HR.out.at HX.out.1
                    rw [← h4]
                    exact congrArg List.length (first_fail (P := fun l => ∃ y, Tl.Is y (cut l).data.toList) (HL.out.1.symm.trans h3) (HL.out.2.1.all) h5 HL.out.2.2 (by rw [HX.out.2]; exact hex))
                  have HA1 := Lib.hid hA1
                  have b6 : IntKind.i64.wrap ((k : Int) + 1) = (k : Int) + 1 := by rw [IntKind.wrap_i64]; omega
                  subst hkk
                  clear hb2 hA1 h1 h2 hex
                  unfold stepC zeroS
                  go_wp2_with fail
                  refine (awake_any _ hE5).mono ?_
                  rintro e w4 ⟨rfl, hb4⟩
                  have HB4 := Lib.hid hb4
                  clear hb4
                  go_wp2
                  go_ret
                  refine ⟨rfl, HB1.out.trans (Below.mono ?_ HB1.out.size)⟩
                  refine HR2.out.trans (Below.mono ?_ HR2.out.size)
                  exact HA1.out.trans (HB4.out.mono HA1.out.size)
              · have b2 : decide ((e : Int) < (t.size : Int)) = false := by simp; omega
                go_wp2_with fail
                refine (Step_any (t.extract f e) (by simp only [ByteArray.size_extract]; omega) _ hErr).mono ?_
                rintro e2 w2 ⟨h1, h2, hb2⟩
                have HB2 := Lib.hid hb2
                have HR2 := Lib.hid (HR.out.below.trans (hb2.mono HR.out.below.size))
                by_cases hex : ∃ y, Tl.Is y (t.extract f e).data.toList
                · obtain ⟨y, hy⟩ := hex
                  obtain rfl := h1 y hy
                  have hA1 := al (Below.refl _ w2) (.cells (stepC y) 24)
                  have HN := Lib.hid (HR.out.next (hb2.trans (hA1.mono hb2.size)) HX.out.1 ⟨y, by rw [HX.out.2]; exact hy⟩ hfe hes)
                  have b6 : IntKind.i64.wrap ((k : Int) + 1) = (k : Int) + 1 := by rw [IntKind.wrap_i64]; omega
                  clear hb2 hA1 h1 h2 hy
                  unfold stepC
                  go_upto_region 13 with (fail)
                  go_quiet (fail)
                  go_wp2
                  go_roundw
                  case rel => exact ⟨k + 1, e + 1, by go_num, by go_num, HN.out.drewN _⟩
                  case measure => simp [intOf]; omega
                · obtain rfl := h2 hex
                  have hA1 := al (Below.refl _ w2) (.cells (stepC zeroS) 24)
                  have hE5 := (hErr.below hb2).below hA1
                  have hkk : pre0.length = k := by
                    obtain ⟨-, pre, r, h3, h4, h5⟩ := HR.out.at HX.out.1
                    rw [← h4]
                    exact congrArg List.length (first_fail (P := fun l => ∃ y, Tl.Is y (cut l).data.toList) (HL.out.1.symm.trans h3) (HL.out.2.1.all) h5 HL.out.2.2 (by rw [HX.out.2]; exact hex))
                  have HA1 := Lib.hid hA1
                  have b6 : IntKind.i64.wrap ((k : Int) + 1) = (k : Int) + 1 := by rw [IntKind.wrap_i64]; omega
                  subst hkk
                  clear hb2 hA1 h1 h2 hex
                  unfold stepC zeroS
                  go_wp2_with fail
                  refine (awake_any _ hE5).mono ?_
                  rintro e w4 ⟨rfl, hb4⟩
                  have HB4 := Lib.hid hb4
                  clear hb4
                  go_wp2
                  go_ret
                  refine ⟨rfl, HB1.out.trans (Below.mono ?_ HB1.out.size)⟩
                  refine HR2.out.trans (Below.mono ?_ HR2.out.size)
                  exact HA1.out.trans (HB4.out.mono HA1.out.size)
        · have hx0 := (HR.out.done hlt).2 x0 (by rw [HL.out.1]; simp)
          exact absurd hx0 HL.out.2.2
  · have e1 : decide ((20000 : Int) < (s.size : Int)) = false := by simp; omega
    go_wp2_with fail
    clear e1
    refine (Read_any s (by omega) w hE).mono ?_
    rintro e w1 ⟨hb1, hq⟩
    have hE1 := hE.below hb1
    have HB1 := Lib.hid hb1
    clear hb1
    rcases hq with ⟨xs, v, hA, rfl, hown⟩ | ⟨pre0, x0, r0, xs0, hl0, hA0, hn0, rfl⟩
    · have hlen := hA.length
      obtain ⟨av, cv, rfl⟩ : ∃ a cap, v = .slice a xs.length cap := by
        rcases own_at hown with ⟨h1, h2⟩ | ⟨g, cap, hv, -⟩
        · exact ⟨none, 0, by rw [h2, h1]; rfl⟩
        · exact ⟨_, _, hv⟩
      have HA := Lib.hid (And.intro hA (And.intro hlen (own_at hown)))
      clear hA hlen hown
      go_wp2_with fail
      go_loopw [6, 7] (fun a b wr => ∃ (k f : Nat), a = .int .i64 k ∧ b = .int .i64 f ∧ TR s w1 wr k f) (fun a b _ => s.size + 1 - (intOf b).toNat)
      case atStart => exact ⟨0, 0, rfl, rfl, TR.start s w1⟩
      case round =>
        obtain ⟨k, f, rfl, rfl, hR⟩ := hrel
        have HR := Lib.hid hR
        have hle := hR.le
        have hErr := hE1.below hR.below
        clear hR
        by_cases hlt : f < s.size
        · have b1 : decide ((f : Int) < (s.size : Int)) = true := by simp; omega
          go_wp2_with fail
          go_loopw [8] (fun a wr' => ∃ e : Nat, a = .int .i64 e ∧ f ≤ e ∧ e ≤ s.size ∧ (∀ j, f ≤ j → j < e → s.data.toList.getD j 0 ≠ 10) ∧ wr' = wr) (fun a _ => s.size - (intOf a).toNat)
          case atStart => exact ⟨f, rfl, by omega, by omega, fun j h1 h2 => by omega, rfl⟩
          case round =>
            obtain ⟨e, rfl, hfe, hes, hno, rfl⟩ := hrel
            by_cases hcs : e < s.size ∧ s.data.toList.getD e 0 ≠ 10
            · obtain ⟨hlt2, hne⟩ := hcs
              have HNO := Lib.hid hno
              have b2 : decide ((e : Int) < (s.size : Int)) = true := by simp; omega
              have b3 : (((s[e]'hlt2).toNat : Int) != 10) = true := by
                rw [byte_at s e hlt2]
                have h4 : ((s.data.toList.getD e 0).toNat : Int) ≠ 10 := fun h => hne (UInt8.toNat_inj.1 (by rw [Int.ofNat_inj.1 h]; rfl))
                exact bne_iff_ne.2 h4
              clear hno
              go_wp2
              go_roundw
              case rel =>
                refine ⟨e + 1, by go_num, by omega, by omega, fun j h1 h2 => ?_, trivial⟩
                by_cases hj : j = e
                · subst hj; exact hne
                · exact HNO.out j h1 (by omega)
              case measure => simp [intOf]; omega
            · have hend : e = s.size ∨ s.data.toList.getD e 0 = 10 := by
                by_cases h1 : e = s.size
                · exact .inl h1
                · by_cases h2 : s.data.toList.getD e 0 = 10
                  · exact .inr h2
                  · exact absurd ⟨by omega, h2⟩ hcs
              obtain ⟨x, hx1, hx2⟩ := scan_line s f e hlt hfe hes hno hend
              obtain ⟨y, hy1, hy2⟩ := HA.out.1.get k x (HR.out.at hx1).1
              have hkx : k < xs.length := (List.getElem?_eq_some_iff.1 hy1).1
              rw [hx2] at hy2
              have HX := Lib.hid (And.intro hx1 hx2)
              have HY := Lib.hid hy2
              obtain ⟨g, cap, hsl, hgw, hcap, hgs, hgc⟩ := HA.out.2.2.resolve_left (fun h => by rw [h.1] at hkx; simp at hkx)
              have HC := Lib.hid (hgc k y hy1)
              obtain ⟨rfl, rfl⟩ : av = some ⟨g, 0, none⟩ ∧ cv = cap := by cases hsl; exact ⟨rfl, rfl⟩
              clear hx1 hx2 hy2 hno hgc hsl
              by_cases hes2 : e < s.size
              · have b2 : decide ((e : Int) < (s.size : Int)) = true := by simp; omega
                have b3 : (((s[e]'hes2).toNat : Int) != 10) = false := by
                  rw [byte_at s e hes2, hend.resolve_left (by omega)]; rfl
                go_wp2_with fail
                refine (Step_any (s.extract f e) (by simp only [ByteArray.size_extract]; omega) _ hErr).mono ?_
                rintro e2 w2 ⟨h1, -, hb2⟩
                obtain rfl := h1 y HY.out
                have HB2 := Lib.hid hb2
                have q1 := heap_new w2 (.cells (stepC y) 24)
                have hA1 := al (Below.refl _ w2) (.cells (stepC y) 24)
                have d0 : (w2.alloc (.cells (stepC y) 24)).cell? ⟨w2.heap.size, 0, none⟩ = some (.int .i64 y.kind) := cell_at q1 rfl
                have d1 : (w2.alloc (.cells (stepC y) 24)).cell? ⟨w2.heap.size, 1, none⟩ = some (.int .i64 y.a) := cell_at q1 rfl
                have d2 : (w2.alloc (.cells (stepC y) 24)).cell? ⟨w2.heap.size, 2, none⟩ = some (.int .i64 y.b) := cell_at q1 rfl
                have d3 : (w2.alloc (.cells (stepC y) 24)).cell? ⟨w2.heap.size, 3, none⟩ = some (.int .i64 y.c) := cell_at q1 rfl
                have d4 : (w2.alloc (.cells (stepC y) 24)).cell? ⟨w2.heap.size, 4, none⟩ = some (.int .u64 y.v) := cell_at q1 rfl
                have hbb := (HR.out.below.trans (hb2.mono HR.out.below.size)).trans (hA1.mono (HR.out.below.trans (hb2.mono HR.out.below.size)).size)
                have c0 : (w2.alloc (.cells (stepC y) 24)).cell? ⟨g, k * 5, none⟩ = some (.int .i64 y.kind) := by rw [hbb.cell (by simp; omega)]; exact HC.out 0 _ rfl
                have c1 : (w2.alloc (.cells (stepC y) 24)).cell? ⟨g, k * 5 + 1, none⟩ = some (.int .i64 y.a) := by rw [hbb.cell (by simp; omega)]; exact HC.out 1 _ rfl
                have c2 : (w2.alloc (.cells (stepC y) 24)).cell? ⟨g, k * 5 + 2, none⟩ = some (.int .i64 y.b) := by rw [hbb.cell (by simp; omega)]; exact HC.out 2 _ rfl
                have c3 : (w2.alloc (.cells (stepC y) 24)).cell? ⟨g, k * 5 + 3, none⟩ = some (.int .i64 y.c) := by rw [hbb.cell (by simp; omega)]; exact HC.out 3 _ rfl
                have c4 : (w2.alloc (.cells (stepC y) 24)).cell? ⟨g, k * 5 + 4, none⟩ = some (.int .u64 y.v) := by rw [hbb.cell (by simp; omega)]; exact HC.out 4 _ rfl
                have HN := Lib.hid (HR.out.next (hb2.trans (hA1.mono hb2.size)) HX.out.1 ⟨y, by rw [HX.out.2]; exact HY.out⟩ hfe hes)
                have b5 : decide ((xs.length : Int) < (k : Int) + 1) = false := by simp; omega
                have b6 : IntKind.i64.wrap ((k : Int) + 1) = (k : Int) + 1 := by rw [IntKind.wrap_i64]; omega
                clear hb2 hA1 hbb h1 q1
                unfold stepC at d0 d1 d2 d3 d4 c0 c1 c2 c3 c4
                unfold stepC
                go_upto_region 13 with (fail)
                go_quiet (fail)
                go_wp2
                go_roundw
                case rel => exact ⟨k + 1, e + 1, by go_num, by go_num, HN.out.drewN _⟩
                case measure => simp [intOf]; omega
              · have b2 : decide ((e : Int) < (s.size : Int)) = false := by simp; omega
                go_wp2_with fail
                refine (Step_any (s.extract f e) (by simp only [ByteArray.size_extract]; omega) _ hErr).mono ?_
                rintro e2 w2 ⟨h1, -, hb2⟩
                obtain rfl := h1 y HY.out
                have HB2 := Lib.hid hb2
                have q1 := heap_new w2 (.cells (stepC y) 24)
                have hA1 := al (Below.refl _ w2) (.cells (stepC y) 24)
                have d0 : (w2.alloc (.cells (stepC y) 24)).cell? ⟨w2.heap.size, 0, none⟩ = some (.int .i64 y.kind) := cell_at q1 rfl
                have d1 : (w2.alloc (.cells (stepC y) 24)).cell? ⟨w2.heap.size, 1, none⟩ = some (.int .i64 y.a) := cell_at q1 rfl
                have d2 : (w2.alloc (.cells (stepC y) 24)).cell? ⟨w2.heap.size, 2, none⟩ = some (.int .i64 y.b) := cell_at q1 rfl
                have d3 : (w2.alloc (.cells (stepC y) 24)).cell? ⟨w2.heap.size, 3, none⟩ = some (.int .i64 y.c) := cell_at q1 rfl
                have d4 : (w2.alloc (.cells (stepC y) 24)).cell? ⟨w2.heap.size, 4, none⟩ = some (.int .u64 y.v) := cell_at q1 rfl
                have hbb := (HR.out.below.trans (hb2.mono HR.out.below.size)).trans (hA1.mono (HR.out.below.trans (hb2.mono HR.out.below.size)).size)
                have c0 : (w2.alloc (.cells (stepC y) 24)).cell? ⟨g, k * 5, none⟩ = some (.int .i64 y.kind) := by rw [hbb.cell (by simp; omega)]; exact HC.out 0 _ rfl
                have c1 : (w2.alloc (.cells (stepC y) 24)).cell? ⟨g, k * 5 + 1, none⟩ = some (.int .i64 y.a) := by rw [hbb.cell (by simp; omega)]; exact HC.out 1 _ rfl
                have c2 : (w2.alloc (.cells (stepC y) 24)).cell? ⟨g, k * 5 + 2, none⟩ = some (.int .i64 y.b) := by rw [hbb.cell (by simp; omega)]; exact HC.out 2 _ rfl
                have c3 : (w2.alloc (.cells (stepC y) 24)).cell? ⟨g, k * 5 + 3, none⟩ = some (.int .i64 y.c) := by rw [hbb.cell (by simp; omega)]; exact HC.out 3 _ rfl
                have c4 : (w2.alloc (.cells (stepC y) 24)).cell? ⟨g, k * 5 + 4, none⟩ = some (.int .u64 y.v) := by rw [hbb.cell (by simp; omega)]; exact HC.out 4 _ rfl
                have HN := Lib.hid (HR.out.next (hb2.trans (hA1.mono hb2.size)) HX.out.1 ⟨y, by rw [HX.out.2]; exact HY.out⟩ hfe hes)
                have b5 : decide ((xs.length : Int) < (k : Int) + 1) = false := by simp; omega
                have b6 : IntKind.i64.wrap ((k : Int) + 1) = (k : Int) + 1 := by rw [IntKind.wrap_i64]; omega
                clear hb2 hA1 hbb h1 q1
                unfold stepC at d0 d1 d2 d3 d4 c0 c1 c2 c3 c4
                unfold stepC
                go_upto_region 13 with (fail)
                go_quiet (fail)
                go_wp2
                go_roundw
                case rel => exact ⟨k + 1, e + 1, by go_num, by go_num, HN.out.drewN _⟩
                case measure => simp [intOf]; omega
        · have b1 : decide ((f : Int) < (s.size : Int)) = false := by simp; omega
          have hdn : xs.length = k := HA.out.2.1.trans (HR.out.done hlt).1
          go_wp2_with fail
          refine (awake_any _ hErr).mono ?_
          rintro e w4 ⟨rfl, hb4⟩
          have HB4 := Lib.hid hb4
          have b7 : ((xs.length : Int) == (k : Int)) = true := by simp; omega
          clear hb4
          go_wp2
          go_ret
          exact ⟨rfl, HB1.out.trans ((HR.out.below.trans (HB4.out.mono HR.out.below.size)).mono HB1.out.size)⟩
    · have HL := Lib.hid (And.intro hl0 (And.intro hA0 hn0))
      clear hl0 hA0 hn0
      go_wp2_with fail
      go_loopw [6, 7] (fun a b wr => ∃ (k f : Nat), a = .int .i64 k ∧ b = .int .i64 f ∧ TR s w1 wr k f) (fun a b _ => s.size + 1 - (intOf b).toNat)
      case atStart => exact ⟨0, 0, rfl, rfl, TR.start s w1⟩
      case round =>
        obtain ⟨k, f, rfl, rfl, hR⟩ := hrel
        have HR := Lib.hid hR
        have hle := hR.le
        have hErr := hE1.below hR.below
        clear hR
        by_cases hlt : f < s.size
        · have b1 : decide ((f : Int) < (s.size : Int)) = true := by simp; omega
          go_wp2_with fail
          go_loopw [8] (fun a wr' => ∃ e : Nat, a = .int .i64 e ∧ f ≤ e ∧ e ≤ s.size ∧ (∀ j, f ≤ j → j < e → s.data.toList.getD j 0 ≠ 10) ∧ wr' = wr) (fun a _ => s.size - (intOf a).toNat)
          case atStart => exact ⟨f, rfl, by omega, by omega, fun j h1 h2 => by omega, rfl⟩
          case round =>
            obtain ⟨e, rfl, hfe, hes, hno, rfl⟩ := hrel
            by_cases hcs : e < s.size ∧ s.data.toList.getD e 0 ≠ 10
            · obtain ⟨hlt2, hne⟩ := hcs
              have HNO := Lib.hid hno
              have b2 : decide ((e : Int) < (s.size : Int)) = true := by simp; omega
              have b3 : (((s[e]'hlt2).toNat : Int) != 10) = true := by
                rw [byte_at s e hlt2]
                have h4 : ((s.data.toList.getD e 0).toNat : Int) ≠ 10 := fun h => hne (UInt8.toNat_inj.1 (by rw [Int.ofNat_inj.1 h]; rfl))
                exact bne_iff_ne.2 h4
              clear hno
              go_wp2
              go_roundw
              case rel =>
                refine ⟨e + 1, by go_num, by omega, by omega, fun j h1 h2 => ?_, trivial⟩
                by_cases hj : j = e
                · subst hj; exact hne
                · exact HNO.out j h1 (by omega)
              case measure => simp [intOf]; omega
            · have hend : e = s.size ∨ s.data.toList.getD e 0 = 10 := by
                by_cases h1 : e = s.size
                · exact .inl h1
                · by_cases h2 : s.data.toList.getD e 0 = 10
                  · exact .inr h2
                  · exact absurd ⟨by omega, h2⟩ hcs
              obtain ⟨x, hx1, hx2⟩ := scan_line s f e hlt hfe hes hno hend
              have HX := Lib.hid (And.intro hx1 hx2)
              clear hx1 hx2 hno
              by_cases hes2 : e < s.size
              · have b2 : decide ((e : Int) < (s.size : Int)) = true := by simp; omega
                have b3 : (((s[e]'hes2).toNat : Int) != 10) = false := by
                  rw [byte_at s e hes2, hend.resolve_left (by omega)]; rfl
                go_wp2_with fail
                refine (Step_any (s.extract f e) (by simp only [ByteArray.size_extract]; omega) _ hErr).mono ?_
                rintro e2 w2 ⟨h1, h2, hb2⟩
                have HB2 := Lib.hid hb2
                have HR2 := Lib.hid (HR.out.below.trans (hb2.mono HR.out.below.size))
                by_cases hex : ∃ y, Tl.Is y (s.extract f e).data.toList
                · obtain ⟨y, hy⟩ := hex
                  obtain rfl := h1 y hy
                  have hA1 := al (Below.refl _ w2) (.cells (stepC y) 24)
                  have HN := Lib.hid (HR.out.next (hb2.trans (hA1.mono hb2.size)) HX.out.1 ⟨y, by rw [HX.out.2]; exact hy⟩ hfe hes)
                  have b6 : IntKind.i64.wrap ((k : Int) + 1) = (k : Int) + 1 := by rw [IntKind.wrap_i64]; omega
                  clear hb2 hA1 h1 h2 hy
                  unfold stepC
                  go_upto_region 13 with (fail)
                  go_quiet (fail)
                  go_wp2
                  go_roundw
                  case rel => exact ⟨k + 1, e + 1, by go_num, by go_num, HN.out.drewN _⟩
                  case measure => simp [intOf]; omega
                · obtain rfl := h2 hex
                  have hA1 := al (Below.refl _ w2) (.cells (stepC zeroS) 24)
                  have hE5 := (hErr.below hb2).below hA1
                  have hkk : pre0.length = k := by
                    obtain ⟨-, pre, r, h3, h4, h5⟩ := HR.out.at HX.out.1
                    rw [← h4]
                    exact congrArg List.length (first_fail (P := fun l => ∃ y, Tl.Is y (cut l).data.toList) (HL.out.1.symm.trans h3) (HL.out.2.1.all) h5 HL.out.2.2 (by rw [HX.out.2]; exact hex))
                  have HA1 := Lib.hid hA1
                  have b6 : IntKind.i64.wrap ((k : Int) + 1) = (k : Int) + 1 := by rw [IntKind.wrap_i64]; omega
                  subst hkk
                  clear hb2 hA1 h1 h2 hex
                  unfold stepC zeroS
                  go_wp2_with fail
                  refine (awake_any _ hE5).mono ?_
                  rintro e w4 ⟨rfl, hb4⟩
                  have HB4 := Lib.hid hb4
                  clear hb4
                  go_wp2
                  go_ret
                  refine ⟨rfl, HB1.out.trans (Below.mono ?_ HB1.out.size)⟩
                  refine HR2.out.trans (Below.mono ?_ HR2.out.size)
                  exact HA1.out.trans (HB4.out.mono HA1.out.size)
              · have b2 : decide ((e : Int) < (s.size : Int)) = false := by simp; omega
                go_wp2_with fail
                refine (Step_any (s.extract f e) (by simp only [ByteArray.size_extract]; omega) _ hErr).mono ?_
                rintro e2 w2 ⟨h1, h2, hb2⟩
                have HB2 := Lib.hid hb2
                have HR2 := Lib.hid (HR.out.below.trans (hb2.mono HR.out.below.size))
                by_cases hex : ∃ y, Tl.Is y (s.extract f e).data.toList
                · obtain ⟨y, hy⟩ := hex
                  obtain rfl := h1 y hy
                  have hA1 := al (Below.refl _ w2) (.cells (stepC y) 24)
                  have HN := Lib.hid (HR.out.next (hb2.trans (hA1.mono hb2.size)) HX.out.1 ⟨y, by rw [HX.out.2]; exact hy⟩ hfe hes)
                  have b6 : IntKind.i64.wrap ((k : Int) + 1) = (k : Int) + 1 := by rw [IntKind.wrap_i64]; omega
                  clear hb2 hA1 h1 h2 hy
                  unfold stepC
                  go_upto_region 13 with (fail)
                  go_quiet (fail)
                  go_wp2
                  go_roundw
                  case rel => exact ⟨k + 1, e + 1, by go_num, by go_num, HN.out.drewN _⟩
                  case measure => simp [intOf]; omega
                · obtain rfl := h2 hex
                  have hA1 := al (Below.refl _ w2) (.cells (stepC zeroS) 24)
                  have hE5 := (hErr.below hb2).below hA1
                  have hkk : pre0.length = k := by
                    obtain ⟨-, pre, r, h3, h4, h5⟩ := HR.out.at HX.out.1
                    rw [← h4]
                    exact congrArg List.length (first_fail (P := fun l => ∃ y, Tl.Is y (cut l).data.toList) (HL.out.1.symm.trans h3) (HL.out.2.1.all) h5 HL.out.2.2 (by rw [HX.out.2]; exact hex))
                  have HA1 := Lib.hid hA1
                  have b6 : IntKind.i64.wrap ((k : Int) + 1) = (k : Int) + 1 := by rw [IntKind.wrap_i64]; omega
                  subst hkk
                  clear hb2 hA1 h1 h2 hex
                  unfold stepC zeroS
                  go_wp2_with fail
                  refine (awake_any _ hE5).mono ?_
                  rintro e w4 ⟨rfl, hb4⟩
                  have HB4 := Lib.hid hb4
                  clear hb4
                  go_wp2
                  go_ret
                  refine ⟨rfl, HB1.out.trans (Below.mono ?_ HB1.out.size)⟩
                  refine HR2.out.trans (Below.mono ?_ HR2.out.size)
                  exact HA1.out.trans (HB4.out.mono HA1.out.size)
        · have hx0 := (HR.out.done hlt).2 x0 (by rw [HL.out.1]; simp)
          exact absurd hx0 HL.out.2.2
end Go.Proofs.YtjhmeccdbcblbaaDoor
