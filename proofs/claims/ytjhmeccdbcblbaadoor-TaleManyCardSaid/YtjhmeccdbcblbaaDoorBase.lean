/- What the rows' lists and the world's shape give; the world of the witness. -/
import Derived.Test.YtjhmeccdbcblbaaDoorCards
import Derived.Test.YtjhmeccdbcblbaaDoorTie
import Derived.Test.YtjhmeccdbcblbaaDoorWl
import Derived.WalkKit
import Derived.ProofKit
import Derived.OpenShut
import Derived.Deep.DeepHandedRow
import Derived.Lib.LaidTab
import Derived.Lib.SmallJoins
import Derived.LaidMore
import Derived.Lay
import Derived.SevenTiedAt
import Derived.Stop.Joined
import Derived.Stop.LaidErr
import Derived.Shelf.Vars
import Derived.HandedShaped
set_option linter.unusedSimpArgs false
set_option linter.unusedVariables false
namespace Go.Proofs.YtjhmeccdbcblbaaDoor
open Go.ChangeShapes Go.WideShapes Go.ChangeAt Go.RowKit

theorem own : ownKnob Tryd.prog.godebug = none := by kernel_rfl
theorem laidOut : laidOutB Tryd.prog = true := by kernel_rfl
theorem low : Tryd.prog.low = 13 := by kernel_rfl
/-- the list of the rows -/
noncomputable def L : List (String × DataW Unit) := Rows.taleLinesRow.laid
theorem gPow : Tryd.prog.globalNamed "internal/strconv.uint64pow10" = some 1 := by kernel_rfl
theorem gPowType : (Tryd.prog.globals[1]?).map (·.type) = some 102 := by kernel_rfl
theorem gSyn : Tryd.prog.globalNamed "strconv.ErrSyntax" = some 2 := by kernel_rfl
theorem gSynType : (Tryd.prog.globals[2]?).map (·.type) = some 64 := by kernel_rfl
theorem gRng : Tryd.prog.globalNamed "strconv.ErrRange" = some 3 := by kernel_rfl
theorem gRngType : (Tryd.prog.globals[3]?).map (·.type) = some 64 := by kernel_rfl
theorem c22 : Tryd.prog.cellsOf 22 = 1 := by kernel_rfl
theorem c102 : Tryd.prog.cellsOf 102 = 20 := by kernel_rfl
theorem c120 : Tryd.prog.cellsOf 120 = 1 := by kernel_rfl
theorem c9 : Tryd.prog.cellsOf 9 = 1 := by kernel_rfl
theorem star : "*errors.errorString" = "*" ++ "errors.errorString" := by decide
theorem row118 : ∀ u, Tryd.prog.typeName? 3 u = some "*errors.errorString" → u = 118 := fun u h =>
  typeName_ptr_named (nm := "errors.errorString") (by rw [← star]; kernel_rfl) (by kernel_rfl) (by decide) u (by rw [← star]; exact h)

theorem plain_L : laidMetH Tryd.prog L = laidMet Tryd.prog L := by
  funext W
  exact MakeChecks.laidMetH_plain _ _ _ (by kernel_rfl)

theorem env_of {W : World} (hL : laidMetH Tryd.prog L W) (hs : W.ShapedOpen Tryd.prog) : Env W := by
  rw [plain_L] at hL
  have h3 : laidMet Tryd.prog (L.drop 2) W := laidMet.tail (laidMet.tail hL)
  have h5 : laidMet Tryd.prog (L.drop 4) W := laidMet.tail (laidMet.tail h3)
  refine ⟨?_, ?_, ?_, ?_, ?_⟩
  · have hlow : (begin Tryd.prog (fun _ _ => 0) default).world.heap.size = 13 := low
    have hg : Tryd.prog.globals.size = 8 := by kernel_rfl
    obtain ⟨o, o', ho, -⟩ := hs.2 12 (by omega) (by omega)
    have := (Array.getElem?_eq_some_iff.1 ho).1
    omega
  · exact cell_of_shapedOpen_int (P := Tryd.prog) (g := 0) (t := 3) (zero := #[.int .i64 0]) hs (of_decide_eq_true (by kernel_rfl)) (by kernel_rfl) rfl (by kernel_rfl) (by kernel_rfl) Tryd.underlying3
  · exact Lib.tabIs_of_head gPow gPowType Tryd.underlying102 Tryd.underlying22 c22 c102 h3
  · obtain ⟨a, _, hv, -⟩ := laid_sentinel (laidMet.tail h5) gSyn gSynType Tryd.underlying64 row118 Tryd.underlying118 Tryd.underlying120 rfl rfl Tryd.underlying9 c120 c9
    exact ⟨_, _, by rw [World.var?_cell gSyn hv 0]; rfl⟩
  · obtain ⟨a, _, hv, -⟩ := laid_sentinel h5 gRng gRngType Tryd.underlying64 row118 Tryd.underlying118 Tryd.underlying120 rfl rfl Tryd.underlying9 c120 c9
    exact ⟨_, _, by rw [World.var?_cell gRng hv 0]; rfl⟩

/-- the reading of the arguments stays -/
theorem below_trodAll {H : Type} {enc : TypeId × Value → H} {W W' : World} (hb : Below W.heap.size W W') : ∀ {ts : List TypeId} {vs : List Value} {ds : List (DataW H)} {ps : List MemPlace},
    (∀ t ∈ ts, Tryd.prog.readableRec t = true ∧ t < Tryd.prog.types.size) → DataW.TrodAll enc Tryd.prog W 0 (fun _ => true) true ts vs ds ps → (∀ x ∈ ps, x.block < W.heap.size) →
    DataW.TrodAll enc Tryd.prog W' 0 (fun b => decide (b < W.heap.size)) true ts vs ds ps
  | [], vs, ds, ps, _, h, _ => by
    obtain ⟨rfl, rfl, rfl⟩ := trodAll_nil h
    exact trodAll_mk0
  | t :: ts, vs, ds, ps, ht, h, hlt => by
    obtain ⟨v, vs', d, ds', p, q, rfl, rfl, rfl, h1, h2⟩ := trodAll_cons h
    exact trodAll_cons_mk (Below.trod laidOut (ht t (by simp)).1 (ht t (by simp)).2 h1 hb (fun x hx => hlt x (List.mem_append_left _ hx)))
      (below_trodAll hb (fun t' h' => ht t' (by simp [h'])) h2 (fun x hx => hlt x (List.mem_append_right _ hx)))

/-- what a law that answers true leaves -/
theorem post_true {H : Type} {enc : TypeId × Value → H} {f : Func} {s : ChangeSpec} {W W' : World} {args : Array Value} {ds gs : List (DataW H)} {before : List MemPlace}
    (hr : f.resultTypes = #[4]) (hvars : s.vars = []) (hp : ∀ t ∈ f.params.toList, Tryd.prog.readableRec t = true ∧ t < Tryd.prog.types.size)
    (hW : DataW.Whole enc Tryd.prog f.params.toList s.vars false W args.toList ds gs before)
    (hs : s.fn H (ds ++ gs) = { results := [.lit (.bool true)], args := ds }) (hb : Below W.heap.size W W') : s.post enc Tryd.prog f false true false false W args (.bool true) W' := by
  have hW' := hW
  obtain ⟨p, q, hA, hV, rfl, -, -⟩ := hW
  rw [hvars] at hV
  obtain ⟨rfl, rfl⟩ := trodVars_none hV
  refine ⟨_, _, _, [], p, [], hW', ?_, ?_, ?_, hb.frame _, fun h => by cases h⟩
  · rw [hs, hr]; exact trodAll_mk1 (shut_bool Tryd.underlying4 _)
  · rw [hs]; exact below_trodAll hb hp hA (fun x hx => hW'.lt x (by simp [hx]))
  · rw [hs, hvars]; rfl

theorem array5 {α : Type} {cs : Array α} (h : cs.size = 5) : ∃ c0 c1 c2 c3 c4, cs = #[c0, c1, c2, c3, c4] := by
  obtain ⟨l⟩ := cs
  match l, h with
  | [c0, c1, c2, c3, c4], _ => exact ⟨c0, c1, c2, c3, c4, rfl⟩
theorem c24 : Tryd.prog.cellsOf 24 = 5 := by kernel_rfl
theorem c3 : Tryd.prog.cellsOf 3 = 1 := by kernel_rfl
theorem wf_i64 {n : Int} (h : (Lit.int .i64 n).wf = true) : -9223372036854775808 ≤ n ∧ n ≤ 9223372036854775807 := bounds_i64 h
theorem wf_u64 {n : Int} (h : (Lit.int .u64 n).wf = true) : 0 ≤ n ∧ n ≤ 18446744073709551615 := bounds_u64 h
set_option maxRecDepth 10000 in
theorem open_cells {H : Type} {enc : TypeId × Value → H} {w : World} {base : Nat} {spare : Nat → Bool} {held : Bool} {fuel : Nat} {a b c d e : Value} {y : DataW H × List MemPlace}
    (h : DataW.trod enc Tryd.prog w base spare held fuel 24 [a, b, c, d, e] = some y) : ∃ x : Tl.Stp, x.ok ∧ #[a, b, c, d, e] = stepC x := by
  obtain ⟨xs, n, -, -, -, hlen, hf⟩ := DataW.trod_struct Tryd.underlying24 h
  have key : ∀ (i : Nat) (v : Value), i < 5 → (DataW.trod enc Tryd.prog w base spare held n 3 [v] = xs[i]?) → ∃ z, v = .int .i64 z ∧ (Lit.int .i64 z).wf = true := by
    intro i v hi hv
    rw [List.getElem?_eq_getElem (by rw [hlen]; exact hi)] at hv
    obtain ⟨z, h1, -, h3⟩ := DataW.trod_int Tryd.underlying3 hv
    exact ⟨z, by simpa using h1, h3⟩
  have key2 : ∀ (i : Nat) (v : Value), i < 5 → (DataW.trod enc Tryd.prog w base spare held n 22 [v] = xs[i]?) → ∃ z, v = .int .u64 z ∧ (Lit.int .u64 z).wf = true := by
    intro i v hi hv
    rw [List.getElem?_eq_getElem (by rw [hlen]; exact hi)] at hv
    obtain ⟨z, h1, -, h3⟩ := DataW.trod_int Tryd.underlying22 hv
    exact ⟨z, by simpa using h1, h3⟩
  have f0 : DataW.trod enc Tryd.prog w base spare held n 3 ((([a, b, c, d, e] : List Value).drop 0).take (Tryd.prog.cellsOf 3)) = xs[0]? := hf 0 _ rfl
  rw [c3] at f0
  have f1 : DataW.trod enc Tryd.prog w base spare held n 3 ((([a, b, c, d, e] : List Value).drop 1).take (Tryd.prog.cellsOf 3)) = xs[1]? := hf 1 _ rfl
  rw [c3] at f1
  have f2 : DataW.trod enc Tryd.prog w base spare held n 3 ((([a, b, c, d, e] : List Value).drop 2).take (Tryd.prog.cellsOf 3)) = xs[2]? := hf 2 _ rfl
  rw [c3] at f2
  have f3 : DataW.trod enc Tryd.prog w base spare held n 3 ((([a, b, c, d, e] : List Value).drop 3).take (Tryd.prog.cellsOf 3)) = xs[3]? := hf 3 _ rfl
  rw [c3] at f3
  have f4 : DataW.trod enc Tryd.prog w base spare held n 22 ((([a, b, c, d, e] : List Value).drop 4).take (Tryd.prog.cellsOf 22)) = xs[4]? := hf 4 _ rfl
  rw [c22] at f4
  obtain ⟨z0, rfl, w0⟩ := key 0 a (by decide) f0
  obtain ⟨z1, rfl, w1⟩ := key 1 b (by decide) f1
  obtain ⟨z2, rfl, w2⟩ := key 2 c (by decide) f2
  obtain ⟨z3, rfl, w3⟩ := key 3 d (by decide) f3
  obtain ⟨z4, rfl, w4⟩ := key2 4 e (by decide) f4
  have b4 := wf_u64 w4
  refine ⟨⟨z0, z1, z2, z3, z4.toNat⟩, ?_, ?_⟩
  · have b0 := wf_i64 w0
    have b1 := wf_i64 w1
    have b2 := wf_i64 w2
    have b3 := wf_i64 w3
    unfold Tl.Stp.ok
    simp only
    omega
  · unfold stepC
    simp only [Int.toNat_of_nonneg b4.1]
set_option maxRecDepth 100000 in
/-- an entry that came in -/
theorem open_stp {H : Type} {enc : TypeId × Value → H} {w : World} {base b0 : Nat} {spare : Nat → Bool} {held : Bool} {r : Reach} {v : Value} {d : DataW H} {p : List MemPlace}
    (hv : Value.okWide Tryd.prog w r b0 24 v) (h : DataW.Trod enc Tryd.prog w base spare held 24 v d p) : ∃ x : Tl.Stp, x.ok ∧ v = .agg (stepC x) := by
  obtain ⟨cs, rfl, hsz⟩ := okWide_struct Tryd.underlying24 hv
  obtain ⟨a, b, c, d, e, rfl⟩ := array5 (hsz.trans c24)
  obtain ⟨fuel, hf⟩ := h
  obtain ⟨x, hx, he⟩ := open_cells hf
  exact ⟨x, hx, by rw [he]⟩

theorem witness_env (os : Os) (args : Array Value) : laidMetH Tryd.prog L ((World.laidAll Tryd.prog os L).forCall (fun _ _ => 0) ⟨#[], args, []⟩).memory := by
  rw [plain_L]
  exact laidMet_laidAll _ (by kernel_rfl) (by kernel_rfl)
end Go.Proofs.YtjhmeccdbcblbaaDoor
