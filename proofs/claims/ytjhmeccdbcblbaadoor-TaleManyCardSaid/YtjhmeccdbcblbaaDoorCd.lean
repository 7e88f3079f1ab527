/- TaleMany answers true for every slice of entries and every two entries, in every memory that bears the listed variables as the text lays them; the arguments read as before. Conditions: the row of the card, nothing else. -/
import Derived.Test.YtjhmeccdbcblbaaDoorBase
import Derived.Test.YtjhmeccdbcblbaaDoorPe
set_option linter.unusedSimpArgs false
set_option linter.unusedVariables false
namespace Go.Proofs.YtjhmeccdbcblbaaDoor
open Go.ChangeShapes Go.WideShapes Go.ChangeAt Go.RowKit

set_option maxRecDepth 100000 in
set_option maxHeartbeats 1000000 in
theorem TaleMany_lifted (os : Os) (started : os.Started) (H : Type) (enc : TypeId × Value → H) (F : Stop.Interp) :
    ReturnsInHanded {} Tryd.checked os 6 .any ((OpenSpec.ofChange Rows.taleManySpec).preRow enc Tryd.prog Tryd.f6 Rows.taleManyRow.domain false Rows.taleManyRow.laid) (((OpenSpec.ofChange Rows.taleManySpec).at F).post enc Tryd.prog Tryd.f6 false true false false) := by
  refine returnsInHanded_of_row (C := Tryd.checked) (s := OpenSpec.ofChange Rows.taleManySpec) own started (by kernel_rfl) Tryd.func6 ?_ ?_
  · obtain ⟨w, tape, i, h1, h2, h3, h4, ⟨⟨⟨ds, gs, before, hw, hc⟩, hl⟩, hz⟩, h6⟩ := ChangeSpec.witness_shaped (enc := enc) (C := Tryd.checked) (os := os) (f := 6) (fn := Tryd.f6) (s := Rows.taleManySpec) (conds := Rows.taleManyRow.domain) (apart := false) (X := fun w _ => laidMetH Tryd.prog L w) false
      (World.laidAll Tryd.prog os L) #[.slice none 0 0, .agg #[.int .i64 0, .int .i64 0, .int .i64 0, .int .i64 0, .int .u64 0], .agg #[.int .i64 0, .int .i64 0, .int .i64 0, .int .i64 0, .int .u64 0]] 8 (World.laidAll_os _ _ _) (World.shaped_of_ZipB (by kernel_rfl) (by kernel_rfl)) (by kernel_rfl) (by kernel_rfl) (by kernel_rfl) (witness_env os _)
    exact ⟨w, tape, i, h1, h2, h3, h4, ⟨⟨OpenSpec.pre_of_parts hw hc (fun k hk => by cases hk), hl⟩, hz⟩, h6⟩
  intro W base args ds gs before hval0 hW _ _ _ hL hsh _
  have hval : ∀ (j : Nat) t v, Tryd.f6.params[j]? = some t → args[j]? = some v → Value.okWide Tryd.prog W .any base t v := hval0
  have hE : Env W := env_of hL hsh
  have hW' := hW
  obtain ⟨p, q, hA0, hV, rfl, -, -⟩ := hW
  obtain ⟨rfl, rfl⟩ := trodVars_none hV
  have hA : DataW.TrodAll enc Tryd.prog W 0 (fun _ => true) true Tryd.f6.params.toList args.toList ds p := hA0
  rw [Tryd.params6] at hA hval
  obtain ⟨v0, vs0, d0, ds0, p0, q0, hargs, rfl, rfl, h0, r0⟩ := trodAll_cons hA
  obtain ⟨v1, vs1, d1, ds1, p1, q1, rfl, rfl, rfl, h1, r1⟩ := trodAll_cons r0
  obtain ⟨v2, vs2, d2, ds2, p2, q2, rfl, rfl, rfl, h2, r2⟩ := trodAll_cons r1
  obtain ⟨rfl, rfl, rfl⟩ := trodAll_nil r2
  obtain rfl : args = #[v0, v1, v2] := by cases args; simp_all
  obtain ⟨n, X, hLi⟩ := open_steps (hval 0 35 v0 rfl rfl) h0
  obtain ⟨x, hx, rfl⟩ := open_stp (hval 1 24 v1 rfl rfl) h1
  obtain ⟨y, hy, rfl⟩ := open_stp (hval 2 24 v2 rfl rfl) h2
  refine (TaleMany_any v0 n X x y hx hy W hLi hE).mono fun e W' ⟨he, hb⟩ => ?_
  subst he
  exact ⟨_, rfl, post_true rfl rfl (by rw [Tryd.params6]; intro t ht; have hm : t ∈ ([35, 24, 24] : List TypeId) := by simpa using ht
                                       have hall : (([35, 24, 24] : List TypeId).all fun u => Tryd.prog.readableRec u && decide (u < Tryd.prog.types.size)) = true := by kernel_rfl
                                       simpa using List.all_eq_true.1 hall t hm) hW' rfl hb⟩

theorem TaleMany_said : Rows.TaleManySaid :=
  OpenClaim.holds_of_cond 6 Tryd.f6 rfl rfl rfl rfl rfl rfl rfl ⟨rfl, rfl, rfl, rfl, rfl⟩ rfl rfl rfl rfl rfl (by kernel_rfl) Tryd.func6 (by kernel_rfl)
    (of_decide_eq_true (by kernel_rfl)) (by unfold Func.isWrapper; first | (rw [if_pos (by decide +kernel)]; kernel_rfl) | (rw [if_neg (by decide +kernel)]; exact ⟨rfl, rfl⟩))
    (fun os started H enc _ F => by rw [OpenClaim.pre_eq_preRow]; exact TaleMany_lifted os started H enc F)

theorem TaleMany_plain (f : FuncId) (fn : Func) (hf : Tryd.pinned.checked.prog.funcNamed "tilth/tilthlaw23.TaleMany" = some f) (hfn : Tryd.pinned.checked.prog.funcs[f]? = some fn) :
    true = Tryd.pinned.checked.prog.looks [] ∧ ∀ (j : Nat) t, fn.params[j]? = some t → Tryd.pinned.checked.prog.wantsStandIn t = false := by
  obtain rfl : f = 6 := Option.some.inj ((show Tryd.prog.funcNamed "tilth/tilthlaw23.TaleMany" = some 6 by kernel_rfl).symm.trans hf) |>.symm
  obtain rfl : fn = Tryd.f6 := (Option.some.inj (Tryd.func6.symm.trans hfn)).symm
  refine ⟨by kernel_rfl, fun j t ht => ?_⟩
  rw [Tryd.params6] at ht
  have hm : t ∈ ([35, 24, 24] : List TypeId) := by simpa using Array.mem_of_getElem? ht
  have hall : (([35, 24, 24] : List TypeId).all fun u => !Tryd.prog.wantsStandIn u) = true := by kernel_rfl
  exact (show Tryd.prog.wantsStandIn t = false by simpa using List.all_eq_true.1 hall t hm)

theorem TaleMany_card : Rows.TaleManyCardSaid :=
  Claim7.holds_tied_plain_at .later [] _ _ _ _ TaleMany_said (fun _ h => by cases h) (by kernel_rfl) (fun _ h => by cases h) taleMany_row_tie rfl ⟨rfl, rfl⟩ (by kernel_rfl) rfl TaleMany_plain (by kernel_rfl)
#print axioms TaleMany_card
end Go.Proofs.YtjhmeccdbcblbaaDoor
