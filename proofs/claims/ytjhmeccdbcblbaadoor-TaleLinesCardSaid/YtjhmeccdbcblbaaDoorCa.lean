/- TaleLines answers true for every entry, in every memory that bears the listed variables as the text lays them; the entry reads as before. Conditions: the row of the card, nothing else. -/
import Derived.Test.YtjhmeccdbcblbaaDoorBase
import Derived.Test.YtjhmeccdbcblbaaDoorLa
set_option linter.unusedSimpArgs false
set_option linter.unusedVariables false
namespace Go.Proofs.YtjhmeccdbcblbaaDoor
open Go.ChangeShapes Go.WideShapes Go.ChangeAt Go.RowKit

set_option maxRecDepth 100000 in
set_option maxHeartbeats 1000000 in
theorem TaleLines_lifted (os : Os) (started : os.Started) (H : Type) (enc : TypeId × Value → H) (F : Stop.Interp) :
    ReturnsInHanded {} Tryd.checked os 3 .any ((OpenSpec.ofChange Rows.taleLinesSpec).preRow enc Tryd.prog Tryd.f3 Rows.taleLinesRow.domain false Rows.taleLinesRow.laid) (((OpenSpec.ofChange Rows.taleLinesSpec).at F).post enc Tryd.prog Tryd.f3 false true false false) := by
  refine returnsInHanded_of_row (C := Tryd.checked) (s := OpenSpec.ofChange Rows.taleLinesSpec) own started (by kernel_rfl) Tryd.func3 ?_ ?_
  · obtain ⟨w, tape, i, h1, h2, h3, h4, ⟨⟨⟨ds, gs, before, hw, hc⟩, hl⟩, hz⟩, h6⟩ := ChangeSpec.witness_shaped (enc := enc) (C := Tryd.checked) (os := os) (f := 3) (fn := Tryd.f3) (s := Rows.taleLinesSpec) (conds := Rows.taleLinesRow.domain) (apart := false) (X := fun w _ => laidMetH Tryd.prog L w) false
      (World.laidAll Tryd.prog os L) #[.agg #[.int .i64 0, .int .i64 0, .int .i64 0, .int .i64 0, .int .u64 0]] 8 (World.laidAll_os _ _ _) (World.shaped_of_ZipB (by kernel_rfl) (by kernel_rfl)) (by kernel_rfl) (by kernel_rfl) (by kernel_rfl) (witness_env os _)
    exact ⟨w, tape, i, h1, h2, h3, h4, ⟨⟨OpenSpec.pre_of_parts hw hc (fun k hk => by cases hk), hl⟩, hz⟩, h6⟩
  intro W base args ds gs before hval0 hW _ _ _ hL hsh _
  have hval : ∀ (j : Nat) t v, Tryd.f3.params[j]? = some t → args[j]? = some v → Value.okWide Tryd.prog W .any base t v := hval0
  have hE : Env W := env_of hL hsh
  have hW' := hW
  obtain ⟨p, q, hA0, hV, rfl, -, -⟩ := hW
  obtain ⟨rfl, rfl⟩ := trodVars_none hV
  have hA : DataW.TrodAll enc Tryd.prog W 0 (fun _ => true) true Tryd.f3.params.toList args.toList ds p := hA0
  rw [Tryd.params3] at hA hval
  obtain ⟨v0, d0, rfl, rfl, h0⟩ := trodAll_one hA
  obtain ⟨x, hx, rfl⟩ := open_stp (hval 0 24 v0 rfl rfl) h0
  refine (TaleLines_any x hx W hE).mono fun e W' ⟨he, hb⟩ => ?_
  subst he
  exact ⟨_, rfl, post_true rfl rfl (by rw [Tryd.params3]; intro t ht; have hm : t ∈ ([24] : List TypeId) := by simpa using ht
                                       have hall : (([24] : List TypeId).all fun u => Tryd.prog.readableRec u && decide (u < Tryd.prog.types.size)) = true := by kernel_rfl
                                       simpa using List.all_eq_true.1 hall t hm) hW' rfl hb⟩

theorem TaleLines_said : Rows.TaleLinesSaid :=
  OpenClaim.holds_of_cond 3 Tryd.f3 rfl rfl rfl rfl rfl rfl rfl ⟨rfl, rfl, rfl, rfl, rfl⟩ rfl rfl rfl rfl rfl (by kernel_rfl) Tryd.func3 (by kernel_rfl)
    (of_decide_eq_true (by kernel_rfl)) (by unfold Func.isWrapper; first | (rw [if_pos (by decide +kernel)]; kernel_rfl) | (rw [if_neg (by decide +kernel)]; exact ⟨rfl, rfl⟩))
    (fun os started H enc _ F => by rw [OpenClaim.pre_eq_preRow]; exact TaleLines_lifted os started H enc F)

theorem TaleLines_plain (f : FuncId) (fn : Func) (hf : Tryd.pinned.checked.prog.funcNamed "tilth/tilthlaw23.TaleLines" = some f) (hfn : Tryd.pinned.checked.prog.funcs[f]? = some fn) :
    true = Tryd.pinned.checked.prog.looks [] ∧ ∀ (j : Nat) t, fn.params[j]? = some t → Tryd.pinned.checked.prog.wantsStandIn t = false := by
  obtain rfl : f = 3 := Option.some.inj ((show Tryd.prog.funcNamed "tilth/tilthlaw23.TaleLines" = some 3 by kernel_rfl).symm.trans hf) |>.symm
  obtain rfl : fn = Tryd.f3 := (Option.some.inj (Tryd.func3.symm.trans hfn)).symm
  refine ⟨by kernel_rfl, fun j t ht => ?_⟩
  rw [Tryd.params3] at ht
  have hm : t ∈ ([24] : List TypeId) := by simpa using Array.mem_of_getElem? ht
  have hall : (([24] : List TypeId).all fun u => !Tryd.prog.wantsStandIn u) = true := by kernel_rfl
  exact (show Tryd.prog.wantsStandIn t = false by simpa using List.all_eq_true.1 hall t hm)

theorem TaleLines_card : Rows.TaleLinesCardSaid :=
  Claim7.holds_tied_plain_at .later [] _ _ _ _ TaleLines_said (fun _ h => by cases h) (by kernel_rfl) (fun _ h => by cases h) taleLines_row_tie rfl ⟨rfl, rfl⟩ (by kernel_rfl) rfl TaleLines_plain (by kernel_rfl)
#print axioms TaleLines_card
end Go.Proofs.YtjhmeccdbcblbaaDoor
