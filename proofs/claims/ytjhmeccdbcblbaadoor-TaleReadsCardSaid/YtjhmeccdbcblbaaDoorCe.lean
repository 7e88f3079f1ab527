/- TaleReads answers true for every text, in every memory that bears the listed variables as the text lays them; the text reads as before. Conditions: the row of the card, nothing else. -/
import Derived.Test.YtjhmeccdbcblbaaDoorBase
import Derived.Test.YtjhmeccdbcblbaaDoorLe
set_option linter.unusedSimpArgs false
set_option linter.unusedVariables false
namespace Go.Proofs.YtjhmeccdbcblbaaDoor
open Go.ChangeShapes Go.WideShapes Go.ChangeAt Go.RowKit

set_option maxRecDepth 100000 in
set_option maxHeartbeats 1000000 in
theorem TaleReads_lifted (os : Os) (started : os.Started) (H : Type) (enc : TypeId × Value → H) (F : Stop.Interp) :
    ReturnsInHanded {} Tryd.checked os 5 .any ((OpenSpec.ofChange Rows.taleReadsSpec).preRow enc Tryd.prog Tryd.f5 Rows.taleReadsRow.domain false Rows.taleReadsRow.laid) (((OpenSpec.ofChange Rows.taleReadsSpec).at F).post enc Tryd.prog Tryd.f5 false true false false) := by
  refine returnsInHanded_of_row (C := Tryd.checked) (s := OpenSpec.ofChange Rows.taleReadsSpec) own started (by kernel_rfl) Tryd.func5 ?_ ?_
  · obtain ⟨w, tape, i, h1, h2, h3, h4, ⟨⟨⟨ds, gs, before, hw, hc⟩, hl⟩, hz⟩, h6⟩ := ChangeSpec.witness_shaped (enc := enc) (C := Tryd.checked) (os := os) (f := 5) (fn := Tryd.f5) (s := Rows.taleReadsSpec) (conds := Rows.taleReadsRow.domain) (apart := false) (X := fun w _ => laidMetH Tryd.prog L w) false
      (World.laidAll Tryd.prog os L) #[.string ⟨#[]⟩] 8 (World.laidAll_os _ _ _) (World.shaped_of_ZipB (by kernel_rfl) (by kernel_rfl)) (by kernel_rfl) (by kernel_rfl) (by kernel_rfl) (witness_env os _)
    exact ⟨w, tape, i, h1, h2, h3, h4, ⟨⟨OpenSpec.pre_of_parts hw hc (fun k hk => by cases hk), hl⟩, hz⟩, h6⟩
  intro W base args ds gs before hval0 hW _ _ _ hL hsh _
  have hval : ∀ (j : Nat) t v, Tryd.f5.params[j]? = some t → args[j]? = some v → Value.okWide Tryd.prog W .any base t v := hval0
  have hE : Env W := env_of hL hsh
  have hW' := hW
  obtain ⟨p, q, hA0, hV, rfl, -, -⟩ := hW
  obtain ⟨rfl, rfl⟩ := trodVars_none hV
  have hA : DataW.TrodAll enc Tryd.prog W 0 (fun _ => true) true Tryd.f5.params.toList args.toList ds p := hA0
  rw [Tryd.params5] at hA hval
  obtain ⟨v0, d0, rfl, rfl, h0⟩ := trodAll_one hA
  obtain ⟨s, rfl, rfl, rfl, hs⟩ := Go.ChangeMaps.open_string Tryd.underlying9 (hval 0 9 v0 rfl rfl) h0
  refine (TaleReads_any s W hE).mono fun e W' ⟨he, hb⟩ => ?_
  subst he
  exact ⟨_, rfl, post_true rfl rfl (by rw [Tryd.params5]; intro t ht; have hm : t ∈ ([9] : List TypeId) := by simpa using ht
                                       have hall : (([9] : List TypeId).all fun u => Tryd.prog.readableRec u && decide (u < Tryd.prog.types.size)) = true := by kernel_rfl
                                       simpa using List.all_eq_true.1 hall t hm) hW' rfl hb⟩

theorem TaleReads_said : Rows.TaleReadsSaid :=
  OpenClaim.holds_of_cond 5 Tryd.f5 rfl rfl rfl rfl rfl rfl rfl ⟨rfl, rfl, rfl, rfl, rfl⟩ rfl rfl rfl rfl rfl (by kernel_rfl) Tryd.func5 (by kernel_rfl)
    (of_decide_eq_true (by kernel_rfl)) (by unfold Func.isWrapper; first | (rw [if_pos (by decide +kernel)]; kernel_rfl) | (rw [if_neg (by decide +kernel)]; exact ⟨rfl, rfl⟩))
    (fun os started H enc _ F => by rw [OpenClaim.pre_eq_preRow]; exact TaleReads_lifted os started H enc F)

theorem TaleReads_plain (f : FuncId) (fn : Func) (hf : Tryd.pinned.checked.prog.funcNamed "tilth/tilthlaw23.TaleReads" = some f) (hfn : Tryd.pinned.checked.prog.funcs[f]? = some fn) :
    true = Tryd.pinned.checked.prog.looks [] ∧ ∀ (j : Nat) t, fn.params[j]? = some t → Tryd.pinned.checked.prog.wantsStandIn t = false := by
  obtain rfl : f = 5 := Option.some.inj ((show Tryd.prog.funcNamed "tilth/tilthlaw23.TaleReads" = some 5 by kernel_rfl).symm.trans hf) |>.symm
  obtain rfl : fn = Tryd.f5 := (Option.some.inj (Tryd.func5.symm.trans hfn)).symm
  refine ⟨by kernel_rfl, fun j t ht => ?_⟩
  rw [Tryd.params5] at ht
  have hm : t ∈ ([9] : List TypeId) := by simpa using Array.mem_of_getElem? ht
  have hall : (([9] : List TypeId).all fun u => !Tryd.prog.wantsStandIn u) = true := by kernel_rfl
  exact (show Tryd.prog.wantsStandIn t = false by simpa using List.all_eq_true.1 hall t hm)

theorem TaleReads_card : Rows.TaleReadsCardSaid :=
  Claim7.holds_tied_plain_at .later [] _ _ _ _ TaleReads_said (fun _ h => by cases h) (by kernel_rfl) (fun _ h => by cases h) taleReads_row_tie rfl ⟨rfl, rfl⟩ (by kernel_rfl) rfl TaleReads_plain (by kernel_rfl)
#print axioms TaleReads_card
end Go.Proofs.YtjhmeccdbcblbaaDoor
