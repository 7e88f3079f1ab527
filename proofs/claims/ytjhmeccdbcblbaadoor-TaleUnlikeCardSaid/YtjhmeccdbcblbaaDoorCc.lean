/- TaleUnlike answers true for every entry, place and byte, in every memory that bears the listed variables as the text lays them; the arguments read as before. Conditions: the row of the card, nothing else. -/
import Derived.Test.YtjhmeccdbcblbaaDoorBase
import Derived.Test.YtjhmeccdbcblbaaDoorLc
set_option linter.unusedSimpArgs false
set_option linter.unusedVariables false
namespace Go.Proofs.YtjhmeccdbcblbaaDoor
open Go.ChangeShapes Go.WideShapes Go.ChangeAt Go.RowKit

set_option maxRecDepth 100000 in
set_option maxHeartbeats 1000000 in
theorem TaleUnlike_lifted (os : Os) (started : os.Started) (H : Type) (enc : TypeId × Value → H) (F : Stop.Interp) :
    ReturnsInHanded {} Tryd.checked os 7 .any ((OpenSpec.ofChange Rows.taleUnlikeSpec).preRow enc Tryd.prog Tryd.f7 Rows.taleUnlikeRow.domain false Rows.taleUnlikeRow.laid) (((OpenSpec.ofChange Rows.taleUnlikeSpec).at F).post enc Tryd.prog Tryd.f7 false true false false) := by
  refine returnsInHanded_of_row (C := Tryd.checked) (s := OpenSpec.ofChange Rows.taleUnlikeSpec) own started (by kernel_rfl) Tryd.func7 ?_ ?_
  · obtain ⟨w, tape, i, h1, h2, h3, h4, ⟨⟨⟨ds, gs, before, hw, hc⟩, hl⟩, hz⟩, h6⟩ := ChangeSpec.witness_shaped (enc := enc) (C := Tryd.checked) (os := os) (f := 7) (fn := Tryd.f7) (s := Rows.taleUnlikeSpec) (conds := Rows.taleUnlikeRow.domain) (apart := false) (X := fun w _ => laidMetH Tryd.prog L w) false
      (World.laidAll Tryd.prog os L) #[.agg #[.int .i64 0, .int .i64 0, .int .i64 0, .int .i64 0, .int .u64 0], .int .u8 0, .int .u8 0] 8 (World.laidAll_os _ _ _) (World.shaped_of_ZipB (by kernel_rfl) (by kernel_rfl)) (by kernel_rfl) (by kernel_rfl) (by kernel_rfl) (witness_env os _)
    exact ⟨w, tape, i, h1, h2, h3, h4, ⟨⟨OpenSpec.pre_of_parts hw hc (fun k hk => by cases hk), hl⟩, hz⟩, h6⟩
  intro W base args ds gs before hval0 hW _ _ _ hL hsh _
  have hval : ∀ (j : Nat) t v, Tryd.f7.params[j]? = some t → args[j]? = some v → Value.okWide Tryd.prog W .any base t v := hval0
  have hE : Env W := env_of hL hsh
  have hW' := hW
  obtain ⟨p, q, hA0, hV, rfl, -, -⟩ := hW
  obtain ⟨rfl, rfl⟩ := trodVars_none hV
  have hA : DataW.TrodAll enc Tryd.prog W 0 (fun _ => true) true Tryd.f7.params.toList args.toList ds p := hA0
  rw [Tryd.params7] at hA hval
  obtain ⟨v0, vs0, d0, ds0, p0, q0, hargs, rfl, rfl, h0, r0⟩ := trodAll_cons hA
  obtain ⟨v1, vs1, d1, ds1, p1, q1, rfl, rfl, rfl, h1, r1⟩ := trodAll_cons r0
  obtain ⟨v2, vs2, d2, ds2, p2, q2, rfl, rfl, rfl, h2, r2⟩ := trodAll_cons r1
  obtain ⟨rfl, rfl, rfl⟩ := trodAll_nil r2
  obtain rfl : args = #[v0, v1, v2] := by cases args; simp_all
  obtain ⟨x, hx, rfl⟩ := open_stp (hval 0 24 v0 rfl rfl) h0
  obtain ⟨a, rfl, rfl, rfl, wa⟩ := open_int Tryd.underlying5 (hval 1 5 v1 rfl rfl) h1
  obtain ⟨b, rfl, rfl, rfl, wb⟩ := open_int Tryd.underlying5 (hval 2 5 v2 rfl rfl) h2
  have ba := bounds_u8 wa
  have bb := bounds_u8 wb
  obtain ⟨a, rfl⟩ : ∃ m : Nat, a = m := ⟨a.toNat, by omega⟩
  obtain ⟨b, rfl⟩ : ∃ m : Nat, b = m := ⟨b.toNat, by omega⟩
  refine (TaleUnlike_any x hx a b (by omega) (by omega) W hE).mono fun e W' ⟨he, hb⟩ => ?_
  subst he
  exact ⟨_, rfl, post_true rfl rfl (by rw [Tryd.params7]; intro t ht; have hm : t ∈ ([24, 5, 5] : List TypeId) := by simpa using ht
                                       have hall : (([24, 5, 5] : List TypeId).all fun u => Tryd.prog.readableRec u && decide (u < Tryd.prog.types.size)) = true := by kernel_rfl
                                       simpa using List.all_eq_true.1 hall t hm) hW' rfl hb⟩

theorem TaleUnlike_said : Rows.TaleUnlikeSaid :=
  OpenClaim.holds_of_cond 7 Tryd.f7 rfl rfl rfl rfl rfl rfl rfl ⟨rfl, rfl, rfl, rfl, rfl⟩ rfl rfl rfl rfl rfl (by kernel_rfl) Tryd.func7 (by kernel_rfl)
    (of_decide_eq_true (by kernel_rfl)) (by unfold Func.isWrapper; first | (rw [if_pos (by decide +kernel)]; kernel_rfl) | (rw [if_neg (by decide +kernel)]; exact ⟨rfl, rfl⟩))
    (fun os started H enc _ F => by rw [OpenClaim.pre_eq_preRow]; exact TaleUnlike_lifted os started H enc F)

theorem TaleUnlike_plain (f : FuncId) (fn : Func) (hf : Tryd.pinned.checked.prog.funcNamed "tilth/tilthlaw23.TaleUnlike" = some f) (hfn : Tryd.pinned.checked.prog.funcs[f]? = some fn) :
    true = Tryd.pinned.checked.prog.looks [] ∧ ∀ (j : Nat) t, fn.params[j]? = some t → Tryd.pinned.checked.prog.wantsStandIn t = false := by
  obtain rfl : f = 7 := Option.some.inj ((show Tryd.prog.funcNamed "tilth/tilthlaw23.TaleUnlike" = some 7 by kernel_rfl).symm.trans hf) |>.symm
  obtain rfl : fn = Tryd.f7 := (Option.some.inj (Tryd.func7.symm.trans hfn)).symm
  refine ⟨by kernel_rfl, fun j t ht => ?_⟩
  rw [Tryd.params7] at ht
  have hm : t ∈ ([24, 5, 5] : List TypeId) := by simpa using Array.mem_of_getElem? ht
  have hall : (([24, 5, 5] : List TypeId).all fun u => !Tryd.prog.wantsStandIn u) = true := by kernel_rfl
  exact (show Tryd.prog.wantsStandIn t = false by simpa using List.all_eq_true.1 hall t hm)

theorem TaleUnlike_card : Rows.TaleUnlikeCardSaid :=
  Claim7.holds_tied_plain_at .later [] _ _ _ _ TaleUnlike_said (fun _ h => by cases h) (by kernel_rfl) (fun _ h => by cases h) taleUnlike_row_tie rfl ⟨rfl, rfl⟩ (by kernel_rfl) rfl TaleUnlike_plain (by kernel_rfl)
#print axioms TaleUnlike_card
end Go.Proofs.YtjhmeccdbcblbaaDoor
