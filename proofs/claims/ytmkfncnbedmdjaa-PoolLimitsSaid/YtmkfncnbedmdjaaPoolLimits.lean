/- It is proved that pagemendlaw10.PoolLimits returns true at every input and leaves its arguments as they were. Conditions: none beyond those of the given row. -/
import Derived.Test.YtmkfncnbedmdjaaRows
import Derived.Test.YtmkfncnbedmdjaaPoB
import Derived.Test.YtmkfncnbedmdjaaAbsL

namespace Go.Proofs.Ytmkfncnbedmdjaa
open Go.ChangeShapes Go.WideShapes Go.ChangeAt Go.RowKit

theorem Try.own : ownKnob Try.prog.godebug = none := by kernel_rfl
theorem Try.laidOut : laidOutB Try.prog = true := by kernel_rfl
theorem Try.cells5 : Try.prog.cellsOf 5 = 1 := by kernel_rfl

set_option maxRecDepth 100000 in
theorem poolLimits_contract (H : Type) (enc : TypeId × Value → H) (W : World) (base : Nat) (args : Array Value) (ds gs : List (DataW H)) (before : List MemPlace)
    (hval : ∀ (j : Nat) t v, Try.f5.params[j]? = some t → args[j]? = some v → Value.okWide Try.prog W .any base t v)
    (hW : DataW.Whole enc Try.prog Try.f5.params.toList Rows.poolLimitsSpec.vars false W args.toList ds gs before) :
    Calls Try.prog 5 args W fun e W' => ∃ v, e = .returned v ∧ Rows.poolLimitsSpec.post enc Try.prog Try.f5 false true false false W args v W' := by
  have hW' := hW
  obtain ⟨p, q, hA0, hV, rfl, hfz, hnd⟩ := hW
  have hA : DataW.TrodAll enc Try.prog W 0 (fun _ => true) true Try.f5.params.toList args.toList ds p := hA0
  rw [Try.params5] at hA hval
  obtain ⟨v0, v1, d0, d1, p0, p1, rfl, rfl, rfl, h0, h1⟩ := trodAll_two hA
  obtain ⟨rfl, rfl⟩ := trodVars_none hV
  obtain ⟨b, rfl, rfl, rfl, wb⟩ := open_int Try.underlying5 (hval 0 5 v0 rfl rfl) h0
  obtain ⟨l, rfl, rfl, rfl, wl⟩ := open_int Try.underlying5 (hval 1 5 v1 rfl rfl) h1
  have hb : Ab.goLawPL b l = true := by
    have h1 := Ab.wf_byte wb
    have h2 := Ab.wf_byte wl
    simp only [Ab.goLawPL, Bool.and_eq_true, decide_eq_true_iff]
    exact ⟨h1.1, h1.2, h2.1, h2.2⟩
  refine (Ab.run_ent Ab.ok5 (qs := [.val (.int .u8 b), .val (.int .u8 l)]) (c := .chk (Ab.goLawPL b l)) (r := (.val (.bool true), [])) rfl hb (args := #[.int .u8 b, .int .u8 l]) rfl (Ab.rp_all2 (.val _ _ (.int _ _)) (.val _ _ (.int _ _)))).mono ?_
  rintro e W' ⟨v, rfl, S', bs', hk, _, _, _, hr⟩
  rcases hr with ⟨x, hx, hv⟩ | ⟨k, o, B, c, arr, e, hx, _⟩
  case inr => cases hx
  injection hx with hx1 hx2
  injection hx1 with hx1
  subst hx1
  have hv := Ab.rv_true hv
  subst hv
  have hbel := Ab.keep_below hk
  refine ⟨_, rfl, _, _, _, [], [], [], hW', trodAll_mk1 (shut_bool Try.underlying4 _), ?_, ?_, hbel.frame _, fun h => by cases h⟩
  · exact trodAll_mk2 (shut_int (enc := enc) (P := Try.prog) (w := W') (base := 0) (spare := fun b => decide (b < W.heap.size)) (held := true) Try.underlying5 wb) (shut_int Try.underlying5 wl)
  · first | rfl | exact ⟨rfl, rfl⟩ | simp [DataW.TrodVars]

set_option maxRecDepth 100000 in
theorem poolLimits_lifted (os : Os) (started : os.Started) (H : Type) (enc : TypeId × Value → H) :
    ReturnsInHanded {} Try.checked os 5 .any (Rows.poolLimitsSpec.pre6 enc Try.prog Try.f5 Rows.poolLimitsRow.domain false) (Rows.poolLimitsSpec.post enc Try.prog Try.f5 false true false false) := by
  refine returnsInHanded_of_change (C := Try.checked) Try.own started (by kernel_rfl) Try.func5
    (ChangeSpec.witness6 (enc := enc) (C := Try.checked) false ⟨#[], #[.int .u8 0, .int .u8 0], []⟩ 8 (by kernel_rfl) (by kernel_rfl) (by kernel_rfl) (by kernel_rfl)) ?_
  intro W base args ds gs before hval hW _ _
  exact poolLimits_contract H enc W base args ds gs before hval hW

theorem poolLimits_holds : Rows.PoolLimitsSaid :=
  OpenClaim.holds_of_wide 5 Try.f5 rfl rfl rfl rfl rfl rfl rfl ⟨rfl, rfl, rfl, rfl, rfl⟩ rfl rfl rfl rfl rfl (by kernel_rfl) Try.func5 (by kernel_rfl)
    (of_decide_eq_true (by kernel_rfl)) (by unfold Func.isWrapper; first | (rw [if_pos (by decide +kernel)]; kernel_rfl) | (rw [if_neg (by decide +kernel)]; exact ⟨rfl, rfl⟩))
    (fun os started H enc _ => poolLimits_lifted os started H enc)

end Go.Proofs.Ytmkfncnbedmdjaa
