/- It is proved that pagemendlaw10.PoolDirty returns true at every input and leaves its arguments as they were. Conditions: none beyond those of the given row. -/
import Derived.Test.YtmkfncnbedmdjaaRows
import Derived.Test.YtmkfncnbedmdjaaPoC
import Derived.Test.YtmkfncnbedmdjaaAbsL

namespace Go.Proofs.Ytmkfncnbedmdjaa
open Go.ChangeShapes Go.WideShapes Go.ChangeAt Go.RowKit

theorem Try.own : ownKnob Try.prog.godebug = none := by kernel_rfl
theorem Try.laidOut : laidOutB Try.prog = true := by kernel_rfl
theorem Try.cells5 : Try.prog.cellsOf 5 = 1 := by kernel_rfl
theorem Try.read22 : Try.prog.readableRec 22 = true := by kernel_rfl
theorem Try.lt22 : 22 < Try.prog.types.size := of_decide_eq_true (by kernel_rfl)

set_option maxRecDepth 100000 in
theorem poolDirty_contract (H : Type) (enc : TypeId × Value → H) (W : World) (base : Nat) (args : Array Value) (ds gs : List (DataW H)) (before : List MemPlace)
    (hval : ∀ (j : Nat) t v, Try.f6.params[j]? = some t → args[j]? = some v → Value.okWide Try.prog W .any base t v)
    (hW : DataW.Whole enc Try.prog Try.f6.params.toList Rows.poolDirtySpec.vars false W args.toList ds gs before) :
    Calls Try.prog 6 args W fun e W' => ∃ v, e = .returned v ∧ Rows.poolDirtySpec.post enc Try.prog Try.f6 false true false false W args v W' := by
  have hW' := hW
  obtain ⟨p, q, hA0, hV, rfl, hfz, hnd⟩ := hW
  have hA : DataW.TrodAll enc Try.prog W 0 (fun _ => true) true Try.f6.params.toList args.toList ds p := hA0
  rw [Try.params6] at hA hval
  obtain ⟨v0, d0, rfl, rfl, h0⟩ := trodAll_one hA
  obtain ⟨rfl, rfl⟩ := trodVars_none hV
  obtain ⟨l, hbs, hl⟩ := Ab.rv_bytes2 Try.underlying22 Try.underlying5 Try.cells5 (hval 0 22 v0 rfl rfl) h0
  have hb : Ab.goLawPD l = true := by
    simp only [Ab.goLawPD, List.all_eq_true, decide_eq_true_iff]
    exact hbs
  refine (Ab.run_ent Ab.ok6 (qs := [.val (.sl false .u8 l)]) (c := .chk (Ab.goLawPD l)) (r := (.val (.bool true), [])) rfl hb (args := #[v0]) rfl (Ab.rp_all1 (.val _ _ hl))).mono ?_
  rintro e W' ⟨v, rfl, S', bs', hk, _, _, _, hr⟩
  rcases hr with ⟨x, hx, hv⟩ | ⟨k, o, B, c, arr, e, hx, _⟩
  case inr => cases hx
  injection hx with hx1 hx2
  injection hx1 with hx1
  subst hx1
  have hv := Ab.rv_true hv
  subst hv
  have hbel := Ab.keep_below hk
  have hlt : ∀ x ∈ p, x.block < W.heap.size := fun x hx => hW'.lt x (by simp [hx])
  refine ⟨_, rfl, _, _, _, [], p, [], hW', trodAll_mk1 (shut_bool Try.underlying4 _), ?_, ?_, hbel.frame _, fun h => by cases h⟩
  · exact trodAll_mk1 (hbel.trod Try.laidOut Try.read22 Try.lt22 h0 hlt)
  · first | rfl | exact ⟨rfl, rfl⟩ | simp [DataW.TrodVars]

set_option maxRecDepth 100000 in
theorem poolDirty_lifted (os : Os) (started : os.Started) (H : Type) (enc : TypeId × Value → H) :
    ReturnsInHanded {} Try.checked os 6 .any (Rows.poolDirtySpec.pre6 enc Try.prog Try.f6 Rows.poolDirtyRow.domain false) (Rows.poolDirtySpec.post enc Try.prog Try.f6 false true false false) := by
  refine returnsInHanded_of_change (C := Try.checked) Try.own started (by kernel_rfl) Try.func6
    (ChangeSpec.witness6 (enc := enc) (C := Try.checked) false ⟨#[], #[.slice none 0 0], []⟩ 8 (by kernel_rfl) (by kernel_rfl) (by kernel_rfl) (by kernel_rfl)) ?_
  intro W base args ds gs before hval hW _ _
  exact poolDirty_contract H enc W base args ds gs before hval hW

theorem poolDirty_holds : Rows.PoolDirtySaid :=
  OpenClaim.holds_of_wide 6 Try.f6 rfl rfl rfl rfl rfl rfl rfl ⟨rfl, rfl, rfl, rfl, rfl⟩ rfl rfl rfl rfl rfl (by kernel_rfl) Try.func6 (by kernel_rfl)
    (of_decide_eq_true (by kernel_rfl)) (by unfold Func.isWrapper; first | (rw [if_pos (by decide +kernel)]; kernel_rfl) | (rw [if_neg (by decide +kernel)]; exact ⟨rfl, rfl⟩))
    (fun os started H enc _ => poolDirty_lifted os started H enc)

end Go.Proofs.Ytmkfncnbedmdjaa
