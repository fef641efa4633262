/- It is proved that pagemendlaw25.ArchiverParts returns true at every input and leaves its arguments as they were. Conditions: none beyond those of the given row. -/
import Derived.Test.YtmkfncnbedmdjaaRows
import Derived.Test.YtmkfncnbedmdjaaArA
import Derived.Test.YtmkfncnbedmdjaaAbsL

namespace Go.Proofs.Ytmkfncnbedmdjaa
open Go.ChangeShapes Go.WideShapes Go.ChangeAt Go.RowKit

theorem Try.own : ownKnob Try.prog.godebug = none := by kernel_rfl
theorem Try.laidOut : laidOutB Try.prog = true := by kernel_rfl
theorem Try.cells5 : Try.prog.cellsOf 5 = 1 := by kernel_rfl
theorem Try.read22 : Try.prog.readableRec 22 = true := by kernel_rfl
theorem Try.lt22 : 22 < Try.prog.types.size := of_decide_eq_true (by kernel_rfl)

set_option maxRecDepth 100000 in
theorem archiverParts_contract (H : Type) (enc : TypeId × Value → H) (W : World) (base : Nat) (args : Array Value) (ds gs : List (DataW H)) (before : List MemPlace)
    (hval : ∀ (j : Nat) t v, Try.f3.params[j]? = some t → args[j]? = some v → Value.okWide Try.prog W .any base t v)
    (hW : DataW.Whole enc Try.prog Try.f3.params.toList Rows.archiverPartsSpec.vars false W args.toList ds gs before) :
    Calls Try.prog 3 args W fun e W' => ∃ v, e = .returned v ∧ Rows.archiverPartsSpec.post enc Try.prog Try.f3 false true false false W args v W' := by
  have hW' := hW
  obtain ⟨p, q, hA0, hV, rfl, hfz, hnd⟩ := hW
  have hA : DataW.TrodAll enc Try.prog W 0 (fun _ => true) true Try.f3.params.toList args.toList ds p := hA0
  rw [Try.params3] at hA hval
  obtain ⟨v0, v1, d0, d1, p0, p1, rfl, rfl, rfl, h0, h1⟩ := trodAll_two hA
  obtain ⟨rfl, rfl⟩ := trodVars_none hV
  obtain ⟨b, rfl, rfl, rfl, wb⟩ := open_int Try.underlying5 (hval 1 5 v1 rfl rfl) h1
  obtain ⟨l, hl⟩ := Ab.rv_bytes Try.underlying22 Try.underlying5 Try.cells5 (hval 0 22 v0 rfl rfl) h0
  have hb : Ab.goLaw25C l b = true := by
    have := wb
    simp only [Lit.wf, IntKind.min, IntKind.max] at this
    simp only [Ab.goLaw25C, Bool.and_eq_true, decide_eq_true_iff]
    have e : (2 : Int) ^ IntKind.u8.bits - 1 = 255 := by decide
    simp only [show IntKind.u8.signed = false from rfl, Bool.false_eq_true, if_false, e, Bool.and_eq_true, decide_eq_true_iff] at this
    exact this
  refine (Ab.run_ent Ab.ok3 (qs := [.val (.sl false .u8 l), .val (.int .u8 b)]) (c := .chk (Ab.goLaw25C l b)) (r := (.val (.bool true), [])) rfl hb (args := #[v0, .int .u8 b]) rfl (Ab.rp_all2 (.val _ _ hl) (.val _ _ (.int _ _)))).mono ?_
  rintro e W' ⟨v, rfl, S', bs', hk, _, _, _, hr⟩
  rcases hr with ⟨x, hx, hv⟩ | ⟨k, o, B, c, arr, e, hx, _⟩
  case inr => cases hx
  injection hx with hx1 hx2
  injection hx1 with hx1
  subst hx1
  have hv := Ab.rv_true hv
  subst hv
  have hbel := Ab.keep_below hk
  have hlt : ∀ x ∈ p0, x.block < W.heap.size := fun x hx => hW'.lt x (by simp [hx])
  refine ⟨_, rfl, _, _, _, [], p0, [], hW', trodAll_mk1 (shut_bool Try.underlying4 _), ?_, ?_, hbel.frame _, fun h => by cases h⟩
  · have := trodAll_mk2 (hbel.trod Try.laidOut Try.read22 Try.lt22 h0 hlt) (shut_int (enc := enc) (P := Try.prog) (w := W') (base := 0) (spare := fun b => decide (b < W.heap.size)) (held := true) Try.underlying5 wb)
    rw [List.append_nil] at this
    exact this
  · first | rfl | exact ⟨rfl, rfl⟩ | simp [DataW.TrodVars]

set_option maxRecDepth 100000 in
theorem archiverParts_lifted (os : Os) (started : os.Started) (H : Type) (enc : TypeId × Value → H) :
    ReturnsInHanded {} Try.checked os 3 .any (Rows.archiverPartsSpec.pre6 enc Try.prog Try.f3 Rows.archiverPartsRow.domain false) (Rows.archiverPartsSpec.post enc Try.prog Try.f3 false true false false) := by
  refine returnsInHanded_of_change (C := Try.checked) Try.own started (by kernel_rfl) Try.func3
    (ChangeSpec.witness6 (enc := enc) (C := Try.checked) false ⟨#[], #[.slice none 0 0, .int .u8 0], []⟩ 8 (by kernel_rfl) (by kernel_rfl) (by kernel_rfl) (by kernel_rfl)) ?_
  intro W base args ds gs before hval hW _ _
  exact archiverParts_contract H enc W base args ds gs before hval hW

theorem archiverParts_holds : Rows.ArchiverPartsSaid :=
  OpenClaim.holds_of_wide 3 Try.f3 rfl rfl rfl rfl rfl rfl rfl ⟨rfl, rfl, rfl, rfl, rfl⟩ rfl rfl rfl rfl rfl (by kernel_rfl) Try.func3 (by kernel_rfl)
    (of_decide_eq_true (by kernel_rfl)) (by unfold Func.isWrapper; first | (rw [if_pos (by decide +kernel)]; kernel_rfl) | (rw [if_neg (by decide +kernel)]; exact ⟨rfl, rfl⟩))
    (fun os started H enc _ => archiverParts_lifted os started H enc)

end Go.Proofs.Ytmkfncnbedmdjaa
