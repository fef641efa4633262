/- pagemendlaw10.PoolDirty -/
import Derived.Test.YtmkfncnbedmdjaaPoA
import Derived.Test.YtmkfncnbedmdjaaAbsL
import Derived.Test.YtmkfncnbedmdjaaProg
import Derived.KernelRfl
import Derived.Test.YtmkfncnbedmdjaaAbsC
import Derived.WalkKit
import Derived.BigCall
import Derived.Test.YtmkfncnbedmdjaaPoB

namespace Go.Ab
open Go

def goCodesC (_ : List Int) (m : Int) : Bool := decide (0 ≤ m)
def goCodes (l : List Int) (m : Int) : Pm.Codes := ⟨l.take m.toNat, 0⟩
def okc (c : Pm.Codes) : Bool := decide (0 ≤ c.at_) && Nat.ble c.list.length most
def goNextSC (c : Pm.Codes) (n : Int) : Bool := okc c && decide (n ≤ 256)
def goNextS (c : Pm.Codes) (n : Int) : Int × Pm.Codes :=
  if c.at_ ≥ (c.list.length : Int) ∨ n < 1 then (0, c) else ((W (c.list.getD c.at_.toNat 0)).tmod n, ⟨c.list, c.at_ + 1⟩)
def goNextC (c : Pm.Codes) (_ : Int) : Bool := okc c
def goNext (c : Pm.Codes) (n : Int) : Int × Pm.Codes :=
  if n ≤ 256 then goNextS c n else if c.at_ ≥ (c.list.length : Int) then (0, c) else
    let r := goNextS ⟨c.list, c.at_ + 1⟩ 256
    ((W (W (256 * W (c.list.getD c.at_.toNat 0)) + r.1)).tmod n, r.2)
def goLeft (c : Pm.Codes) : Int × Pm.Codes := (W ((c.list.length : Int) - c.at_), c)
def goUpdate (p : Pm.Pool) (x : Pm.Page) : Pm.Pool × Int :=
  bif !goPoolV p then (default, 15) else
  if (goEnc x).2 ≠ 0 then (default, (goEnc x).2) else
  let i := goFind p x.id
  if i < 0 then (default, 18) else
  let f := p.frames.getD i.toNat default
  if x.lsn ≤ f.page.lsn then (default, 8) else (⟨p.size, p.frames.set i.toNat ⟨x, true, if f.dirty then f.rec_ else x.lsn, true⟩, p.hand⟩, 0)
def goClean (p : Pm.Pool) (id lsn : Int) : Pm.Pool × Int :=
  bif !goPoolV p then (default, 15) else
  let i := goFind p id
  if i < 0 then (default, 18) else
  let f := p.frames.getD i.toNat default
  if lsn > f.page.lsn then (default, 9) else
  bif !f.dirty then (p, 0) else
  (⟨p.size, p.frames.set i.toNat (if lsn = f.page.lsn then ⟨f.page, false, 0, f.used⟩ else if f.rec_ ≤ lsn then ⟨f.page, f.dirty, W (lsn + 1), f.used⟩ else f), p.hand⟩, 0)
def goSortC (l : List Pm.Dirty) : Bool := Nat.ble l.length 1
def dirtyL (l : List Pm.Frame) : List Pm.Dirty := (l.filter fun f => f.dirty).map fun f => ⟨f.page.id, f.rec_, f.page.lsn⟩
def goDirty (p : Pm.Pool) : List Pm.Dirty := bif !goPoolV p then [] else dirtyL p.frames
def goDirtyC (p : Pm.Pool) : Bool := Nat.ble (goDirty p).length 1
def goNumbers (p : Pm.Page) : Bool := decide (0 ≤ p.id) && (decide (p.id < 64) && (decide (0 ≤ p.lsn) && decide (p.lsn ≤ 1099511627776)))
def goVCell (c : Pm.Cell) : Bool := Nat.ble c.data.length 12 && (c.set || decide (c.data = []))
def goCells2 (p : Pm.Page) : Bool := p.cells.list.all fun c => goVCell c && !((p.lsn == 0) && c.set)
def goPageV2 (p : Pm.Page) : Bool := goNumbers p && goCells2 p
def goLawPD (l : List Int) : Bool := l.all fun x => decide (0 ≤ x ∧ x ≤ 255)
def goTruePD (_ : List Int) : Bool := true

end Go.Ab

namespace Go.Ab
open Go

def e56 : List PV → List (List AV) → Option (Ck × Rs)
  | [.val (.sl _ cx x), .fn 57 [] []], [] => (castSl .dirty cx x).map fun x => (.chk (goSortC x), (.val (.tup []), []))
  | _, _ => none

end Go.Ab

namespace Go.Ab
open Go Go.Proofs

/- pagemenddraw.New -/
def f9 {R : Type} (N : Nat) (l : List Int) (most0 : Int) (K : Pm.Codes → Option R) : Option R :=
  bif decide ((l.length : Int) > most0) then
    bif (decide (0 ≤ most0) && decide (most0 ≤ (l.length : Int))) then
    K (Pm.Codes.mk (List.take most0.toNat l) 0)
    else none
  else
    K (Pm.Codes.mk l 0)
def A9 : Ann := { w := [], iw := [], m := [], l := [], j := [], c := codes }
noncomputable def F9 : SF := (slimF Try.prog A9 9).getD ⟨0, .nop, []⟩
theorem hF9 : slimF Try.prog A9 9 = some F9 := by kernel_rfl
def C9 : Ents := []
def L9 (_ : Nat) : LoopT Rs := fun _ _ _ => none
theorem q9 : partsF F9 = [] := by kernel_rfl
theorem l9 (N : Nat) : LOKs (tbl C9) (L9 N) F9 := loks q9 (all_nil)
theorem b9 (N : Nat) (l : List Int) (most0 : Int) : bodyN (tbl C9) (L9 N) F9 [] [.codes] [.val (.sl false .u8 l), .val (.int .i64 most0)] [] = f9 N l most0 (fun o0 => some (.ptr 0 0, [enc .codes o0])) := by kernel_rfl
def e9 : List PV → List (List AV) → Option (Ck × Rs)
  | [.val (.sl _ cl l), .val (.int .i64 most0)], [] => (castSl .u8 cl l).map fun l => (.chk (goCodesC l most0), (.ptr 0 0, [enc .codes (goCodes l most0)]))
  | _, _ => none

/- (*pagemenddraw.Codes).Next -/
def f24a {R : Type} (N : Nat) (c : Pm.Codes) (n0 : Int) (K : Int → Pm.Codes → Option R) : Option R :=
  bif !(decide (c.at_ ≥ (c.list.length : Int))) then
    bif decide (n0 < 1) then
      K 0 c
    else
      bif (decide (0 ≤ c.at_) && Nat.blt c.at_.toNat c.list.length) then
      bif decide (n0 > 256) then
        none
      else
        bif !(decide (n0 = 0)) then
        K (Int.tmod (W (List.getD c.list c.at_.toNat default)) n0) (Pm.Codes.mk c.list (W (c.at_ + 1)))
        else none
      else none
  else
    K 0 c
def A24a : Ann := { w := [], iw := [], m := [], l := [], j := [], c := codes }
noncomputable def F24a : SF := (slimF Try.prog A24a 24).getD ⟨0, .nop, []⟩
theorem hF24a : slimF Try.prog A24a 24 = some F24a := by kernel_rfl
def C24a : Ents := []
def L24a (_ : Nat) : LoopT Rs := fun _ _ _ => none
theorem q24a : partsF F24a = [] := by kernel_rfl
theorem l24a (N : Nat) : LOKs (tbl C24a) (L24a N) F24a := loks q24a (all_nil)
theorem b24a (N : Nat) (c : Pm.Codes) (n0 : Int) : bodyN (tbl C24a) (L24a N) F24a [.any] [.codes] [.ptr 1000000 0, .val (.int .i64 n0)] [enc .codes c] = f24a N c n0 (fun o0 o1 => some (.val (.int .i64 o0), [enc .codes o1])) := by kernel_rfl
def e24a : List PV → List (List AV) → Option (Ck × Rs)
  | [.ptr 1000000 0, .val (.int .i64 n0)], [c] => (dec .codes c).map fun c => (.chk (goNextSC c n0), (.val (.int .i64 (goNextS c n0).1), [enc .codes (goNextS c n0).2]))
  | _, _ => none

/- (*pagemenddraw.Codes).Next -/
def f24 {R : Type} (N : Nat) (c : Pm.Codes) (n0 : Int) (K : Int → Pm.Codes → Option R) : Option R :=
  bif !(decide (c.at_ ≥ (c.list.length : Int))) then
    bif decide (n0 < 1) then
      K 0 c
    else
      bif (decide (0 ≤ c.at_) && Nat.blt c.at_.toNat c.list.length) then
      bif decide (n0 > 256) then
        bif goNextSC (Pm.Codes.mk c.list (W (c.at_ + 1))) 256 then
        let r1 := goNextS (Pm.Codes.mk c.list (W (c.at_ + 1))) 256
        bif !(decide (n0 = 0)) then
        let v2 := Int.tmod (W ((W (256 * (W (List.getD c.list c.at_.toNat default)))) + r1.1)) n0
        K v2 r1.2
        else none
        else none
      else
        bif !(decide (n0 = 0)) then
        K (Int.tmod (W (List.getD c.list c.at_.toNat default)) n0) (Pm.Codes.mk c.list (W (c.at_ + 1)))
        else none
      else none
  else
    K 0 c
def A24 : Ann := { w := [], iw := [], m := [], l := [], j := [], c := codes }
noncomputable def F24 : SF := (slimF Try.prog A24 24).getD ⟨0, .nop, []⟩
theorem hF24 : slimF Try.prog A24 24 = some F24 := by kernel_rfl
def C24 : Ents := [(24, e24a)]
def L24 (_ : Nat) : LoopT Rs := fun _ _ _ => none
theorem q24 : partsF F24 = [] := by kernel_rfl
theorem l24 (N : Nat) : LOKs (tbl C24) (L24 N) F24 := loks q24 (all_nil)
theorem b24 (N : Nat) (c : Pm.Codes) (n0 : Int) : bodyN (tbl C24) (L24 N) F24 [.any] [.codes] [.ptr 1000000 0, .val (.int .i64 n0)] [enc .codes c] = f24 N c n0 (fun o0 o1 => some (.val (.int .i64 o0), [enc .codes o1])) := by kernel_rfl
def e24 : List PV → List (List AV) → Option (Ck × Rs)
  | [.ptr 1000000 0, .val (.int .i64 n0)], [c] => (dec .codes c).map fun c => (.chk (goNextC c n0), (.val (.int .i64 (goNext c n0).1), [enc .codes (goNext c n0).2]))
  | _, _ => none

/- (*pagemenddraw.Codes).Left -/
def f23 {R : Type} (N : Nat) (c : Pm.Codes) (K : Int → Pm.Codes → Option R) : Option R :=
  K (W ((c.list.length : Int) - c.at_)) c
def A23 : Ann := { w := [], iw := [], m := [], l := [], j := [], c := codes }
noncomputable def F23 : SF := (slimF Try.prog A23 23).getD ⟨0, .nop, []⟩
theorem hF23 : slimF Try.prog A23 23 = some F23 := by kernel_rfl
def C23 : Ents := []
def L23 (_ : Nat) : LoopT Rs := fun _ _ _ => none
theorem q23 : partsF F23 = [] := by kernel_rfl
theorem l23 (N : Nat) : LOKs (tbl C23) (L23 N) F23 := loks q23 (all_nil)
theorem b23 (N : Nat) (c : Pm.Codes) : bodyN (tbl C23) (L23 N) F23 [.any] [.codes] [.ptr 1000000 0] [enc .codes c] = f23 N c (fun o0 o1 => some (.val (.int .i64 o0), [enc .codes o1])) := by kernel_rfl
def e23 : List PV → List (List AV) → Option (Ck × Rs)
  | [.ptr 1000000 0], [c] => (dec .codes c).map fun c => (.ok, (.val (.int .i64 (goLeft c).1), [enc .codes (goLeft c).2]))
  | _, _ => none

/- pool.Update -/
def f25 {R : Type} (N : Nat) (p : Pm.Pool) (x : Pm.Page) (K : Pm.Pool → Int → Option R) : Option R :=
  let r1 := goPoolV p
  bif !r1 then
    K default 15
  else
    let r2 := goEnc x
    bif goFindC p x.id then
    let r3 := goFind p x.id
    bif (r2.2 != 0) then
      K default r2.2
    else
      bif decide (r3 < 0) then
        K default 18
      else
        bif (decide (0 ≤ r3) && Nat.blt r3.toNat p.frames.length) then
        bif decide (x.lsn ≤ (List.getD p.frames r3.toNat default).page.lsn) then
          K default 8
        else
          bif (decide (0 ≤ r3) && Nat.blt r3.toNat p.frames.length) then
          bif (decide (0 ≤ r3) && Nat.blt r3.toNat p.frames.length) then
          bif !(List.getD p.frames r3.toNat default).dirty then
            bif goWithC p.frames r3 (Pm.Frame.mk x true x.lsn true) then
            let r4 := goWith p.frames r3 (Pm.Frame.mk x true x.lsn true)
            K (Pm.Pool.mk p.size r4 p.hand) 0
            else none
          else
            bif goWithC p.frames r3 (Pm.Frame.mk x true (List.getD p.frames r3.toNat default).rec_ true) then
            let r5 := goWith p.frames r3 (Pm.Frame.mk x true (List.getD p.frames r3.toNat default).rec_ true)
            K (Pm.Pool.mk p.size r5 p.hand) 0
            else none
          else none
          else none
        else none
    else none
def A25 : Ann := { w := [], iw := [], m := [], l := [], j := [], c := codes }
noncomputable def F25 : SF := (slimF Try.prog A25 25).getD ⟨0, .nop, []⟩
theorem hF25 : slimF Try.prog A25 25 = some F25 := by kernel_rfl
def C25 : Ents := [(22, e22), (49, e49), (50, e50), (53, e53)]
def L25 (_ : Nat) : LoopT Rs := fun _ _ _ => none
theorem q25 : partsF F25 = [] := by kernel_rfl
theorem l25 (N : Nat) : LOKs (tbl C25) (L25 N) F25 := loks q25 (all_nil)
theorem b25 (N : Nat) (p : Pm.Pool) (x : Pm.Page) : bodyN (tbl C25) (L25 N) F25 [.el .pool, .any] [] [.val (.agg (enc .pool p)), .val (.agg (enc .page x))] [] = f25 N p x (fun o0 o1 => some (.val (.tup [.agg (enc .pool o0), .int .i64 o1]), [])) := by kernel_rfl
def e25 : List PV → List (List AV) → Option (Ck × Rs)
  | [.val (.agg p), .val (.agg x)], [] => (dec .pool p).bind fun p => (dec .page x).map fun x => (.ok, (.val (.tup [.agg (enc .pool (goUpdate p x).1), .int .i64 (goUpdate p x).2]), []))
  | _, _ => none

/- pool.Clean -/
def f26 {R : Type} (N : Nat) (p : Pm.Pool) (id0 : Int) (lsn : Int) (K : Pm.Pool → Int → Option R) : Option R :=
  let r1 := goPoolV p
  bif !r1 then
    K default 15
  else
    bif goFindC p id0 then
    let r2 := goFind p id0
    bif decide (r2 < 0) then
      K default 18
    else
      bif (decide (0 ≤ r2) && Nat.blt r2.toNat p.frames.length) then
      bif decide (lsn > (List.getD p.frames r2.toNat default).page.lsn) then
        K default 9
      else
        bif !(List.getD p.frames r2.toNat default).dirty then
          K p 0
        else
          bif (lsn == (List.getD p.frames r2.toNat default).page.lsn) then
            bif goWithC p.frames r2 (Pm.Frame.mk (List.getD p.frames r2.toNat default).page false 0 (List.getD p.frames r2.toNat default).used) then
            let r3 := goWith p.frames r2 (Pm.Frame.mk (List.getD p.frames r2.toNat default).page false 0 (List.getD p.frames r2.toNat default).used)
            K (Pm.Pool.mk p.size r3 p.hand) 0
            else none
          else
            bif decide ((List.getD p.frames r2.toNat default).rec_ ≤ lsn) then
              bif goWithC p.frames r2 (Pm.Frame.mk (List.getD p.frames r2.toNat default).page (List.getD p.frames r2.toNat default).dirty (W (lsn + 1)) (List.getD p.frames r2.toNat default).used) then
              let r4 := goWith p.frames r2 (Pm.Frame.mk (List.getD p.frames r2.toNat default).page (List.getD p.frames r2.toNat default).dirty (W (lsn + 1)) (List.getD p.frames r2.toNat default).used)
              K (Pm.Pool.mk p.size r4 p.hand) 0
              else none
            else
              bif goWithC p.frames r2 (List.getD p.frames r2.toNat default) then
              let r5 := goWith p.frames r2 (List.getD p.frames r2.toNat default)
              K (Pm.Pool.mk p.size r5 p.hand) 0
              else none
      else none
    else none
def A26 : Ann := { w := [], iw := [], m := [], l := [], j := [], c := codes }
noncomputable def F26 : SF := (slimF Try.prog A26 26).getD ⟨0, .nop, []⟩
theorem hF26 : slimF Try.prog A26 26 = some F26 := by kernel_rfl
def C26 : Ents := [(22, e22), (50, e50), (53, e53)]
def L26 (_ : Nat) : LoopT Rs := fun _ _ _ => none
theorem q26 : partsF F26 = [] := by kernel_rfl
theorem l26 (N : Nat) : LOKs (tbl C26) (L26 N) F26 := loks q26 (all_nil)
theorem b26 (N : Nat) (p : Pm.Pool) (id0 : Int) (lsn : Int) : bodyN (tbl C26) (L26 N) F26 [.el .pool, .any] [] [.val (.agg (enc .pool p)), .val (.int .i64 id0), .val (.int .i64 lsn)] [] = f26 N p id0 lsn (fun o0 o1 => some (.val (.tup [.agg (enc .pool o0), .int .i64 o1]), [])) := by kernel_rfl
def e26 : List PV → List (List AV) → Option (Ck × Rs)
  | [.val (.agg p), .val (.int .i64 id0), .val (.int .i64 lsn)], [] => (dec .pool p).map fun p => (.ok, (.val (.tup [.agg (enc .pool (goClean p id0 lsn).1), .int .i64 (goClean p id0 lsn).2]), []))
  | _, _ => none

/- pool.Dirty -/
def f27_L5_s {R : Type} (N : Nat) (k0 : List Pm.Dirty → Option R) (rec : List Pm.Dirty → List Pm.Frame → Int → Int → Option R) (out : List Pm.Dirty) (t10 : List Pm.Frame) (t11 : Int) (t12 : Int) : Option R :=
  bif decide (t12 < t11) then
    bif (decide (0 ≤ t12) && Nat.blt t12.toNat t10.length) then
    bif (List.getD t10 t12.toNat default).dirty then
      bif Nat.ble (out.length + [Pm.Dirty.mk (List.getD t10 t12.toNat default).page.id (List.getD t10 t12.toNat default).rec_ (List.getD t10 t12.toNat default).page.lsn].length) most then
      rec (out ++ [Pm.Dirty.mk (List.getD t10 t12.toNat default).page.id (List.getD t10 t12.toNat default).rec_ (List.getD t10 t12.toNat default).page.lsn]) t10 t11 (W (t12 + 1))
      else none
    else
      rec out t10 t11 (W (t12 + 1))
    else none
  else
    k0 out
def f27_L5 {R : Type} (N : Nat) (k0 : List Pm.Dirty → Option R) : Nat → List Pm.Dirty → List Pm.Frame → Int → Int → Option R
  | 0, _, _, _, _ => none
  | n + 1, out, t10, t11, t12 => f27_L5_s N k0 (f27_L5 N k0 n) out t10 t11 t12
def f27 {R : Type} (N : Nat) (p : Pm.Pool) (K : (List Pm.Dirty) → Option R) : Option R :=
  let r1 := goPoolV p
  bif !r1 then
    K []
  else
    f27_L5 N
      (fun out =>
        bif goSortC out then
        K out
        else none)
      N [] p.frames (p.frames.length : Int) 0
def mf27_L5 : Mark := ⟨[3, 10, 11, 12], [], [], [(.tmp 3, 7)], [(.tmp 3, .dirty), (.tmp 10, .frame)]⟩
def xf27_L5 : List (Nat × Mark) := [(2, ⟨[3], [], [], [(.tmp 3, 7)], [(.tmp 3, .dirty)]⟩)]
def A27 : Ann := { w := [], iw := [], m := [], l := [(5, (mf27_L5, xf27_L5))], j := [], c := codes }
noncomputable def F27 : SF := (slimF Try.prog A27 27).getD ⟨0, .nop, []⟩
theorem hF27 : slimF Try.prog A27 27 = some F27 := by kernel_rfl
def C27 : Ents := [(22, e22), (56, e56)]
noncomputable def Bf27_L5 : SC := subOf 10 (partsF F27)
def ef27_L5 (N : Nat) (s : Snap) (K : Out → St → Option Rs) : Option Rs :=
  match s with
  | ⟨[.sl false .dirty out, .sl false .frame t10, .int .i64 t11, .int .i64 t12], [], []⟩ => f27_L5 N (fun out => K (.exit 0) (stOf ⟨[3], [], [], [(.tmp 3, 7)], [(.tmp 3, .dirty)]⟩ ⟨[.sl false .dirty out], [], []⟩)) N out t10 t11 t12
  | _ => none
def L27 (N : Nat) : LoopT Rs := fun id s K => bif Nat.beq id 10 then ef27_L5 N s K else none
theorem tf27_L5_s (N n : Nat) (K : Out → St → Option Rs) (out : List Pm.Dirty) (t10 : List Pm.Frame) (t11 : Int) (t12 : Int) : loopN (fun σ K => execL (tbl C27) (L27 N) Bf27_L5 σ K) mf27_L5 xf27_L5 K (n + 1) (stOf mf27_L5 ⟨[.sl false .dirty out, .sl false .frame t10, .int .i64 t11, .int .i64 t12], [], []⟩) = f27_L5_s N (fun out => K (.exit 0) (stOf ⟨[3], [], [], [(.tmp 3, 7)], [(.tmp 3, .dirty)]⟩ ⟨[.sl false .dirty out], [], []⟩)) (fun out t10 t11 t12 => loopN (fun σ K => execL (tbl C27) (L27 N) Bf27_L5 σ K) mf27_L5 xf27_L5 K n (stOf mf27_L5 ⟨[.sl false .dirty out, .sl false .frame t10, .int .i64 t11, .int .i64 t12], [], []⟩)) out t10 t11 t12 := by kernel_rfl
theorem tf27_L5 (N : Nat) (K : Out → St → Option Rs) : ∀ (n : Nat) (out : List Pm.Dirty) (t10 : List Pm.Frame) (t11 : Int) (t12 : Int), loopN (fun σ K => execL (tbl C27) (L27 N) Bf27_L5 σ K) mf27_L5 xf27_L5 K n (stOf mf27_L5 ⟨[.sl false .dirty out, .sl false .frame t10, .int .i64 t11, .int .i64 t12], [], []⟩) = f27_L5 N (fun out => K (.exit 0) (stOf ⟨[3], [], [], [(.tmp 3, 7)], [(.tmp 3, .dirty)]⟩ ⟨[.sl false .dirty out], [], []⟩)) n out t10 t11 t12 := by
  intro n
  induction n with
  | zero => intros; rfl
  | succ n ih =>
    intro out t10 t11 t12
    rw [tf27_L5_s]
    simp only [f27_L5, ih]
theorem pf27_L5 (N : Nat) : PartOK (tbl C27) (L27 N) (10, true, mf27_L5, xf27_L5, Bf27_L5) := by
  intro s K r h
  have h : ef27_L5 N s K = some r := h
  unfold ef27_L5 at h
  split at h
  case h_2 => cases h
  exact ⟨N, (tf27_L5 N K N _ _ _ _).trans h⟩
theorem q27 : partsF F27 = [(10, true, mf27_L5, xf27_L5, Bf27_L5)] := by kernel_rfl
theorem l27 (N : Nat) : LOKs (tbl C27) (L27 N) F27 := loks q27 (all_cons (pf27_L5 N) all_nil)
theorem b27 (N : Nat) (p : Pm.Pool) : bodyN (tbl C27) (L27 N) F27 [.sl .dirty] [] [.val (.agg (enc .pool p))] [] = f27 N p (fun o0 => some (.val (.sl false .dirty o0), [])) := by kernel_rfl
def e27 : List PV → List (List AV) → Option (Ck × Rs)
  | [.val (.agg p)], [] => (dec .pool p).map fun p => (.chk (goDirtyC p), (.val (.sl false .dirty (goDirty p)), []))
  | _, _ => none

/- pagemendref02.numbers -/
def f59 {R : Type} (N : Nat) (p : Pm.Page) (K : Bool → Option R) : Option R :=
  bif decide (p.id ≥ 0) then
    bif decide (p.id < 64) then
      bif decide (p.lsn ≥ 0) then
        K (decide (p.lsn ≤ 1099511627776))
      else
        K false
    else
      K false
  else
    K false
def A59 : Ann := { w := [], iw := [], m := [], l := [], j := [], c := codes }
noncomputable def F59 : SF := (slimF Try.prog A59 59).getD ⟨0, .nop, []⟩
theorem hF59 : slimF Try.prog A59 59 = some F59 := by kernel_rfl
def C59 : Ents := []
def L59 (_ : Nat) : LoopT Rs := fun _ _ _ => none
theorem q59 : partsF F59 = [] := by kernel_rfl
theorem l59 (N : Nat) : LOKs (tbl C59) (L59 N) F59 := loks q59 (all_nil)
theorem b59 (N : Nat) (p : Pm.Page) : bodyN (tbl C59) (L59 N) F59 [.any] [] [.val (.agg (enc .page p))] [] = f59 N p (fun o0 => some (.val (.bool o0), [])) := by kernel_rfl
def e59 : List PV → List (List AV) → Option (Ck × Rs)
  | [.val (.agg p)], [] => (dec .page p).map fun p => (.ok, (.val (.bool (goNumbers p)), []))
  | _, _ => none

/- pagemendref02.ValidCell -/
def f80 {R : Type} (N : Nat) (c : Pm.Cell) (K : Bool → Option R) : Option R :=
  bif decide ((c.data.length : Int) ≤ 12) then
    bif !c.set then
      K (decide (c.data = []))
    else
      K true
  else
    K false
def A80 : Ann := { w := [], iw := [], m := [], l := [], j := [], c := codes }
noncomputable def F80 : SF := (slimF Try.prog A80 80).getD ⟨0, .nop, []⟩
theorem hF80 : slimF Try.prog A80 80 = some F80 := by kernel_rfl
def C80 : Ents := []
def L80 (_ : Nat) : LoopT Rs := fun _ _ _ => none
theorem q80 : partsF F80 = [] := by kernel_rfl
theorem l80 (N : Nat) : LOKs (tbl C80) (L80 N) F80 := loks q80 (all_nil)
theorem b80 (N : Nat) (c : Pm.Cell) : bodyN (tbl C80) (L80 N) F80 [.any] [] [.val (.agg (enc .cell c))] [] = f80 N c (fun o0 => some (.val (.bool o0), [])) := by kernel_rfl
def e80 : List PV → List (List AV) → Option (Ck × Rs)
  | [.val (.agg c)], [] => (dec .cell c).map fun c => (.ok, (.val (.bool (goVCell c)), []))
  | _, _ => none

/- pagemendref02.cells -/
def f60_L2_s {R : Type} (N : Nat) (k0 : Bool → Option R) (k1 : Option R) (rec : Int → Pm.Page → Option R) (i : Int) (p1 : Pm.Page) : Option R :=
  bif decide (i < 16) then
    bif (decide (0 ≤ i) && decide (i < 16)) then
    let r1 := goVCell (Pm.Cell.mk (List.getD p1.cells.sets i.toNat false) (List.getD p1.cells.datas i.toNat []))
    bif !(!r1) then
      bif (p1.lsn == 0) then
        bif (decide (0 ≤ i) && decide (i < 16)) then
        bif List.getD p1.cells.sets i.toNat false then
          k0 false
        else
          rec (W (i + 1)) p1
        else none
      else
        rec (W (i + 1)) p1
    else
      k0 false
    else none
  else
    k1
def f60_L2 {R : Type} (N : Nat) (k0 : Bool → Option R) (k1 : Option R) : Nat → Int → Pm.Page → Option R
  | 0, _, _ => none
  | n + 1, i, p1 => f60_L2_s N k0 k1 (f60_L2 N k0 k1 n) i p1
def f60 {R : Type} (N : Nat) (p : Pm.Page) (K : Bool → Option R) : Option R :=
  f60_L2 N
    (fun t2 =>
      K t2)
    (
      K true)
    N 0 p
def mf60_L2 : Mark := ⟨[3], [1], [1], [], []⟩
def xf60_L2 : List (Nat × Mark) := [(1, ⟨[2], [], [], [], []⟩), (2, ⟨[], [], [], [], []⟩)]
def A60 : Ann := { w := [], iw := [], m := [], l := [(2, (mf60_L2, xf60_L2))], j := [], c := codes }
noncomputable def F60 : SF := (slimF Try.prog A60 60).getD ⟨0, .nop, []⟩
theorem hF60 : slimF Try.prog A60 60 = some F60 := by kernel_rfl
def C60 : Ents := [(80, e80)]
noncomputable def Bf60_L2 : SC := subOf 4 (partsF F60)
def ef60_L2 (N : Nat) (s : Snap) (K : Out → St → Option Rs) : Option Rs :=
  match s with
  | ⟨[.int .i64 i], [.ptr 1 0], [some p1]⟩ => (decX .page p1).bind fun p1 => f60_L2 N (fun t2 => K .ret (stOf ⟨[2], [], [], [], []⟩ ⟨[.bool t2], [], []⟩)) (K (.exit 0) (stOf ⟨[], [], [], [], []⟩ ⟨[], [], []⟩)) N i p1
  | _ => none
def L60 (N : Nat) : LoopT Rs := fun id s K => bif Nat.beq id 4 then ef60_L2 N s K else none
theorem tf60_L2_s (N n : Nat) (K : Out → St → Option Rs) (i : Int) (p1 : Pm.Page) : loopN (fun σ K => execL (tbl C60) (L60 N) Bf60_L2 σ K) mf60_L2 xf60_L2 K (n + 1) (stOf mf60_L2 ⟨[.int .i64 i], [.ptr 1 0], [some (enc .page p1)]⟩) = f60_L2_s N (fun t2 => K .ret (stOf ⟨[2], [], [], [], []⟩ ⟨[.bool t2], [], []⟩)) (K (.exit 0) (stOf ⟨[], [], [], [], []⟩ ⟨[], [], []⟩)) (fun i p1 => loopN (fun σ K => execL (tbl C60) (L60 N) Bf60_L2 σ K) mf60_L2 xf60_L2 K n (stOf mf60_L2 ⟨[.int .i64 i], [.ptr 1 0], [some (enc .page p1)]⟩)) i p1 := by kernel_rfl
theorem tf60_L2 (N : Nat) (K : Out → St → Option Rs) : ∀ (n : Nat) (i : Int) (p1 : Pm.Page), loopN (fun σ K => execL (tbl C60) (L60 N) Bf60_L2 σ K) mf60_L2 xf60_L2 K n (stOf mf60_L2 ⟨[.int .i64 i], [.ptr 1 0], [some (enc .page p1)]⟩) = f60_L2 N (fun t2 => K .ret (stOf ⟨[2], [], [], [], []⟩ ⟨[.bool t2], [], []⟩)) (K (.exit 0) (stOf ⟨[], [], [], [], []⟩ ⟨[], [], []⟩)) n i p1 := by
  intro n
  induction n with
  | zero => intros; rfl
  | succ n ih =>
    intro i p1
    rw [tf60_L2_s]
    simp only [f60_L2, ih]
theorem pf60_L2 (N : Nat) : PartOK (tbl C60) (L60 N) (4, true, mf60_L2, xf60_L2, Bf60_L2) := by
  intro s K r h
  have h : ef60_L2 N s K = some r := h
  unfold ef60_L2 at h
  split at h
  case h_2 => cases h
  simp only [Option.bind_eq_some_iff] at h
  obtain ⟨p1', h_p1, h⟩ := h
  have h_p1 := decX_ok h_p1
  subst h_p1
  exact ⟨N, (tf60_L2 N K N _ _).trans h⟩
theorem q60 : partsF F60 = [(4, true, mf60_L2, xf60_L2, Bf60_L2)] := by kernel_rfl
theorem l60 (N : Nat) : LOKs (tbl C60) (L60 N) F60 := loks q60 (all_cons (pf60_L2 N) all_nil)
theorem b60 (N : Nat) (p : Pm.Page) : bodyN (tbl C60) (L60 N) F60 [.any] [] [.val (.agg (enc .page p))] [] = f60 N p (fun o0 => some (.val (.bool o0), [])) := by kernel_rfl
def e60 : List PV → List (List AV) → Option (Ck × Rs)
  | [.val (.agg p)], [] => (dec .page p).map fun p => (.ok, (.val (.bool (goCells2 p)), []))
  | _, _ => none

/- pagemendref02.Valid -/
def f28 {R : Type} (N : Nat) (p : Pm.Page) (K : Bool → Option R) : Option R :=
  let r1 := goNumbers p
  bif r1 then
    let r2 := goCells2 p
    K r2
  else
    K false
def A28 : Ann := { w := [], iw := [], m := [], l := [], j := [], c := codes }
noncomputable def F28 : SF := (slimF Try.prog A28 28).getD ⟨0, .nop, []⟩
theorem hF28 : slimF Try.prog A28 28 = some F28 := by kernel_rfl
def C28 : Ents := [(59, e59), (60, e60)]
def L28 (_ : Nat) : LoopT Rs := fun _ _ _ => none
theorem q28 : partsF F28 = [] := by kernel_rfl
theorem l28 (N : Nat) : LOKs (tbl C28) (L28 N) F28 := loks q28 (all_nil)
theorem b28 (N : Nat) (p : Pm.Page) : bodyN (tbl C28) (L28 N) F28 [.any] [] [.val (.agg (enc .page p))] [] = f28 N p (fun o0 => some (.val (.bool o0), [])) := by kernel_rfl
def e28 : List PV → List (List AV) → Option (Ck × Rs)
  | [.val (.agg p)], [] => (dec .page p).map fun p => (.ok, (.val (.bool (goPageV2 p)), []))
  | _, _ => none

def f6_L9_s {R : Type} (N : Nat) (k0 : Bool → Option R) (k1 : Int → Pm.Pool → Option R) (rec : Int → Int → Pm.Pool → List Int → Int → Option R) (lsn : Int) (rec0 : Int) (p : Pm.Pool) (t22c0 : List Int) (t22c1 : Int) : Option R :=
  let r5 := goLeft (Pm.Codes.mk t22c0 t22c1)
  bif decide (r5.1 > 0) then
    bif goNextC r5.2 3 then
    let r6 := goNext r5.2 3
    bif decide (r6.1 > 0) then
      bif goNextC r6.2 3 then
      let r7 := goNext r6.2 3
      let r8 := goUpdate p (Pm.Page.mk 4 (W (lsn + (W (1 + r7.1)))) default)
      bif (r8.2 != 0) then
        k0 false
      else
        bif (rec0 == 0) then
          bif goDirtyC r8.1 then
          let r9 := goDirty r8.1
          bif !(!(((r9.length : Int) == 1) == decide (W (lsn + (W (1 + r7.1))) > 0))) then
            bif decide (W (lsn + (W (1 + r7.1))) > 0) then
              bif Nat.blt 0 r9.length then
              let v10 := !(decide ((List.getD r9 0 default) = Pm.Dirty.mk 4 (W (lsn + (W (1 + r7.1)))) (W (lsn + (W (1 + r7.1))))))
              bif v10 then
                k0 false
              else
                let r11 := goDrop r8.1 4
                bif !((r11.2 == 23) == decide (W (lsn + (W (1 + r7.1))) > 0)) then
                  k0 false
                else
                  rec (W (lsn + (W (1 + r7.1)))) (W (lsn + (W (1 + r7.1)))) r8.1 r7.2.list r7.2.at_
              else none
            else
              let r12 := goDrop r8.1 4
              bif !((r12.2 == 23) == decide (W (lsn + (W (1 + r7.1))) > 0)) then
                k0 false
              else
                rec (W (lsn + (W (1 + r7.1)))) (W (lsn + (W (1 + r7.1)))) r8.1 r7.2.list r7.2.at_
          else
            k0 false
          else none
        else
          bif goDirtyC r8.1 then
          let r13 := goDirty r8.1
          bif !(!(((r13.length : Int) == 1) == decide (rec0 > 0))) then
            bif decide (rec0 > 0) then
              bif Nat.blt 0 r13.length then
              bif !(decide ((List.getD r13 0 default) = Pm.Dirty.mk 4 rec0 (W (lsn + (W (1 + r7.1)))))) then
                k0 false
              else
                let r14 := goDrop r8.1 4
                bif !((r14.2 == 23) == decide (rec0 > 0)) then
                  k0 false
                else
                  rec (W (lsn + (W (1 + r7.1)))) rec0 r8.1 r7.2.list r7.2.at_
              else none
            else
              let r15 := goDrop r8.1 4
              bif !((r15.2 == 23) == decide (rec0 > 0)) then
                k0 false
              else
                rec (W (lsn + (W (1 + r7.1)))) rec0 r8.1 r7.2.list r7.2.at_
          else
            k0 false
          else none
      else none
    else
      bif goNextC r6.2 4 then
      let r16 := goNext r6.2 4
      let r17 := goClean p 4 (if 0 < W (lsn - r16.1) then W (lsn - r16.1) else 0)
      bif (r17.2 != 0) then
        k0 false
      else
        bif ((if 0 < W (lsn - r16.1) then W (lsn - r16.1) else 0) == lsn) then
          bif goDirtyC r17.1 then
          let r18 := goDirty r17.1
          bif !(!(((r18.length : Int) == 1) == false)) then
            let r19 := goDrop r17.1 4
            bif !((r19.2 == 23) == false) then
              k0 false
            else
              rec lsn 0 r17.1 r16.2.list r16.2.at_
          else
            k0 false
          else none
        else
          bif decide (rec0 > 0) then
            bif decide (rec0 ≤ (if 0 < W (lsn - r16.1) then W (lsn - r16.1) else 0)) then
              bif goDirtyC r17.1 then
              let r20 := goDirty r17.1
              let v21 := !(((r20.length : Int) == 1) == decide (W ((if 0 < W (lsn - r16.1) then W (lsn - r16.1) else 0) + 1) > 0))
              bif !v21 then
                bif decide (W ((if 0 < W (lsn - r16.1) then W (lsn - r16.1) else 0) + 1) > 0) then
                  bif Nat.blt 0 r20.length then
                  let v22 := !(decide ((List.getD r20 0 default) = Pm.Dirty.mk 4 (W ((if 0 < W (lsn - r16.1) then W (lsn - r16.1) else 0) + 1)) lsn))
                  bif v22 then
                    k0 false
                  else
                    let r23 := goDrop r17.1 4
                    bif !((r23.2 == 23) == decide (W ((if 0 < W (lsn - r16.1) then W (lsn - r16.1) else 0) + 1) > 0)) then
                      k0 false
                    else
                      rec lsn (W ((if 0 < W (lsn - r16.1) then W (lsn - r16.1) else 0) + 1)) r17.1 r16.2.list r16.2.at_
                  else none
                else
                  let r24 := goDrop r17.1 4
                  bif !((r24.2 == 23) == decide (W ((if 0 < W (lsn - r16.1) then W (lsn - r16.1) else 0) + 1) > 0)) then
                    k0 false
                  else
                    rec lsn (W ((if 0 < W (lsn - r16.1) then W (lsn - r16.1) else 0) + 1)) r17.1 r16.2.list r16.2.at_
              else
                k0 false
              else none
            else
              bif goDirtyC r17.1 then
              let r25 := goDirty r17.1
              bif !(!(((r25.length : Int) == 1) == decide (rec0 > 0))) then
                bif decide (rec0 > 0) then
                  bif Nat.blt 0 r25.length then
                  bif !(decide ((List.getD r25 0 default) = Pm.Dirty.mk 4 rec0 lsn)) then
                    k0 false
                  else
                    let r26 := goDrop r17.1 4
                    bif !((r26.2 == 23) == decide (rec0 > 0)) then
                      k0 false
                    else
                      rec lsn rec0 r17.1 r16.2.list r16.2.at_
                  else none
                else
                  let r27 := goDrop r17.1 4
                  bif !((r27.2 == 23) == decide (rec0 > 0)) then
                    k0 false
                  else
                    rec lsn rec0 r17.1 r16.2.list r16.2.at_
              else
                k0 false
              else none
          else
            bif goDirtyC r17.1 then
            let r28 := goDirty r17.1
            bif !(!(((r28.length : Int) == 1) == decide (rec0 > 0))) then
              bif decide (rec0 > 0) then
                bif Nat.blt 0 r28.length then
                bif !(decide ((List.getD r28 0 default) = Pm.Dirty.mk 4 rec0 lsn)) then
                  k0 false
                else
                  let r29 := goDrop r17.1 4
                  bif !((r29.2 == 23) == decide (rec0 > 0)) then
                    k0 false
                  else
                    rec lsn rec0 r17.1 r16.2.list r16.2.at_
                else none
              else
                let r30 := goDrop r17.1 4
                bif !((r30.2 == 23) == decide (rec0 > 0)) then
                  k0 false
                else
                  rec lsn rec0 r17.1 r16.2.list r16.2.at_
            else
              k0 false
            else none
      else none
    else none
  else
    k1 lsn p
def f6_L9 {R : Type} (N : Nat) (k0 : Bool → Option R) (k1 : Int → Pm.Pool → Option R) : Nat → Int → Int → Pm.Pool → List Int → Int → Option R
  | 0, _, _, _, _, _ => none
  | n + 1, lsn, rec0, p, t22c0, t22c1 => f6_L9_s N k0 k1 (f6_L9 N k0 k1 n) lsn rec0 p t22c0 t22c1
def f6 {R : Type} (N : Nat) (codes : List Int) (K : Bool → Option R) : Option R :=
  let r1 := goAwake10
  bif !r1 then
    K false
  else
    bif goCodesC codes 120 then
    let r2 := goCodes codes 120
    let r3 := goPoolNew 1
    let r4 := goPoolPut r3.1 (Pm.Page.mk 4 0 default)
    bif !(r3.2 != 0) then
      bif (r4.2 != 0) then
        K false
      else
        f6_L9 N
          (fun t2 =>
            K t2)
          (fun lsn p =>
            let r31 := goGet p 4
            bif r31.2 then
              bif (r31.1.lsn == lsn) then
                let r32 := goPageV2 r31.1
                K r32
              else
                K false
            else
              K false)
          N 0 0 r4.1 r2.list r2.at_
    else
      K false
    else none
def mf6_L9 : Mark := ⟨[7, 8], [3, 4], [4, 22], [], [(.cell 4 1, .frame), (.cell 22 0, .u8)]⟩
def xf6_L9 : List (Nat × Mark) := [(1, ⟨[2], [], [], [], []⟩), (2, ⟨[7], [4], [4], [], [(.cell 4 1, .frame)]⟩)]
def A6 : Ann := { w := [], iw := [], m := [], l := [(9, (mf6_L9, xf6_L9))], j := [], c := codes }
noncomputable def F6 : SF := (slimF Try.prog A6 6).getD ⟨0, .nop, []⟩
theorem hF6 : slimF Try.prog A6 6 = some F6 := by kernel_rfl
def C6 : Ents := [(13, e13), (9, e9), (14, e14), (15, e15), (23, e23), (24, e24), (25, e25), (27, e27), (19, e19), (26, e26), (20, e20), (28, e28)]
noncomputable def Bf6_L9 : SC := subOf 18 (partsF F6)
def ef6_L9 (N : Nat) (s : Snap) (K : Out → St → Option Rs) : Option Rs :=
  match s with
  | ⟨[.int .i64 lsn, .int .i64 rec0], [.ptr 22 0, .ptr 4 0], [some p, some [.sl false .u8 t22c0, .int .i64 t22c1]]⟩ => (decX .pool p).bind fun p => f6_L9 N (fun t2 => K .ret (stOf ⟨[2], [], [], [], []⟩ ⟨[.bool t2], [], []⟩)) (fun lsn p => K (.exit 0) (stOf ⟨[7], [4], [4], [], [(.cell 4 1, .frame)]⟩ ⟨[.int .i64 lsn], [.ptr 4 0], [some (enc .pool p)]⟩)) N lsn rec0 p t22c0 t22c1
  | _ => none
def L6 (N : Nat) : LoopT Rs := fun id s K => bif Nat.beq id 18 then ef6_L9 N s K else none
theorem tf6_L9_s (N n : Nat) (K : Out → St → Option Rs) (lsn : Int) (rec0 : Int) (p : Pm.Pool) (t22c0 : List Int) (t22c1 : Int) : loopN (fun σ K => execL (tbl C6) (L6 N) Bf6_L9 σ K) mf6_L9 xf6_L9 K (n + 1) (stOf mf6_L9 ⟨[.int .i64 lsn, .int .i64 rec0], [.ptr 22 0, .ptr 4 0], [some (enc .pool p), some [.sl false .u8 t22c0, .int .i64 t22c1]]⟩) = f6_L9_s N (fun t2 => K .ret (stOf ⟨[2], [], [], [], []⟩ ⟨[.bool t2], [], []⟩)) (fun lsn p => K (.exit 0) (stOf ⟨[7], [4], [4], [], [(.cell 4 1, .frame)]⟩ ⟨[.int .i64 lsn], [.ptr 4 0], [some (enc .pool p)]⟩)) (fun lsn rec0 p t22c0 t22c1 => loopN (fun σ K => execL (tbl C6) (L6 N) Bf6_L9 σ K) mf6_L9 xf6_L9 K n (stOf mf6_L9 ⟨[.int .i64 lsn, .int .i64 rec0], [.ptr 22 0, .ptr 4 0], [some (enc .pool p), some [.sl false .u8 t22c0, .int .i64 t22c1]]⟩)) lsn rec0 p t22c0 t22c1 := by kernel_rfl
theorem tf6_L9 (N : Nat) (K : Out → St → Option Rs) : ∀ (n : Nat) (lsn : Int) (rec0 : Int) (p : Pm.Pool) (t22c0 : List Int) (t22c1 : Int), loopN (fun σ K => execL (tbl C6) (L6 N) Bf6_L9 σ K) mf6_L9 xf6_L9 K n (stOf mf6_L9 ⟨[.int .i64 lsn, .int .i64 rec0], [.ptr 22 0, .ptr 4 0], [some (enc .pool p), some [.sl false .u8 t22c0, .int .i64 t22c1]]⟩) = f6_L9 N (fun t2 => K .ret (stOf ⟨[2], [], [], [], []⟩ ⟨[.bool t2], [], []⟩)) (fun lsn p => K (.exit 0) (stOf ⟨[7], [4], [4], [], [(.cell 4 1, .frame)]⟩ ⟨[.int .i64 lsn], [.ptr 4 0], [some (enc .pool p)]⟩)) n lsn rec0 p t22c0 t22c1 := by
  intro n
  induction n with
  | zero => intros; rfl
  | succ n ih =>
    intro lsn rec0 p t22c0 t22c1
    rw [tf6_L9_s]
    simp only [f6_L9, ih]
theorem pf6_L9 (N : Nat) : PartOK (tbl C6) (L6 N) (18, true, mf6_L9, xf6_L9, Bf6_L9) := by
  intro s K r h
  have h : ef6_L9 N s K = some r := h
  unfold ef6_L9 at h
  split at h
  case h_2 => cases h
  simp only [Option.bind_eq_some_iff] at h
  obtain ⟨p', h_p, h⟩ := h
  have h_p := decX_ok h_p
  subst h_p
  exact ⟨N, (tf6_L9 N K N _ _ _ _ _).trans h⟩
theorem q6 : partsF F6 = [(18, true, mf6_L9, xf6_L9, Bf6_L9)] := by kernel_rfl
theorem l6 (N : Nat) : LOKs (tbl C6) (L6 N) F6 := loks q6 (all_cons (pf6_L9 N) all_nil)
theorem b6 (N : Nat) (codes : List Int) : bodyN (tbl C6) (L6 N) F6 [.any] [] [.val (.sl false .u8 codes)] [] = f6 N codes (fun o0 => some (.val (.bool o0), [])) := by kernel_rfl
def e6 : List PV → List (List AV) → Option (Ck × Rs)
  | [.val (.sl _ ccodes codes)], [] => (castSl .u8 ccodes codes).map fun codes => (.chk (goLawPD codes), (.val (.bool (goTruePD codes)), []))
  | _, _ => none

end Go.Ab

namespace Go.Ab
open Go

variable {R : Type}

theorem sp9 {l : List Int} {m : Int} {K : Pm.Codes → Option R} (hc : goCodesC l m = true) : f9 big l m K = K (goCodes l m) := by
  have h0 : 0 ≤ m := of_decide_eq_true hc
  unfold f9 goCodes
  by_cases h : (l.length : Int) > m
  · simp only [h, decide_true, cond_true, h0, show m ≤ (l.length : Int) by omega, Bool.and_self]
  · simp only [h, decide_false, cond_false]
    rw [List.take_of_length_le (by omega)]

theorem sp24a {c : Pm.Codes} {n : Int} {K : Int → Pm.Codes → Option R} (hc : goNextSC c n = true) : f24a big c n K = K (goNextS c n).1 (goNextS c n).2 := by
  simp only [goNextSC, okc, Bool.and_eq_true, decide_eq_true_iff, ble_iff, most] at hc
  obtain ⟨⟨h1, h2⟩, h3⟩ := hc
  unfold f24a goNextS
  by_cases h : c.at_ ≥ (c.list.length : Int)
  · simp only [h, decide_true, Bool.not_true, cond_false, true_or, if_true]
  · by_cases h4 : n < 1
    · simp only [h, h4, decide_true, decide_false, Bool.not_false, cond_true, or_true, if_true]
    · have e : W (c.at_ + 1) = c.at_ + 1 := W_id (by omega) (by omega)
      simp only [h, h4, decide_false, Bool.not_false, cond_true, cond_false, or_self, if_false, h1, decide_true, Bool.true_and, blt_iff.2 (show c.at_.toNat < c.list.length by omega), show ¬ n > 256 by omega, show ¬ n = 0 by omega, e, dfltI]

theorem sp24 {c : Pm.Codes} {n : Int} {K : Int → Pm.Codes → Option R} (hc : goNextC c n = true) : f24 big c n K = K (goNext c n).1 (goNext c n).2 := by
  have hc' := hc
  simp only [goNextC, okc, Bool.and_eq_true, decide_eq_true_iff, ble_iff, most] at hc
  obtain ⟨h1, h2⟩ := hc
  unfold f24 goNext
  by_cases h : c.at_ ≥ (c.list.length : Int)
  · simp only [h, decide_true, Bool.not_true, cond_false, goNextS, true_or, if_true, ite_self]
  · have e : W (c.at_ + 1) = c.at_ + 1 := W_id (by omega) (by omega)
    by_cases h4 : n < 1
    · simp only [h, h4, decide_true, decide_false, Bool.not_false, cond_true, goNextS, or_true, if_true, show n ≤ 256 by omega]
    · by_cases h5 : n > 256
      · have hs : goNextSC ⟨c.list, c.at_ + 1⟩ 256 = true := by
          simp only [goNextSC, okc, Bool.and_eq_true, decide_eq_true_iff, ble_iff, most]; omega
        simp only [h, h4, h5, decide_true, decide_false, Bool.not_false, cond_true, cond_false, if_false, h1, Bool.true_and, blt_iff.2 (show c.at_.toNat < c.list.length by omega), show ¬ n ≤ 256 by omega, show ¬ n = 0 by omega, e, hs, dfltI]
      · simp only [h, h4, h5, decide_true, decide_false, Bool.not_false, cond_true, cond_false, goNextS, or_self, if_false, h1, Bool.true_and, blt_iff.2 (show c.at_.toNat < c.list.length by omega), show n ≤ 256 by omega, if_true, show ¬ n = 0 by omega, e, dfltI]

theorem sp23 {c : Pm.Codes} {K : Int → Pm.Codes → Option R} : f23 big c K = K (goLeft c).1 (goLeft c).2 := rfl

theorem sp25 {p : Pm.Pool} {x : Pm.Page} {K : Pm.Pool → Int → Option R} : f25 big p x K = K (goUpdate p x).1 (goUpdate p x).2 := by
  unfold f25 goUpdate
  cases hv : goPoolV p with
  | false => rfl
  | true =>
    have hl := valid_len hv
    have hc : goFindC p x.id = true := ble_iff.2 (by simp only [most]; omega)
    simp only [Bool.not_true, cond_false, hc, cond_true]
    have hs : goFind p x.id = -1 ∨ (0 ≤ goFind p x.id ∧ goFind p x.id < 0 + p.frames.length) := findF_spec p.frames x.id 0 (by omega)
    generalize goFind p x.id = i at hs ⊢
    by_cases h1 : (goEnc x).2 = 0
    case neg =>
      have hb : ((goEnc x).2 != 0) = true := by simpa using h1
      simp only [hb, cond_true]
      simp only [h1, ne_eq, not_false_eq_true, if_true]
    have hb : ((goEnc x).2 != 0) = false := by simpa using h1
    simp only [hb, cond_false]
    simp only [h1, ne_eq, not_true_eq_false, if_false]
    by_cases h0 : i < 0
    · simp only [h0, decide_true, cond_true, if_true]
    have hi2 : i.toNat < p.frames.length := by omega
    have hw : ∀ f, goWithC p.frames i f = true := by
      intro f; simp only [goWithC, Bool.and_eq_true, decide_eq_true_iff, ble_iff, most]; omega
    simp only [h0, decide_false, cond_false, if_false, show 0 ≤ i by omega, decide_true, Bool.true_and, blt_iff.2 hi2, cond_true, hw, goWith]
    by_cases h2 : x.lsn ≤ (p.frames.getD i.toNat default).page.lsn
    · simp only [h2, decide_true, cond_true, if_true]
    simp only [h2, decide_false, cond_false, if_false]
    cases hd : (p.frames.getD i.toNat default).dirty with
    | true => simp only [Bool.not_true, cond_false, if_true]
    | false => simp only [Bool.not_false, cond_true, Bool.false_eq_true, if_false]

theorem sp26 {p : Pm.Pool} {id lsn : Int} {K : Pm.Pool → Int → Option R} : f26 big p id lsn K = K (goClean p id lsn).1 (goClean p id lsn).2 := by
  unfold f26 goClean
  cases hv : goPoolV p with
  | false => rfl
  | true =>
    have hl := valid_len hv
    have hc : goFindC p id = true := ble_iff.2 (by simp only [most]; omega)
    simp only [Bool.not_true, cond_false, hc, cond_true]
    have hs : goFind p id = -1 ∨ (0 ≤ goFind p id ∧ goFind p id < 0 + p.frames.length) := findF_spec p.frames id 0 (by omega)
    generalize goFind p id = i at hs ⊢
    by_cases h0 : i < 0
    · simp only [h0, decide_true, cond_true, if_true]
    have hi2 : i.toNat < p.frames.length := by omega
    have hw : ∀ f, goWithC p.frames i f = true := by
      intro f; simp only [goWithC, Bool.and_eq_true, decide_eq_true_iff, ble_iff, most]; omega
    simp only [h0, decide_false, cond_false, if_false, show 0 ≤ i by omega, decide_true, Bool.true_and, blt_iff.2 hi2, cond_true, hw, goWith]
    generalize p.frames.getD i.toNat default = f
    by_cases h2 : lsn > f.page.lsn
    · simp only [h2, decide_true, cond_true, if_true]
    simp only [h2, decide_false, cond_false, if_false]
    cases hd : f.dirty with
    | false => simp only [Bool.not_false, cond_true]
    | true =>
      simp only [Bool.not_true, cond_false]
      by_cases h3 : lsn = f.page.lsn
      · simp only [h3, beq_self_eq_true, cond_true, if_true]
      · simp only [show (lsn == f.page.lsn) = false by simpa using h3, cond_false, h3, if_false]
        by_cases h4 : f.rec_ ≤ lsn
        · simp only [h4, decide_true, cond_true, if_true]
        · simp only [h4, decide_false, cond_false, if_false]

theorem dirtyL_len (l : List Pm.Frame) : (dirtyL l).length ≤ l.length := by
  unfold dirtyL; rw [List.length_map]; exact List.length_filter_le _ _

theorem f27_L5_ok {l : List Pm.Frame} (hm : l.length ≤ 64) {N : Nat} {k0 : List Pm.Dirty → Option R} : ∀ (m i n : Nat) (out : List Pm.Dirty), l.length - i ≤ m → m < n → out.length ≤ i →
    f27_L5 N k0 n out l l.length i = k0 (out ++ dirtyL (l.drop i)) := by
  intro m
  induction m with
  | zero =>
    intro i n out h1 h2 h3
    obtain ⟨n, rfl⟩ : ∃ n', n = n' + 1 := ⟨n - 1, by omega⟩
    rw [List.drop_of_length_le (by omega)]
    simp only [f27_L5, f27_L5_s, show ¬ ((i : Int) < (l.length : Int)) by omega, decide_false, cond_false, dirtyL, List.filter_nil, List.map_nil, List.append_nil]
  | succ m ih =>
    intro i n out h1 h2 h3
    obtain ⟨n, rfl⟩ : ∃ n', n = n' + 1 := ⟨n - 1, by omega⟩
    by_cases hi : i < l.length
    · have e2 : W ((i : Int) + 1) = ((i + 1 : Nat) : Int) := by rw [W_id (by omega) (by omega)]; omega
      rw [drop_at default hi]
      simp only [f27_L5, f27_L5_s, show (i : Int) < (l.length : Int) by omega, decide_true, cond_true, Int.toNat_natCast, blt_iff.2 hi, show (0 : Int) ≤ (i : Int) by omega, Bool.true_and, e2, dirtyL, List.filter_cons]
      cases hd : (l.getD i default).dirty with
      | true =>
        simp only [cond_true, if_true, List.map_cons, List.length_singleton, ble_iff.2 (show out.length + 1 ≤ most by simp only [most]; omega)]
        rw [ih (i + 1) n _ (by omega) (by omega) (by simp; omega)]
        simp only [dirtyL, List.append_assoc, List.singleton_append]
      | false =>
        simp only [cond_false, Bool.false_eq_true, if_false]
        exact ih (i + 1) n out (by omega) (by omega) (by omega)
    · rw [List.drop_of_length_le (by omega)]
      simp only [f27_L5, f27_L5_s, show ¬ ((i : Int) < (l.length : Int)) by omega, decide_false, cond_false, dirtyL, List.filter_nil, List.map_nil, List.append_nil]

theorem sp27 {p : Pm.Pool} {K : List Pm.Dirty → Option R} (hc : goDirtyC p = true) : f27 big p K = K (goDirty p) := by
  unfold f27
  unfold goDirtyC at hc
  unfold goDirty at *
  cases hv : goPoolV p with
  | false => rfl
  | true =>
    have hl := valid_len hv
    rw [hv] at hc
    simp only [Bool.not_true, cond_false] at hc ⊢
    refine (f27_L5_ok (show p.frames.length ≤ 64 by omega) p.frames.length 0 big [] (by omega) (by simp only [big]; omega) (by simp)).trans ?_
    rw [List.drop_zero, List.nil_append]
    have : goSortC (dirtyL p.frames) = true := hc
    rw [this]; rfl

theorem sp59 {p : Pm.Page} {K : Bool → Option R} : f59 big p K = K (goNumbers p) := by
  unfold f59 goNumbers
  by_cases h1 : p.id ≥ 0
  case neg => simp only [h1, decide_false, cond_false, show ¬ 0 ≤ p.id from h1, Bool.false_and]
  by_cases h2 : p.id < 64
  case neg => simp only [h1, h2, decide_true, decide_false, cond_true, cond_false, show 0 ≤ p.id from h1, Bool.true_and, Bool.false_and]
  by_cases h3 : p.lsn ≥ 0
  case neg => simp only [h1, h2, h3, decide_true, decide_false, cond_true, cond_false, show 0 ≤ p.id from h1, show ¬ 0 ≤ p.lsn from h3, Bool.true_and, Bool.false_and]
  simp only [h1, h2, h3, decide_true, cond_true, show 0 ≤ p.id from h1, show 0 ≤ p.lsn from h3, Bool.true_and]

theorem ble_dec {a b : Nat} : Nat.ble a b = decide (a ≤ b) := by
  rw [Bool.eq_iff_iff, ble_iff, decide_eq_true_iff]

theorem sp80 {c : Pm.Cell} {K : Bool → Option R} : f80 big c K = K (goVCell c) := by
  unfold f80 goVCell
  rw [ble_dec]
  by_cases h1 : c.data.length ≤ 12
  · simp only [show (c.data.length : Int) ≤ 12 by omega, h1, decide_true, cond_true, Bool.true_and]
    cases c.set <;> rfl
  · simp only [show ¬ (c.data.length : Int) ≤ 12 by omega, h1, decide_false, cond_false, Bool.false_and]

theorem f60_L2_ok {p : Pm.Page} {N : Nat} {k0 : Bool → Option R} {k1 : Option R} : ∀ (m i n : Nat), 16 - i ≤ m → m < n →
    f60_L2 N k0 k1 n i p = bif (p.cells.list.drop i).all (fun c => goVCell c && !((p.lsn == 0) && c.set)) then k1 else k0 false := by
  have hl : p.cells.list.length = 16 := rfl
  intro m
  induction m with
  | zero =>
    intro i n h1 h2
    obtain ⟨n, rfl⟩ : ∃ n', n = n' + 1 := ⟨n - 1, by omega⟩
    rw [List.drop_of_length_le (by omega)]
    simp only [f60_L2, f60_L2_s, show ¬ ((i : Int) < 16) by omega, decide_false, cond_false, List.all_nil, cond_true]
  | succ m ih =>
    intro i n h1 h2
    obtain ⟨n, rfl⟩ : ∃ n', n = n' + 1 := ⟨n - 1, by omega⟩
    by_cases hi : i < 16
    · have e2 : W ((i : Int) + 1) = ((i + 1 : Nat) : Int) := by rw [W_id (by omega) (by omega)]; omega
      rw [drop_at default (by omega : i < p.cells.list.length)]
      simp only [f60_L2, f60_L2_s, show (i : Int) < 16 by omega, decide_true, cond_true, Int.toNat_natCast, show (0 : Int) ≤ (i : Int) by omega, Bool.and_self, e2, sets_at p.cells hi, datas_at p.cells hi, cell_mk, List.all_cons, ih (i + 1) n (by omega) (by omega)]
      generalize p.cells.list.getD i default = c
      generalize (p.cells.list.drop (i + 1)).all (fun c => goVCell c && !((p.lsn == 0) && c.set)) = b
      cases goVCell c <;> cases (p.lsn == 0) <;> cases c.set <;> cases b <;> rfl
    · rw [List.drop_of_length_le (by omega)]
      simp only [f60_L2, f60_L2_s, show ¬ ((i : Int) < 16) by omega, decide_false, cond_false, List.all_nil, cond_true]

theorem sp60 {p : Pm.Page} {K : Bool → Option R} : f60 big p K = K (goCells2 p) := by
  unfold f60
  refine (f60_L2_ok 16 0 big (by omega) (by simp [big])).trans ?_
  unfold goCells2
  rw [List.drop_zero]
  cases p.cells.list.all (fun c => goVCell c && !((p.lsn == 0) && c.set)) <;> rfl

theorem sp28 {p : Pm.Page} {K : Bool → Option R} : f28 big p K = K (goPageV2 p) := by
  unfold f28 goPageV2
  cases goNumbers p <;> rfl

end Go.Ab

namespace Go.Ab
open Go

variable {R : Type}

/-- The pool of the law: one frame. -/
def mkD (lsn rec_ : Int) : Pm.Pool := ⟨1, [⟨⟨4, lsn, default⟩, decide (0 < rec_), rec_, true⟩], 0⟩

theorem pageV_4 {lsn : Int} (h0 : 0 ≤ lsn) (h1 : lsn ≤ 1099511627776) : goPageV ⟨4, lsn, default⟩ = true := by
  unfold goPageV goPlaced goNamed
  simp only [h0, h1, decide_true, Bool.true_and]
  rfl
theorem enc_4 {lsn : Int} (h0 : 0 ≤ lsn) (h1 : lsn ≤ 1099511627776) : (goEnc ⟨4, lsn, default⟩).2 = 0 := by
  have h := pageV_4 h0 h1
  unfold goPageV at h
  rw [Bool.and_eq_true] at h
  unfold goEnc
  rw [h.1, h.2]; rfl

structure Ok (lsn rec_ : Int) : Prop where
  r0 : 0 ≤ rec_
  rl : rec_ ≤ lsn
  lm : lsn ≤ 1000

theorem valid_D {lsn r : Int} (h : Ok lsn r) : goPoolV (mkD lsn r) = true := by
  obtain ⟨h0, h1, h2⟩ := h
  have hp := pageV_4 (lsn := lsn) (by omega) (by omega)
  unfold goPoolV mkD
  simp only [List.length_singleton, framesOk, hp, findF, if_true, Bool.true_and, decide_true, Bool.and_true]
  rw [decide_eq_true (by omega), Bool.true_and]
  unfold dirtyOk
  by_cases c : 0 < r
  · simp only [c, decide_true, if_true]; exact decide_eq_true (by omega)
  · simp only [c, decide_false, Bool.false_eq_true, if_false]; exact decide_eq_true (by omega)

theorem find_D (lsn r : Int) : goFind (mkD lsn r) 4 = 0 := rfl

theorem upd_D {lsn r n : Int} (h : Ok lsn r) (h1 : lsn < n) (h2 : n ≤ 1000) : goUpdate (mkD lsn r) ⟨4, n, default⟩ = (mkD n (if r = 0 then n else r), 0) := by
  obtain ⟨a, b, c⟩ := h
  unfold goUpdate
  rw [valid_D ⟨a, b, c⟩]
  have he := enc_4 (lsn := n) (by omega) (by omega)
  simp only [Bool.not_true, cond_false, he, ne_eq, not_true_eq_false, if_false, find_D, show ¬ (0 : Int) < 0 by omega]
  simp only [mkD, show Int.toNat 0 = 0 from rfl, List.getD_cons_zero, show ¬ n ≤ lsn by omega, if_false, List.set_cons_zero]
  by_cases e : r = 0
  · subst e; simp only [if_true, show ¬ (0 : Int) < 0 by omega, show 0 < n by omega, decide_true, decide_false, Bool.false_eq_true, if_false]
  · simp only [e, if_false, show 0 < r by omega, decide_true, if_true]

theorem cln_D {lsn r n : Int} (h : Ok lsn r) (h1 : 0 ≤ n) (h2 : n ≤ lsn) : goClean (mkD lsn r) 4 n = (mkD lsn (if n = lsn then 0 else if 0 < r ∧ r ≤ n then n + 1 else r), 0) := by
  obtain ⟨a, b, c⟩ := h
  unfold goClean
  rw [valid_D ⟨a, b, c⟩]
  have e : W (n + 1) = n + 1 := W_id (by omega) (by omega)
  simp only [Bool.not_true, cond_false, find_D, show ¬ (0 : Int) < 0 by omega, if_false]
  simp only [mkD, show Int.toNat 0 = 0 from rfl, List.getD_cons_zero, show ¬ n > lsn by omega, if_false, List.set_cons_zero, e]
  by_cases d : 0 < r
  · simp only [d, decide_true, Bool.not_true, cond_false, true_and]
    by_cases f : n = lsn
    · simp only [f, if_true, show ¬ (0 : Int) < 0 by omega, decide_false]
    · simp only [f, if_false]
      by_cases g : r ≤ n
      · simp only [g, if_true, show 0 < n + 1 by omega, decide_true]
      · simp only [g, if_false, d, decide_true]
  · have : r = 0 := by omega
    subst this
    simp only [show ¬ (0 : Int) < 0 by omega, decide_false, Bool.not_false, cond_true, false_and, if_false, ite_self]

theorem dty_D {lsn r : Int} (h : Ok lsn r) : goDirty (mkD lsn r) = if 0 < r then [⟨4, r, lsn⟩] else [] := by
  unfold goDirty
  rw [valid_D h]
  simp only [Bool.not_true, cond_false, mkD, dirtyL, List.filter_cons, List.filter_nil]
  by_cases d : 0 < r
  · simp only [d, decide_true, if_true, List.map_cons, List.map_nil]
  · simp only [d, decide_false, Bool.false_eq_true, if_false, List.map_nil]
theorem dtyC_D {lsn r : Int} (h : Ok lsn r) : goDirtyC (mkD lsn r) = true := by
  unfold goDirtyC; rw [dty_D h, ble_iff]; split <;> simp

theorem drp_D {lsn r : Int} (h : Ok lsn r) : ((goDrop (mkD lsn r) 4).2 == 23) = decide (0 < r) := by
  unfold goDrop
  rw [valid_D h]
  simp only [Bool.not_true, cond_false, find_D, show ¬ (0 : Int) < 0 by omega, if_false]
  simp only [mkD, show Int.toNat 0 = 0 from rfl, List.getD_cons_zero]
  by_cases d : 0 < r
  · simp only [d, decide_true, cond_true]; rfl
  · simp only [d, decide_false, cond_false]; rfl

theorem nx {l : List Int} (hl : ∀ x ∈ l, 0 ≤ x ∧ x ≤ 255) (hm : l.length ≤ 1000) {a n : Int} (h0 : 0 ≤ a) (h1 : a ≤ l.length) (n1 : 1 ≤ n) (n2 : n ≤ 256) :
    ∃ v a', goNextC ⟨l, a⟩ n = true ∧ goNext ⟨l, a⟩ n = (v, ⟨l, a'⟩) ∧ 0 ≤ v ∧ v < n ∧ a ≤ a' ∧ a' ≤ l.length ∧ (a < l.length → a' = a + 1) := by
  have hc : goNextC ⟨l, a⟩ n = true := by
    simp only [goNextC, okc, Bool.and_eq_true, decide_eq_true_iff, ble_iff, most]; omega
  simp only [goNext, n2, if_true, goNextS]
  by_cases c : a ≥ (l.length : Int)
  · exact ⟨0, a, hc, by rw [if_pos (.inl c)], by omega, by omega, by omega, h1, fun h => absurd h (by omega)⟩
  · have hx : 0 ≤ l.getD a.toNat 0 ∧ l.getD a.toNat 0 ≤ 255 := by
      rw [getD_at (show a.toNat < l.length by omega)]; exact hl _ (List.getElem_mem _)
    refine ⟨(W (l.getD a.toNat 0)).tmod n, a + 1, hc, by rw [if_neg (by omega)], ?_, ?_, by omega, by omega, fun _ => rfl⟩
    · rw [W_id (by omega) (by omega)]; exact Int.tmod_nonneg _ hx.1
    · exact Int.tmod_lt_of_pos _ (by omega)

theorem f6_L9_ok {l : List Int} (hl : ∀ x ∈ l, 0 ≤ x ∧ x ≤ 255) (hm : l.length ≤ 120) {N : Nat} {k0 : Bool → Option R} {k1 : Int → Pm.Pool → Option R} : ∀ (m k : Nat) (lsn r a : Int), (l.length - a).toNat ≤ m → m < k → 0 ≤ a → a ≤ l.length → 0 ≤ r → r ≤ lsn → lsn ≤ 3 * a →
    ∃ lsn' r', Ok lsn' r' ∧ f6_L9 N k0 k1 k lsn r (mkD lsn r) l a = k1 lsn' (mkD lsn' r') := by
  intro m
  induction m with
  | zero =>
    intro k lsn r a h1 h2 h3 h4 h5 h6 h7
    obtain ⟨k, rfl⟩ : ∃ k', k = k' + 1 := ⟨k - 1, by omega⟩
    refine ⟨lsn, r, ⟨h5, h6, by omega⟩, ?_⟩
    have e : W ((l.length : Int) - a) = (l.length : Int) - a := W_id (by omega) (by omega)
    simp only [f6_L9, f6_L9_s, goLeft, e, show ¬ ((l.length : Int) - a > 0) by omega, decide_false, cond_false]
  | succ m ih =>
    intro k lsn r a h1 h2 h3 h4 h5 h6 h7
    obtain ⟨k, rfl⟩ : ∃ k', k = k' + 1 := ⟨k - 1, by omega⟩
    have e : W ((l.length : Int) - a) = (l.length : Int) - a := W_id (by omega) (by omega)
    by_cases ha : (l.length : Int) - a > 0
    case neg =>
      refine ⟨lsn, r, ⟨h5, h6, by omega⟩, ?_⟩
      simp only [f6_L9, f6_L9_s, goLeft, e, ha, decide_false, cond_false]
    have hok : Ok lsn r := ⟨h5, h6, by omega⟩
    obtain ⟨v, a1, c1, e1, v0, v1, a2, a3, a4⟩ := nx hl (by omega) h3 h4 (show (1 : Int) ≤ 3 by omega) (by omega)
    have a4 := a4 (by omega)
    by_cases hv : v > 0
    · obtain ⟨u, b1, c2, e2, u0, u1, b2, b3, _⟩ := nx hl (by omega) (show 0 ≤ a1 by omega) a3 (show (1 : Int) ≤ 3 by omega) (by omega)
      have w1 : W (1 + u) = 1 + u := W_id (by omega) (by omega)
      have w2 : W (lsn + (1 + u)) = lsn + (1 + u) := W_id (by omega) (by omega)
      have hu := upd_D hok (show lsn < lsn + (1 + u) by omega) (by omega)
      by_cases hr : r = 0
      · subst hr
        simp only [if_true] at hu
        have hok2 : Ok (lsn + (1 + u)) (lsn + (1 + u)) := ⟨by omega, by omega, by omega⟩
        obtain ⟨l', r', ho, hI⟩ := ih k (lsn + (1 + u)) (lsn + (1 + u)) b1 (by omega) (by omega) (by omega) b3 (by omega) (by omega) (by omega)
        refine ⟨l', r', ho, ?_⟩
        rw [← hI]
        have hp : lsn + (1 + u) > 0 := by omega
        have hp2 : 0 < lsn + (1 + u) := by omega
        have hb : Nat.blt 0 1 = true := rfl
        simp only [f6_L9, f6_L9_s, goLeft, e, ha, decide_true, cond_true, c1, e1, hv, c2, e2, w1, w2, hu, bne_self_eq_false, cond_false, beq_self_eq_true, dtyC_D hok2, dty_D hok2, hp, hp2, if_true, List.length_singleton, Int.natCast_one, Bool.not_true, Bool.not_false, hb, List.getD_cons_zero, drp_D hok2]
      · simp only [hr, if_false] at hu
        have hok2 : Ok (lsn + (1 + u)) r := ⟨by omega, by omega, by omega⟩
        obtain ⟨l', r', ho, hI⟩ := ih k (lsn + (1 + u)) r b1 (by omega) (by omega) (by omega) b3 (by omega) (by omega) (by omega)
        refine ⟨l', r', ho, ?_⟩
        rw [← hI]
        have hp : r > 0 := by omega
        have hp2 : 0 < r := by omega
        have hb : Nat.blt 0 1 = true := rfl
        simp only [f6_L9, f6_L9_s, goLeft, e, ha, decide_true, cond_true, c1, e1, hv, c2, e2, w1, w2, hu, bne_self_eq_false, cond_false, show (r == 0) = false by simpa using hr, beq_self_eq_true, dtyC_D hok2, dty_D hok2, hp, hp2, if_true, List.length_singleton, Int.natCast_one, Bool.not_true, Bool.not_false, hb, List.getD_cons_zero, drp_D hok2]
    · obtain ⟨u, b1, c2, e2, u0, u1, b2, b3, _⟩ := nx hl (by omega) (show 0 ≤ a1 by omega) a3 (show (1 : Int) ≤ 4 by omega) (by omega)
      have w1 : W (lsn - u) = lsn - u := W_id (by omega) (by omega)
      obtain ⟨n, hn⟩ : ∃ n, n = if 0 < lsn - u then lsn - u else 0 := ⟨_, rfl⟩
      have n0 : 0 ≤ n := by rw [hn]; split <;> omega
      have n1 : n ≤ lsn := by rw [hn]; split <;> omega
      have w2 : W (n + 1) = n + 1 := W_id (by omega) (by omega)
      have hu := cln_D hok n0 n1
      have hb : Nat.blt 0 1 = true := rfl
      have fin : ∀ r2, Ok lsn r2 → ∃ l' r', Ok l' r' ∧ f6_L9 N k0 k1 k lsn r2 (mkD lsn r2) l b1 = k1 l' (mkD l' r') := fun r2 ho =>
        ih k lsn r2 b1 (by omega) (by omega) (by omega) b3 ho.r0 ho.rl (by omega)
      by_cases hnl : n = lsn
      · have hok2 : Ok lsn 0 := ⟨by omega, by omega, by omega⟩
        obtain ⟨l', r', ho, hI⟩ := fin 0 hok2
        refine ⟨l', r', ho, ?_⟩
        rw [← hI]
        simp only [hnl, if_true] at hu
        have hz : ((0 : Int) == 1) = false := rfl
        have hz2 : ¬ (0 : Int) < 0 := by omega
        simp only [f6_L9, f6_L9_s, goLeft, e, ha, decide_true, cond_true, c1, e1, hv, decide_false, cond_false, c2, e2, w1, ← hn, hnl, hu, bne_self_eq_false, beq_self_eq_true, dtyC_D hok2, dty_D hok2, hz2, if_false, List.length_nil, Int.natCast_zero, hz, Bool.not_true, Bool.not_false, drp_D hok2]
      · simp only [hnl, if_false] at hu
        have hnb : (n == lsn) = false := by simpa using hnl
        by_cases hr : 0 < r
        · by_cases hrn : r ≤ n
          · have hok2 : Ok lsn (n + 1) := ⟨by omega, by omega, by omega⟩
            obtain ⟨l', r', ho, hI⟩ := fin (n + 1) hok2
            refine ⟨l', r', ho, ?_⟩
            rw [← hI]
            simp only [hr, hrn, and_self, if_true] at hu
            have hp : n + 1 > 0 := by omega
            have hp2 : 0 < n + 1 := by omega
            have hr2 : r > 0 := hr
            simp only [f6_L9, f6_L9_s, goLeft, e, ha, decide_true, cond_true, c1, e1, hv, decide_false, cond_false, c2, e2, w1, ← hn, hnb, hu, hr2, hrn, w2, bne_self_eq_false, beq_self_eq_true, dtyC_D hok2, dty_D hok2, hp, hp2, if_true, List.length_singleton, Int.natCast_one, Bool.not_true, Bool.not_false, hb, List.getD_cons_zero, drp_D hok2]
          · obtain ⟨l', r', ho, hI⟩ := fin r hok
            refine ⟨l', r', ho, ?_⟩
            rw [← hI]
            simp only [hrn, and_false, if_false] at hu
            have hr2 : r > 0 := hr
            simp only [f6_L9, f6_L9_s, goLeft, e, ha, decide_true, cond_true, c1, e1, hv, decide_false, cond_false, c2, e2, w1, ← hn, hnb, hu, hr2, hrn, bne_self_eq_false, beq_self_eq_true, dtyC_D hok, dty_D hok, hr, if_true, List.length_singleton, Int.natCast_one, Bool.not_true, Bool.not_false, hb, List.getD_cons_zero, drp_D hok]
        · obtain ⟨l', r', ho, hI⟩ := fin r hok
          refine ⟨l', r', ho, ?_⟩
          rw [← hI]
          simp only [hr, false_and, if_false] at hu
          have hr2 : ¬ r > 0 := hr
          have hz : ((0 : Int) == 1) = false := rfl
          simp only [f6_L9, f6_L9_s, goLeft, e, ha, decide_true, cond_true, c1, e1, hv, decide_false, cond_false, c2, e2, w1, ← hn, hnb, hu, hr2, bne_self_eq_false, beq_self_eq_true, dtyC_D hok, dty_D hok, hr, if_false, List.length_nil, Int.natCast_zero, hz, Bool.not_true, Bool.not_false, drp_D hok]

theorem sp6' {N : Nat} (hN : 1000 ≤ N) {l : List Int} {K : Bool → Option R} (hc : goLawPD l = true) : f6 N l K = K true := by
  simp only [goLawPD, List.all_eq_true, decide_eq_true_iff] at hc
  unfold f6
  have hC : goCodesC l 120 = true := rfl
  have h3 : goPoolNew 1 = (⟨1, [], 0⟩, 0) := rfl
  have h4 : goPoolPut ⟨1, [], 0⟩ ⟨4, 0, default⟩ = (mkD 0 0, 0) := by kernel_rfl
  simp only [goAwake10, Bool.not_true, cond_false, hC, cond_true, h3, h4, bne_self_eq_false, Bool.not_false, goCodes]
  obtain ⟨lsn, r, ho, hI⟩ := f6_L9_ok (R := R) (l := l.take 120) (fun x hx => hc x (List.mem_of_mem_take hx)) (by simp; omega) (N := N)
    (k0 := fun t2 => K t2) (k1 := fun lsn p =>
            let r31 := goGet p 4
            bif r31.2 then
              bif (r31.1.lsn == lsn) then
                let r32 := goPageV2 r31.1
                K r32
              else
                K false
            else
              K false) (l.take 120).length N 0 0 0 (by simp) (by simp; omega) (by omega) (by omega) (by omega) (by omega) (by omega)
  refine hI.trans ?_
  have hg : goGet (mkD lsn r) 4 = (⟨4, lsn, default⟩, true) := by
    unfold goGet goPoolFind
    rw [valid_D ho]
    rfl
  have hv : goPageV2 ⟨4, lsn, default⟩ = true := by
    obtain ⟨a, b, c⟩ := ho
    unfold goPageV2 goNumbers goCells2
    simp only [show (0 : Int) ≤ 4 by omega, show (4 : Int) < 64 by omega, show 0 ≤ lsn by omega, show lsn ≤ 1099511627776 by omega, decide_true, Bool.true_and]
    cases (lsn == 0) <;> rfl
  simp only [hg, cond_true, beq_self_eq_true, hv]

theorem sp6 {l : List Int} {K : Bool → Option R} (hc : goLawPD l = true) : f6 big l K = K (goTruePD l) := sp6' (by simp [big]) hc

end Go.Ab

namespace Go.Ab
open Go Go.Proofs Go.RowKit

set_option maxHeartbeats 4000000 in
set_option maxRecDepth 1000000 in
theorem ins_walk (x : Option Addr) (n c : Nat) (hn : n ≤ 1) (cmp : Value) (w : World) :
    Calls Try.prog 90 #[.slice x n c, .int .i64 0, .int .i64 n, cmp] w fun e w' => e = .returned (.tuple #[]) ∧ w' = w := by
  have hd : decide (1 < (n : Int)) = false := decide_eq_false (by omega)
  go_enter Try.func90, Try.ntmps90
  go_wp2
  go_loopw [8] (fun i wr => i = .int .i64 1 ∧ wr = w) (fun _ _ => 0)
  case atStart => exact ⟨by rfl, by rfl⟩
  case round =>
    obtain ⟨rfl, rfl⟩ := hrel
    go_wp2
    go_end0
    exact ⟨rfl, rfl⟩

set_option maxHeartbeats 4000000 in
set_option maxRecDepth 1000000 in
theorem len99 (n : Nat) (hn : n ≤ 1) (w : World) : Calls Try.prog 99 #[.int .u64 n] w fun e w' => e = .returned (.int .i64 n) ∧ w' = w := by
  rcases (by omega : n = 0 ∨ n = 1) with rfl | rfl
  all_goals
    go_enter Try.func99, Try.ntmps99
    go_wp2
    go_ret
    exact ⟨by kernel_rfl, rfl⟩
set_option maxHeartbeats 4000000 in
theorem len78 (n : Nat) (hn : n ≤ 1) (w : World) : Calls Try.prog 78 #[.int .u64 n] w fun e w' => e = .returned (.int .i64 n) ∧ w' = w := by
  go_enter Try.func78, Try.ntmps78
  go_wp2_with (go_at_call 99; refine (len99 n hn _).mono ?_)
  rintro e W1 ⟨rfl, rfl⟩
  go_wp2
  go_ret
  exact ⟨rfl, rfl⟩

set_option maxHeartbeats 4000000 in
set_option maxRecDepth 1000000 in
theorem pdq_walk (x : Option Addr) (n c : Nat) (hn : n ≤ 1) (k : Int) (cmp : Value) (w : World) :
    Calls Try.prog 77 #[.slice x n c, .int .i64 0, .int .i64 n, .int .i64 k, cmp] w fun e w' => e = .returned (.tuple #[]) ∧ w' = w := by
  rcases (by omega : n = 0 ∨ n = 1) with rfl | rfl
  · go_enter Try.func77, Try.ntmps77
    go_wp2
    go_loopw [1, 2] (fun i j wr => i = .int .i64 0 ∧ j = .int .i64 0 ∧ wr = w) (fun _ _ _ => 0)
    case atStart => exact ⟨by rfl, by rfl, by rfl⟩
    case round =>
      obtain ⟨rfl, rfl, rfl⟩ := hrel
      go_wp2_with (go_at_call 90; refine (ins_walk x 0 c (by omega) cmp _).mono ?_; rintro e W1 ⟨rfl, rfl⟩)
      refine bodyPost_ret (results_none rfl _ _ _) rfl ?_
      exact ⟨rfl, rfl⟩
  · go_enter Try.func77, Try.ntmps77
    go_wp2
    go_loopw [1, 2] (fun i j wr => i = .int .i64 0 ∧ j = .int .i64 1 ∧ wr = w) (fun _ _ _ => 0)
    case atStart => exact ⟨by rfl, by rfl, by rfl⟩
    case round =>
      obtain ⟨rfl, rfl, rfl⟩ := hrel
      go_wp2_with (go_at_call 90; refine (ins_walk x 1 c (by omega) cmp _).mono ?_; rintro e W1 ⟨rfl, rfl⟩)
      refine bodyPost_ret (results_none rfl _ _ _) rfl ?_
      exact ⟨rfl, rfl⟩
set_option maxHeartbeats 4000000 in
theorem sort_walk (x : Option Addr) (n c : Nat) (hn : n ≤ 1) (cmp : Value) (w : World) :
    Calls Try.prog 56 #[.slice x n c, cmp] w fun e w' => e = .returned (.tuple #[]) ∧ w' = w := by
  go_enter Try.func56, Try.ntmps56
  go_wp2_with (go_at_call 78; refine (len78 n hn _).mono ?_)
  rintro e W1 ⟨rfl, rfl⟩
  go_wp2_with (go_at_call 77; refine (pdq_walk x n c hn n cmp _).mono ?_)
  rintro e W1 ⟨rfl, rfl⟩
  go_wp2
  go_end0
  exact ⟨rfl, rfl⟩

theorem ok56 : EntOK Try.prog 56 e56 := by
  refine ent_hand ?_
  intro qs us c r h hc
  unfold e56 at h
  split at h
  case h_2 => cases h
  rename_i fl cx x
  simp only [Option.map_eq_some_iff] at h
  obtain ⟨l, hl, h⟩ := h
  injection h with h1 h2; subst h1; subst h2
  have hn : l.length ≤ 1 := Nat.le_of_ble_eq_true (show Nat.ble l.length 1 = true from hc)
  refine ⟨rfl, ⟨Try.f56, by kernel_rfl, by kernel_rfl, by kernel_rfl⟩, .tup [], rfl, ?_⟩
  intro args w S hs hrp
  obtain ⟨v0, v1, rfl⟩ : ∃ v0 v1, args = #[v0, v1] := by
    have hs2 : args.size = 2 := hs
    refine ⟨args[0]'(by omega), args[1]'(by omega), ?_⟩
    apply Array.ext
    · simpa using hs
    · intro i h1 h2
      match i with
      | 0 => rfl
      | 1 => rfl
      | i + 2 => simp at h2; omega
  have h0 := hrp 0 _ v0 rfl rfl
  have hv := (rp_val h0).weak (castSl_ok hl)
  obtain ⟨a, n, cp, sz, ad, U, hsl⟩ := hv.toSl
  have hnn : n ≤ 1 := by have := hsl.hn; rw [List.length_map] at this; omega
  rw [hsl.hv]
  refine (sort_walk a n cp hnn _ w).mono ?_
  rintro e w' ⟨rfl, rfl⟩
  exact ⟨_, rfl, Below.refl _ _, .tup #[] [] (fun _ => Go.undef) rfl (fun j x h => by simp at h) (fun j x h => by simp at h)⟩

end Go.Ab

namespace Go.Ab
open Go Go.Proofs

theorem ok9 : EntOK Try.prog 9 e9 := by
  refine ent_ok (C := tbl C9) (tbl_nil) libOK follows hF9 (rt := []) (bt := [.codes]) ?_
  intro qs us cc rr h hCk
  unfold e9 at h
  split at h
  case h_2 => cases h
  simp only [Option.bind_eq_some_iff, Option.map_eq_some_iff] at h
  obtain ⟨l', hl, h⟩ := h
  injection h with h1 h2; subst h1; subst h2
  exact ⟨_, _, L9 big, .cons (.val _ _ (castSl_ok hl)) (.cons (.refl _) .nil), .nil, l9 big, (b9 big _ _).trans (sp9 hCk)⟩

theorem ok24a : EntOK Try.prog 24 e24a := by
  refine ent_ok (C := tbl C24a) (tbl_nil) libOK follows hF24a (rt := [.any]) (bt := [.codes]) ?_
  intro qs us cc rr h hCk
  unfold e24a at h
  split at h
  case h_2 => cases h
  simp only [Option.bind_eq_some_iff, Option.map_eq_some_iff] at h
  obtain ⟨c', hc, h⟩ := h
  injection h with h1 h2; subst h1; subst h2
  exact ⟨_, _, L24a big, .cons (.refl _) (.cons (.refl _) .nil), .cons (dec_ok hc) .nil, l24a big, (b24a big _ _).trans (sp24a hCk)⟩

theorem ok24 : EntOK Try.prog 24 e24 := by
  refine ent_ok (C := tbl C24) (tbl_cons ok24a (tbl_nil)) libOK follows hF24 (rt := [.any]) (bt := [.codes]) ?_
  intro qs us cc rr h hCk
  unfold e24 at h
  split at h
  case h_2 => cases h
  simp only [Option.bind_eq_some_iff, Option.map_eq_some_iff] at h
  obtain ⟨c', hc, h⟩ := h
  injection h with h1 h2; subst h1; subst h2
  exact ⟨_, _, L24 big, .cons (.refl _) (.cons (.refl _) .nil), .cons (dec_ok hc) .nil, l24 big, (b24 big _ _).trans (sp24 hCk)⟩

theorem ok23 : EntOK Try.prog 23 e23 := by
  refine ent_ok (C := tbl C23) (tbl_nil) libOK follows hF23 (rt := [.any]) (bt := [.codes]) ?_
  intro qs us cc rr h hCk
  unfold e23 at h
  split at h
  case h_2 => cases h
  simp only [Option.bind_eq_some_iff, Option.map_eq_some_iff] at h
  obtain ⟨c', hc, h⟩ := h
  injection h with h1 h2; subst h1; subst h2
  exact ⟨_, _, L23 big, .cons (.refl _) .nil, .cons (dec_ok hc) .nil, l23 big, (b23 big _).trans (sp23 )⟩

theorem ok25 : EntOK Try.prog 25 e25 := by
  refine ent_ok (C := tbl C25) (tbl_cons ok22 (tbl_cons ok49 (tbl_cons ok50 (tbl_cons ok53 (tbl_nil))))) libOK follows hF25 (rt := [.el .pool, .any]) (bt := []) ?_
  intro qs us cc rr h hCk
  unfold e25 at h
  split at h
  case h_2 => cases h
  simp only [Option.bind_eq_some_iff, Option.map_eq_some_iff] at h
  obtain ⟨p', hp, x', hx, h⟩ := h
  injection h with h1 h2; subst h1; subst h2
  exact ⟨_, _, L25 big, .cons (.agg _ _ (dec_ok hp)) (.cons (.agg _ _ (dec_ok hx)) .nil), .nil, l25 big, (b25 big _ _).trans (sp25 )⟩

theorem ok26 : EntOK Try.prog 26 e26 := by
  refine ent_ok (C := tbl C26) (tbl_cons ok22 (tbl_cons ok50 (tbl_cons ok53 (tbl_nil)))) libOK follows hF26 (rt := [.el .pool, .any]) (bt := []) ?_
  intro qs us cc rr h hCk
  unfold e26 at h
  split at h
  case h_2 => cases h
  simp only [Option.bind_eq_some_iff, Option.map_eq_some_iff] at h
  obtain ⟨p', hp, h⟩ := h
  injection h with h1 h2; subst h1; subst h2
  exact ⟨_, _, L26 big, .cons (.agg _ _ (dec_ok hp)) (.cons (.refl _) (.cons (.refl _) .nil)), .nil, l26 big, (b26 big _ _ _).trans (sp26 )⟩

theorem ok27 : EntOK Try.prog 27 e27 := by
  refine ent_ok (C := tbl C27) (tbl_cons ok22 (tbl_cons ok56 (tbl_nil))) libOK follows hF27 (rt := [.sl .dirty]) (bt := []) ?_
  intro qs us cc rr h hCk
  unfold e27 at h
  split at h
  case h_2 => cases h
  simp only [Option.bind_eq_some_iff, Option.map_eq_some_iff] at h
  obtain ⟨p', hp, h⟩ := h
  injection h with h1 h2; subst h1; subst h2
  exact ⟨_, _, L27 big, .cons (.agg _ _ (dec_ok hp)) .nil, .nil, l27 big, (b27 big _).trans (sp27 hCk)⟩

theorem ok59 : EntOK Try.prog 59 e59 := by
  refine ent_ok (C := tbl C59) (tbl_nil) libOK follows hF59 (rt := [.any]) (bt := []) ?_
  intro qs us cc rr h hCk
  unfold e59 at h
  split at h
  case h_2 => cases h
  simp only [Option.bind_eq_some_iff, Option.map_eq_some_iff] at h
  obtain ⟨p', hp, h⟩ := h
  injection h with h1 h2; subst h1; subst h2
  exact ⟨_, _, L59 big, .cons (.agg _ _ (dec_ok hp)) .nil, .nil, l59 big, (b59 big _).trans (sp59 )⟩

theorem ok80 : EntOK Try.prog 80 e80 := by
  refine ent_ok (C := tbl C80) (tbl_nil) libOK follows hF80 (rt := [.any]) (bt := []) ?_
  intro qs us cc rr h hCk
  unfold e80 at h
  split at h
  case h_2 => cases h
  simp only [Option.bind_eq_some_iff, Option.map_eq_some_iff] at h
  obtain ⟨c', hc, h⟩ := h
  injection h with h1 h2; subst h1; subst h2
  exact ⟨_, _, L80 big, .cons (.agg _ _ (dec_ok hc)) .nil, .nil, l80 big, (b80 big _).trans (sp80 )⟩

theorem ok60 : EntOK Try.prog 60 e60 := by
  refine ent_ok (C := tbl C60) (tbl_cons ok80 (tbl_nil)) libOK follows hF60 (rt := [.any]) (bt := []) ?_
  intro qs us cc rr h hCk
  unfold e60 at h
  split at h
  case h_2 => cases h
  simp only [Option.bind_eq_some_iff, Option.map_eq_some_iff] at h
  obtain ⟨p', hp, h⟩ := h
  injection h with h1 h2; subst h1; subst h2
  exact ⟨_, _, L60 big, .cons (.agg _ _ (dec_ok hp)) .nil, .nil, l60 big, (b60 big _).trans (sp60 )⟩

theorem ok28 : EntOK Try.prog 28 e28 := by
  refine ent_ok (C := tbl C28) (tbl_cons ok59 (tbl_cons ok60 (tbl_nil))) libOK follows hF28 (rt := [.any]) (bt := []) ?_
  intro qs us cc rr h hCk
  unfold e28 at h
  split at h
  case h_2 => cases h
  simp only [Option.bind_eq_some_iff, Option.map_eq_some_iff] at h
  obtain ⟨p', hp, h⟩ := h
  injection h with h1 h2; subst h1; subst h2
  exact ⟨_, _, L28 big, .cons (.agg _ _ (dec_ok hp)) .nil, .nil, l28 big, (b28 big _).trans (sp28 )⟩

theorem ok6 : EntOK Try.prog 6 e6 := by
  refine ent_ok (C := tbl C6) (tbl_cons ok13 (tbl_cons ok9 (tbl_cons ok14 (tbl_cons ok15 (tbl_cons ok23 (tbl_cons ok24 (tbl_cons ok25 (tbl_cons ok27 (tbl_cons ok19 (tbl_cons ok26 (tbl_cons ok20 (tbl_cons ok28 (tbl_nil))))))))))))) libOK follows hF6 (rt := [.any]) (bt := []) ?_
  intro qs us cc rr h hCk
  unfold e6 at h
  split at h
  case h_2 => cases h
  simp only [Option.bind_eq_some_iff, Option.map_eq_some_iff] at h
  obtain ⟨codes', hcodes, h⟩ := h
  injection h with h1 h2; subst h1; subst h2
  exact ⟨_, _, L6 big, .cons (.val _ _ (castSl_ok hcodes)) .nil, .nil, l6 big, (b6 big _).trans (sp6 hCk)⟩

end Go.Ab
