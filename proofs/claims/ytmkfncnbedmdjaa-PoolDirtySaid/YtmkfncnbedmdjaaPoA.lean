/- pagemendlaw10.PoolClock -/
import Derived.Test.YtmkfncnbedmdjaaAbsC
import Derived.Test.YtmkfncnbedmdjaaAbsA
import Derived.Test.YtmkfncnbedmdjaaAbsL
import Derived.Test.YtmkfncnbedmdjaaProg
import Derived.KernelRfl
import Derived.WalkKit

namespace Go.Pm
def Slots.list (x : Slots) : List Cell := [x.c0, x.c1, x.c2, x.c3, x.c4, x.c5, x.c6, x.c7, x.c8, x.c9, x.c10, x.c11, x.c12, x.c13, x.c14, x.c15]
def Slots.sets (x : Slots) : List Bool := [x.c0.set, x.c1.set, x.c2.set, x.c3.set, x.c4.set, x.c5.set, x.c6.set, x.c7.set, x.c8.set, x.c9.set, x.c10.set, x.c11.set, x.c12.set, x.c13.set, x.c14.set, x.c15.set]
def Slots.datas (x : Slots) : List (List UInt8) := [x.c0.data, x.c1.data, x.c2.data, x.c3.data, x.c4.data, x.c5.data, x.c6.data, x.c7.data, x.c8.data, x.c9.data, x.c10.data, x.c11.data, x.c12.data, x.c13.data, x.c14.data, x.c15.data]
end Go.Pm
namespace Go.Ab
open Go

/-- Byte i of a number. -/
def byteAt (n : Int) (i : Nat) : UInt8 := UInt8.ofNat (IntKind.u64.wrap n / 2 ^ (8 * i) % 256).toNat
def bytesFrom (n : Int) : Nat → Nat → List UInt8
  | 0, _ => []
  | m + 1, i => byteAt n i :: bytesFrom n m (i + 1)
def goPutC (s : List UInt8) (_ _ : Int) : Bool := Nat.ble s.length 35184372088832
def goPut (s : List UInt8) (n size : Int) : List UInt8 := if size < 1 ∨ size > 8 then s else s ++ bytesFrom n size.toNat 0
def goRepC (s : List UInt8) (n : Int) : Bool := decide (0 ≤ n) && (decide (n ≤ 1073741824) && Nat.ble s.length 65536)
def goRep (s : List UInt8) (n : Int) : List UInt8 := (List.replicate n.toNat s).flatten
def goRem : Pm.Tab16 := ⟨0, 274646895, 549293790, 820201905, 1098587580, 1361435347, 1640403810, 1905808397, 2197175160, 2460548119, 2722870694, 2987750089, 3280807620, 3553878443, 3811616794, 4084100981⟩
def sumStep (t : Pm.Tab16) (r : Int) (b : UInt8) : Int :=
  let v2 := W32 (((BitVec.ofInt (IntKind.bits .u32) r) ^^^ (BitVec.ofInt (IntKind.bits .u32) (W32 (b.toNat : Int)))).toNat : Int)
  let v3 := W32 (((BitVec.ofInt (IntKind.bits .u32) v2) &&& (BitVec.ofInt (IntKind.bits .u32) 15)).toNat : Int)
  let v4 := W32 (((BitVec.ofInt (IntKind.bits .u32) (Int.fdiv v2 16)) ^^^ (BitVec.ofInt (IntKind.bits .u32) (List.getD [t.c0, t.c1, t.c2, t.c3, t.c4, t.c5, t.c6, t.c7, t.c8, t.c9, t.c10, t.c11, t.c12, t.c13, t.c14, t.c15] v3.toNat 0))).toNat : Int)
  let v5 := W32 (((BitVec.ofInt (IntKind.bits .u32) v4) &&& (BitVec.ofInt (IntKind.bits .u32) 15)).toNat : Int)
  W32 (((BitVec.ofInt (IntKind.bits .u32) (Int.fdiv v4 16)) ^^^ (BitVec.ofInt (IntKind.bits .u32) (List.getD [t.c0, t.c1, t.c2, t.c3, t.c4, t.c5, t.c6, t.c7, t.c8, t.c9, t.c10, t.c11, t.c12, t.c13, t.c14, t.c15] v5.toNat 0))).toNat : Int)
def goSumC (s : List UInt8) : Bool := Nat.ble s.length most
def goSum (s : List UInt8) : Int := W32 ((BitVec.ofInt (IntKind.bits .u32) (IntKind.max .u32)) ^^^ (BitVec.ofInt (IntKind.bits .u32) (s.foldl (sumStep goRem) 4294967295))).toNat
def goNamed (id : Int) : Bool := decide (0 ≤ id) && decide (id < 64)
def goPlaced (p : Pm.Page) : Bool := goNamed p.id && (decide (0 ≤ p.lsn) && decide (p.lsn ≤ 1099511627776))
def cellOk (lsn : Int) (c : Pm.Cell) : Bool := Nat.ble c.data.length 12 && ((c.set || decide (c.data = [])) && !(c.set && (lsn == 0)))
def goCells (p : Pm.Page) : Bool := p.cells.list.all (cellOk p.lsn)
def goPageV (p : Pm.Page) : Bool := goPlaced p && goCells p
def goCellC (b : Pm.Builder) (c : Pm.Cell) : Bool := Nat.ble b.s.length 1000000 && Nat.ble c.data.length 12
def goCell (b : Pm.Builder) (c : Pm.Cell) : Pm.Builder := ⟨goPut b.s (if c.set then (c.data.length : Int) else 255) 1 ++ c.data ++ goRep [0] (12 - (c.data.length : Int))⟩
def encS (p : Pm.Page) : List UInt8 :=
  let b := (p.cells.list.foldl goCell ⟨goPut (goPut [] p.lsn 8) p.id 4⟩).s
  let s := b ++ goRep [0] (244 - (b.length : Int))
  goPut (goPut s (W (goSum s)) 4) p.lsn 8
def goEnc (p : Pm.Page) : List UInt8 × Int := bif !goPlaced p then ([], 1) else bif !goCells p then ([], 22) else (encS p, 0)
def goIdIs (f : Pm.Frame) (id : Int) : Bool × Int := (f.page.id == id, id)
def findF : List Pm.Frame → Int → Int → Int
  | [], _, _ => -1
  | f :: l, id, k => if f.page.id = id then k else findF l id (k + 1)
def goIndexC (l : List Pm.Frame) (_ : Int) : Bool := Nat.ble l.length most
def goIndex (l : List Pm.Frame) (id : Int) : Int × Int := (findF l id 0, id)
def goFindC (p : Pm.Pool) (_ : Int) : Bool := Nat.ble p.frames.length most
def goFind (p : Pm.Pool) (id : Int) : Int := findF p.frames id 0
def goWithC (l : List Pm.Frame) (i : Int) (_ : Pm.Frame) : Bool := decide (0 ≤ i) && (decide (i < (l.length : Int)) && Nat.ble l.length most)
def goWith (l : List Pm.Frame) (i : Int) (x : Pm.Frame) : List Pm.Frame := l.set i.toNat x
def goPoolNew (n : Int) : Pm.Pool × Int := if 1 ≤ n ∧ n ≤ 64 then (⟨n, [], 0⟩, 0) else (default, 1)
def dirtyOk (f : Pm.Frame) : Bool := if f.dirty then decide (1 ≤ f.rec_ ∧ f.rec_ ≤ f.page.lsn) else decide (f.rec_ = 0)
def framesOk (all : List Pm.Frame) : Int → List Pm.Frame → Bool
  | _, [] => true
  | k, f :: r => goPageV f.page && (decide (findF all f.page.id 0 = k) && (dirtyOk f && framesOk all (k + 1) r))
def goPoolV (p : Pm.Pool) : Bool :=
  decide (1 ≤ p.size ∧ p.size ≤ 64 ∧ (p.frames.length : Int) ≤ p.size ∧ 0 ≤ p.hand ∧ (p.hand < (p.frames.length : Int) ∨ p.hand < 1)) && framesOk p.frames 0 p.frames
def goPoolFind (p : Pm.Pool) (id : Int) : Int := bif goPoolV p then goFind p id else -1
def goUse (p : Pm.Pool) (id : Int) : Pm.Pool :=
  let i := goPoolFind p id
  if 0 ≤ i then { p with frames := p.frames.set i.toNat { p.frames.getD i.toNat default with used := true } } else p
def goPoolPut (p : Pm.Pool) (x : Pm.Page) : Pm.Pool × Int :=
  bif !goPoolV p then (default, 15) else if (goEnc x).2 ≠ 0 then (default, (goEnc x).2) else if 0 ≤ goFind p x.id then (default, 25) else if (p.frames.length : Int) = p.size then (default, 21) else
  ({ p with frames := p.frames ++ [⟨x, false, 0, true⟩] }, 0)
/-- The hand goes on over frames that were used. -/
def sweep : Nat → Pm.Pool → Pm.Pool
  | 0, p => p
  | n + 1, p => bif (p.frames.getD p.hand.toNat default).used then
      sweep n ⟨p.size, p.frames.set p.hand.toNat { p.frames.getD p.hand.toNat default with used := false }, (p.hand + 1).tmod p.frames.length⟩ else p
def goVictim (p : Pm.Pool) : Pm.Pool × Int × Int :=
  bif !goPoolV p then (default, 0, 15) else if p.frames.length = 0 then (default, 0, 18) else
  let q := sweep p.frames.length p
  (q, (q.frames.getD q.hand.toNat default).page.id, 0)
def goSameC (a _ : Pm.Pool) : Bool := Nat.ble a.frames.length most
def goSame (a b : Pm.Pool) : Bool := decide (a.size = b.size ∧ a.hand = b.hand ∧ a.frames = b.frames)
def goDrop (p : Pm.Pool) (id : Int) : Pm.Pool × Int :=
  bif !goPoolV p then (default, 15) else
  let i := goFind p id
  if i < 0 then (default, 18) else bif (p.frames.getD i.toNat default).dirty then (default, 23) else
  let l := p.frames.eraseIdx i.toNat
  let h := if i < p.hand then p.hand - 1 else p.hand
  (⟨p.size, l, if h ≥ (l.length : Int) then 0 else h⟩, 0)
def goGet (p : Pm.Pool) (id : Int) : Pm.Page × Bool :=
  let i := goPoolFind p id
  if 0 ≤ i then ((p.frames.getD i.toNat default).page, true) else (default, false)
def goLawPL (n d : Int) : Bool := decide (0 ≤ n) && (decide (n ≤ 255) && (decide (0 ≤ d) && decide (d ≤ 255)))
def goTruePL (_ _ : Int) : Bool := true
def goAwake10 : Bool := true
def goLawPC (n : Int) (l : List Int) : Bool := decide (0 ≤ n) && (decide (n ≤ 255) && l.all fun x => decide (0 ≤ x ∧ x ≤ 255))
def goTruePC (_ : Int) (_ : List Int) : Bool := true

end Go.Ab

namespace Go.Ab
open Go

def e71 : List PV → List (List AV) → Option (Ck × Rs)
  | [.val (.str s), .val (.int .i64 n), .val (.int .i64 size)], [] => some (.chk (goPutC s n size), (.val (.str (goPut s n size)), []))
  | _, _ => none
def e73 : List PV → List (List AV) → Option (Ck × Rs)
  | [.val (.str s), .val (.int .i64 n)], [] => some (.chk (goRepC s n), (.val (.str (goRep s n)), []))
  | _, _ => none

end Go.Ab

namespace Go.Ab
open Go Go.RowKit Go.Shelf Go.Proofs

theorem follows : Try.prog.follows .mixedOrders = true := by kernel_rfl
/-- slices.Clone's numbers. -/
def renC (f ts te tb : Nat) : Ren := ⟨fun k => bif Nat.beq k 41 then f else k, fun k => bif Nat.beq k 22 then ts else bif Nat.beq k 23 then te else bif Nat.beq k 4 then tb else k, fun k => k⟩
theorem lay45 : SlLaysE0.n41 Try.prog (renC 45 26 3 4) := ⟨by kernel_rfl, ⟨"slices.Clone[[]int,int]", by kernel_rfl, by kernel_rfl⟩, by kernel_rfl, fun w => by kernel_rfl, fun w => by kernel_rfl, fun w => by kernel_rfl, by kernel_rfl, fun w => by kernel_rfl, fun w => by kernel_rfl, fun w => by kernel_rfl⟩
theorem lay52 : SlLaysE0.n41 Try.prog (renC 52 37 86 4) := ⟨by kernel_rfl, ⟨"slices.Clone[[]pagemend/api.Frame,pagemend/api.Frame]", by kernel_rfl, by kernel_rfl⟩, by kernel_rfl, fun w => by kernel_rfl, fun w => by kernel_rfl, fun w => by kernel_rfl, by kernel_rfl, fun w => by kernel_rfl, fun w => by kernel_rfl, fun w => by kernel_rfl⟩
theorem clip51 (x : Option Addr) (n c : Nat) (hn : n ≤ c) (w : World) : Calls Try.prog 51 #[.slice x n c] w fun e w' => e = .returned (.slice x n n) ∧ w' = w := by
  go_enter Try.func51, Try.ntmps51
  go_wp2
  go_ret
  exact ⟨rfl, rfl⟩
/-- slices.Delete's numbers. -/
def renD (f tn ti ts te tb : Nat) : Ren := ⟨fun k => bif Nat.beq k 45 then f else k, fun k => bif Nat.beq k 22 then ts else bif Nat.beq k 23 then te else bif Nat.beq k 4 then tb else bif Nat.beq k 0 then tn else bif Nat.beq k 3 then ti else k, fun k => k⟩
theorem lay54 : SlLaysE0.n45 Try.prog (renD 54 0 3 37 86 4) := ⟨by kernel_rfl, ⟨"slices.Delete[[]pagemend/api.Frame,pagemend/api.Frame]", by kernel_rfl, by kernel_rfl⟩, by kernel_rfl, fun w => by kernel_rfl, fun w => by kernel_rfl, fun w => by kernel_rfl, by kernel_rfl, fun w => by kernel_rfl, fun w => by kernel_rfl, fun w => by kernel_rfl, by kernel_rfl, fun w => by kernel_rfl, fun w => by kernel_rfl, fun w => by kernel_rfl, by kernel_rfl, fun w => by kernel_rfl, fun w => by kernel_rfl, fun w => by kernel_rfl⟩
noncomputable def zs54 : Array Value := match (Try.prog.info? 86).bind (·.zero) with
  | some (.agg c) => c
  | _ => #[]
def libs : List (Nat × Nat) := [(45, 0), (51, 1), (52, 0), (54, 2)]
def kindL : LibOp → Nat
  | .clone => 0
  | .clip => 1
  | .delete => 2
noncomputable def libIs (f : Nat) : Bool := match libOf Try.prog f with
  | none => true
  | some l => libs.any fun x => Nat.beq x.1 f && Nat.beq x.2 (kindL l)
theorem libs_all : (List.range 131).all libIs = true := by kernel_rfl
theorem libs_size : Try.prog.funcs.size = 131 := by kernel_rfl
theorem libs_of {f : Nat} {l : LibOp} (h : libOf Try.prog f = some l) : (f, kindL l) ∈ libs := by
  have hf : f < 131 := by
    rcases Nat.lt_or_ge f 131 with h1 | h1
    · exact h1
    · have h2 := h.symm.trans (libOf_none (Nat.le_trans (Nat.le_of_eq libs_size) h1))
      cases h2
  have h1 := List.all_eq_true.1 libs_all f (List.mem_range.2 hf)
  unfold libIs at h1
  rw [h] at h1
  simp only [List.any_eq_true, Bool.and_eq_true] at h1
  obtain ⟨⟨a, b⟩, h2, h3, h4⟩ := h1
  have h3 := Nat.eq_of_beq_eq_true h3
  have h4 := Nat.eq_of_beq_eq_true h4
  simp only at h3 h4
  rw [← h3, ← h4]; exact h2
theorem delOK : DelOK Try.prog := by
  intro f hl
  have h := libs_of hl
  simp only [libs, List.mem_cons, Prod.mk.injEq, List.not_mem_nil, or_false, kindL] at h
  intro e sz bytes hz hb
  rcases h with ⟨rfl, h⟩ | ⟨rfl, h⟩ | ⟨rfl, h⟩ | ⟨rfl, h⟩
  · cases h
  · cases h
  · cases h
  · exact del_ok lay54 rfl (by kernel_rfl) zs54 (by kernel_rfl) (fun w => by kernel_rfl) hz hb
theorem libOK : LibOK Try.prog := by
  refine ⟨delOK, ?_⟩
  intro f l hl hnd
  have h := libs_of hl
  simp only [libs, List.mem_cons, Prod.mk.injEq, List.not_mem_nil, or_false] at h
  intro e sz bytes hz hb
  rcases h with ⟨rfl, h⟩ | ⟨rfl, h⟩ | ⟨rfl, h⟩ | ⟨rfl, h⟩
  · cases l with
    | clip => cases h
    | delete => cases h
    | clone => exact clone_ok lay45 rfl (by kernel_rfl) hz hb
  · cases l with
    | clone => cases h
    | delete => cases h
    | clip =>
      refine ⟨⟨Try.f51, by kernel_rfl, by kernel_rfl, by kernel_rfl⟩, ?_⟩
      intro w v T Q full rows x n c ad U hs _ _
      rw [hs.hv]
      refine (clip51 x n c hs.hc w).mono ?_
      rintro e w' ⟨rfl, rfl⟩
      exact ⟨_, rfl, Old.refl _, rfl⟩
  · cases l with
    | clip => cases h
    | delete => cases h
    | clone => exact clone_ok lay52 rfl (by kernel_rfl) hz hb
  · cases l with
    | clip => cases h
    | clone => cases h
    | delete => exact absurd rfl hnd

end Go.Ab

namespace Go.Ab
open Go Go.Proofs

def codes : List (TypeId × EC) := [(3, .int), (4, .bool), (5, .u8), (9, .str), (26, .ints), (27, .files), (29, .archive), (30, .int), (39, .pool), (44, .cell), (45, .slots), (47, .page), (66, .dirty), (78, .codes), (86, .frame), (101, .file), (108, .builder), (111, .u32), (126, .u64), (131, .tab16)]

/- codec.remainders -/
def f89_L7_s {R : Type} (N : Nat) (k0 : Int → Int → Int → Pm.Tab16 → Pm.Tab16 → Option R) (rec : Int → Int → Int → Int → Pm.Tab16 → Pm.Tab16 → Option R) (i : Int) (r : Int) (t4 : Int) (t9 : Int) (t0 : Pm.Tab16) (out : Pm.Tab16) : Option R :=
  bif decide (t9 < 4) then
    let v1 := W32 (((BitVec.ofInt (IntKind.bits .u32) r) &&& (BitVec.ofInt (IntKind.bits .u32) 1)).toNat : Int)
    bif (v1 == 1) then
      let v2 := W32 (((BitVec.ofInt (IntKind.bits .u32) (Int.fdiv r 2)) ^^^ (BitVec.ofInt (IntKind.bits .u32) 2197175160)).toNat : Int)
      rec i v2 t4 (W (t9 + 1)) t0 out
    else
      rec i (Int.fdiv r 2) t4 (W (t9 + 1)) t0 out
  else
    k0 i r t4 t0 out
def f89_L7 {R : Type} (N : Nat) (k0 : Int → Int → Int → Pm.Tab16 → Pm.Tab16 → Option R) : Nat → Int → Int → Int → Int → Pm.Tab16 → Pm.Tab16 → Option R
  | 0, _, _, _, _, _, _ => none
  | n + 1, i, r, t4, t9, t0, out => f89_L7_s N k0 (f89_L7 N k0 n) i r t4 t9 t0 out
def f89_L3_s {R : Type} (N : Nat) (k0 : Pm.Tab16 → Pm.Tab16 → Option R) (rec : Int → Pm.Tab16 → Pm.Tab16 → Option R) (t4 : Int) (t0 : Pm.Tab16) (out : Pm.Tab16) : Option R :=
  bif decide (t4 < 16) then
    f89_L7 N
      (fun i r t4 t0 out =>
        bif (decide (0 ≤ i) && decide (i < 16)) then
        rec (W (t4 + 1)) t0 (Pm.Tab16.mk (bif Nat.beq i.toNat 0 then r else out.c0) (bif Nat.beq i.toNat 1 then r else out.c1) (bif Nat.beq i.toNat 2 then r else out.c2) (bif Nat.beq i.toNat 3 then r else out.c3) (bif Nat.beq i.toNat 4 then r else out.c4) (bif Nat.beq i.toNat 5 then r else out.c5) (bif Nat.beq i.toNat 6 then r else out.c6) (bif Nat.beq i.toNat 7 then r else out.c7) (bif Nat.beq i.toNat 8 then r else out.c8) (bif Nat.beq i.toNat 9 then r else out.c9) (bif Nat.beq i.toNat 10 then r else out.c10) (bif Nat.beq i.toNat 11 then r else out.c11) (bif Nat.beq i.toNat 12 then r else out.c12) (bif Nat.beq i.toNat 13 then r else out.c13) (bif Nat.beq i.toNat 14 then r else out.c14) (bif Nat.beq i.toNat 15 then r else out.c15))
        else none)
      N t4 (W32 t4) t4 0 t0 out
  else
    k0 t0 out
def f89_L3 {R : Type} (N : Nat) (k0 : Pm.Tab16 → Pm.Tab16 → Option R) : Nat → Int → Pm.Tab16 → Pm.Tab16 → Option R
  | 0, _, _, _ => none
  | n + 1, t4, t0, out => f89_L3_s N k0 (f89_L3 N k0 n) t4 t0 out
def f89 {R : Type} (N : Nat) (K : Pm.Tab16 → Option R) : Option R :=
  f89_L3 N
    (fun t01 out1 =>
      K out1)
    N 0 default default
def mf89_L7 : Mark := ⟨[2, 3, 4, 9], [0, 1], [0, 1], [], []⟩
def xf89_L7 : List (Nat × Mark) := [(4, ⟨[2, 3, 4], [0, 1], [0, 1], [], []⟩)]
def mf89_L3 : Mark := ⟨[4], [0, 1], [0, 1], [], []⟩
def xf89_L3 : List (Nat × Mark) := [(2, ⟨[], [0, 1], [0, 1], [], []⟩)]
def A89 : Ann := { w := [], iw := [], m := [], l := [(7, (mf89_L7, xf89_L7)), (3, (mf89_L3, xf89_L3))], j := [], c := codes }
noncomputable def F89 : SF := (slimF Try.prog A89 89).getD ⟨0, .nop, []⟩
theorem hF89 : slimF Try.prog A89 89 = some F89 := by kernel_rfl
def C89 : Ents := []
noncomputable def Bf89_L7 : SC := subOf 14 (partsF F89)
noncomputable def Bf89_L3 : SC := subOf 6 (partsF F89)
def ef89_L7 (N : Nat) (s : Snap) (K : Out → St → Option Rs) : Option Rs :=
  match s with
  | ⟨[.int .i64 i, .int .u32 r, .int .i64 t4, .int .i64 t9], [.ptr 0 0, .ptr 1 0], [some t0, some out]⟩ => (decX .tab16 t0).bind fun t0 => (decX .tab16 out).bind fun out => f89_L7 N (fun i r t4 t0 out => K (.exit 2) (stOf ⟨[2, 3, 4], [0, 1], [0, 1], [], []⟩ ⟨[.int .i64 i, .int .u32 r, .int .i64 t4], [.ptr 0 0, .ptr 1 0], [some (enc .tab16 t0), some (enc .tab16 out)]⟩)) N i r t4 t9 t0 out
  | _ => none
def ef89_L3 (N : Nat) (s : Snap) (K : Out → St → Option Rs) : Option Rs :=
  match s with
  | ⟨[.int .i64 t4], [.ptr 0 0, .ptr 1 0], [some t0, some out]⟩ => (decX .tab16 t0).bind fun t0 => (decX .tab16 out).bind fun out => f89_L3 N (fun t0 out => K (.exit 0) (stOf ⟨[], [0, 1], [0, 1], [], []⟩ ⟨[], [.ptr 0 0, .ptr 1 0], [some (enc .tab16 t0), some (enc .tab16 out)]⟩)) N t4 t0 out
  | _ => none
def L89 (N : Nat) : LoopT Rs := fun id s K => bif Nat.beq id 14 then ef89_L7 N s K else bif Nat.beq id 6 then ef89_L3 N s K else none
theorem tf89_L7_s (N n : Nat) (K : Out → St → Option Rs) (i : Int) (r : Int) (t4 : Int) (t9 : Int) (t0 : Pm.Tab16) (out : Pm.Tab16) : loopN (fun σ K => execL (tbl C89) (L89 N) Bf89_L7 σ K) mf89_L7 xf89_L7 K (n + 1) (stOf mf89_L7 ⟨[.int .i64 i, .int .u32 r, .int .i64 t4, .int .i64 t9], [.ptr 0 0, .ptr 1 0], [some (enc .tab16 t0), some (enc .tab16 out)]⟩) = f89_L7_s N (fun i r t4 t0 out => K (.exit 2) (stOf ⟨[2, 3, 4], [0, 1], [0, 1], [], []⟩ ⟨[.int .i64 i, .int .u32 r, .int .i64 t4], [.ptr 0 0, .ptr 1 0], [some (enc .tab16 t0), some (enc .tab16 out)]⟩)) (fun i r t4 t9 t0 out => loopN (fun σ K => execL (tbl C89) (L89 N) Bf89_L7 σ K) mf89_L7 xf89_L7 K n (stOf mf89_L7 ⟨[.int .i64 i, .int .u32 r, .int .i64 t4, .int .i64 t9], [.ptr 0 0, .ptr 1 0], [some (enc .tab16 t0), some (enc .tab16 out)]⟩)) i r t4 t9 t0 out := by kernel_rfl
theorem tf89_L7 (N : Nat) (K : Out → St → Option Rs) : ∀ (n : Nat) (i : Int) (r : Int) (t4 : Int) (t9 : Int) (t0 : Pm.Tab16) (out : Pm.Tab16), loopN (fun σ K => execL (tbl C89) (L89 N) Bf89_L7 σ K) mf89_L7 xf89_L7 K n (stOf mf89_L7 ⟨[.int .i64 i, .int .u32 r, .int .i64 t4, .int .i64 t9], [.ptr 0 0, .ptr 1 0], [some (enc .tab16 t0), some (enc .tab16 out)]⟩) = f89_L7 N (fun i r t4 t0 out => K (.exit 2) (stOf ⟨[2, 3, 4], [0, 1], [0, 1], [], []⟩ ⟨[.int .i64 i, .int .u32 r, .int .i64 t4], [.ptr 0 0, .ptr 1 0], [some (enc .tab16 t0), some (enc .tab16 out)]⟩)) n i r t4 t9 t0 out := by
  intro n
  induction n with
  | zero => intros; rfl
  | succ n ih =>
    intro i r t4 t9 t0 out
    rw [tf89_L7_s]
    simp only [f89_L7, ih]
theorem pf89_L7 (N : Nat) : PartOK (tbl C89) (L89 N) (14, true, mf89_L7, xf89_L7, Bf89_L7) := by
  intro s K r h
  have h : ef89_L7 N s K = some r := h
  unfold ef89_L7 at h
  split at h
  case h_2 => cases h
  simp only [Option.bind_eq_some_iff] at h
  obtain ⟨t0', h_t0, out', h_out, h⟩ := h
  have h_t0 := decX_ok h_t0
  subst h_t0
  have h_out := decX_ok h_out
  subst h_out
  exact ⟨N, (tf89_L7 N K N _ _ _ _ _ _).trans h⟩
theorem tf89_L3_s (N n : Nat) (K : Out → St → Option Rs) (t4 : Int) (t0 : Pm.Tab16) (out : Pm.Tab16) : loopN (fun σ K => execL (tbl C89) (L89 N) Bf89_L3 σ K) mf89_L3 xf89_L3 K (n + 1) (stOf mf89_L3 ⟨[.int .i64 t4], [.ptr 0 0, .ptr 1 0], [some (enc .tab16 t0), some (enc .tab16 out)]⟩) = f89_L3_s N (fun t0 out => K (.exit 0) (stOf ⟨[], [0, 1], [0, 1], [], []⟩ ⟨[], [.ptr 0 0, .ptr 1 0], [some (enc .tab16 t0), some (enc .tab16 out)]⟩)) (fun t4 t0 out => loopN (fun σ K => execL (tbl C89) (L89 N) Bf89_L3 σ K) mf89_L3 xf89_L3 K n (stOf mf89_L3 ⟨[.int .i64 t4], [.ptr 0 0, .ptr 1 0], [some (enc .tab16 t0), some (enc .tab16 out)]⟩)) t4 t0 out := by kernel_rfl
theorem tf89_L3 (N : Nat) (K : Out → St → Option Rs) : ∀ (n : Nat) (t4 : Int) (t0 : Pm.Tab16) (out : Pm.Tab16), loopN (fun σ K => execL (tbl C89) (L89 N) Bf89_L3 σ K) mf89_L3 xf89_L3 K n (stOf mf89_L3 ⟨[.int .i64 t4], [.ptr 0 0, .ptr 1 0], [some (enc .tab16 t0), some (enc .tab16 out)]⟩) = f89_L3 N (fun t0 out => K (.exit 0) (stOf ⟨[], [0, 1], [0, 1], [], []⟩ ⟨[], [.ptr 0 0, .ptr 1 0], [some (enc .tab16 t0), some (enc .tab16 out)]⟩)) n t4 t0 out := by
  intro n
  induction n with
  | zero => intros; rfl
  | succ n ih =>
    intro t4 t0 out
    rw [tf89_L3_s]
    simp only [f89_L3, ih]
theorem pf89_L3 (N : Nat) : PartOK (tbl C89) (L89 N) (6, true, mf89_L3, xf89_L3, Bf89_L3) := by
  intro s K r h
  have h : ef89_L3 N s K = some r := h
  unfold ef89_L3 at h
  split at h
  case h_2 => cases h
  simp only [Option.bind_eq_some_iff] at h
  obtain ⟨t0', h_t0, out', h_out, h⟩ := h
  have h_t0 := decX_ok h_t0
  subst h_t0
  have h_out := decX_ok h_out
  subst h_out
  exact ⟨N, (tf89_L3 N K N _ _ _).trans h⟩
theorem q89 : partsF F89 = [(6, true, mf89_L3, xf89_L3, Bf89_L3), (14, true, mf89_L7, xf89_L7, Bf89_L7)] := by kernel_rfl
theorem l89 (N : Nat) : LOKs (tbl C89) (L89 N) F89 := loks q89 (all_cons (pf89_L3 N) (all_cons (pf89_L7 N) all_nil))
theorem b89 (N : Nat) : bodyN (tbl C89) (L89 N) F89 [.el .tab16] [] [] [] = f89 N  (fun o0 => some (.val (.agg (enc .tab16 o0)), [])) := by kernel_rfl
def e89 : List PV → List (List AV) → Option (Ck × Rs)
  | [], [] => some (.ok, (.val (.agg (enc .tab16 (goRem))), []))
  | _, _ => none

/- codec.Sum -/
def f74_L4_s {R : Type} (N : Nat) (k0 : Int → Option R) (rec : List UInt8 → Int → Int → Int → Pm.Tab16 → Option R) (s1 : List UInt8) (r : Int) (t8 : Int) (t9 : Int) (t : Pm.Tab16) : Option R :=
  bif decide (t9 < t8) then
    bif (decide (0 ≤ t9) && Nat.blt t9.toNat s1.length) then
    let v2 := W32 (((BitVec.ofInt (IntKind.bits .u32) r) ^^^ (BitVec.ofInt (IntKind.bits .u32) (W32 ((List.getD s1 t9.toNat 0).toNat : Int)))).toNat : Int)
    let v3 := W32 (((BitVec.ofInt (IntKind.bits .u32) v2) &&& (BitVec.ofInt (IntKind.bits .u32) 15)).toNat : Int)
    bif (decide (0 ≤ v3) && decide (v3 < 16)) then
    let v4 := W32 (((BitVec.ofInt (IntKind.bits .u32) (Int.fdiv v2 16)) ^^^ (BitVec.ofInt (IntKind.bits .u32) (List.getD [t.c0, t.c1, t.c2, t.c3, t.c4, t.c5, t.c6, t.c7, t.c8, t.c9, t.c10, t.c11, t.c12, t.c13, t.c14, t.c15] v3.toNat 0))).toNat : Int)
    let v5 := W32 (((BitVec.ofInt (IntKind.bits .u32) v4) &&& (BitVec.ofInt (IntKind.bits .u32) 15)).toNat : Int)
    bif (decide (0 ≤ v5) && decide (v5 < 16)) then
    let v6 := W32 (((BitVec.ofInt (IntKind.bits .u32) (Int.fdiv v4 16)) ^^^ (BitVec.ofInt (IntKind.bits .u32) (List.getD [t.c0, t.c1, t.c2, t.c3, t.c4, t.c5, t.c6, t.c7, t.c8, t.c9, t.c10, t.c11, t.c12, t.c13, t.c14, t.c15] v5.toNat 0))).toNat : Int)
    rec s1 v6 t8 (W (t9 + 1)) t
    else none
    else none
    else none
  else
    k0 r
def f74_L4 {R : Type} (N : Nat) (k0 : Int → Option R) : Nat → List UInt8 → Int → Int → Int → Pm.Tab16 → Option R
  | 0, _, _, _, _, _ => none
  | n + 1, s1, r, t8, t9, t => f74_L4_s N k0 (f74_L4 N k0 n) s1 r t8 t9 t
def f74 {R : Type} (N : Nat) (s : List UInt8) (K : Int → Option R) : Option R :=
  let r1 := goRem
  f74_L4 N
    (fun r =>
      let v7 := W32 ((BitVec.ofInt (IntKind.bits .u32) (IntKind.max .u32)) ^^^ (BitVec.ofInt (IntKind.bits .u32) r)).toNat
      K v7)
    N s 4294967295 (s.length : Int) 0 r1
def mf74_L4 : Mark := ⟨[0, 4, 8, 9], [3], [3], [], []⟩
def xf74_L4 : List (Nat × Mark) := [(2, ⟨[4], [], [], [], []⟩)]
def A74 : Ann := { w := [], iw := [], m := [], l := [(4, (mf74_L4, xf74_L4))], j := [], c := codes }
noncomputable def F74 : SF := (slimF Try.prog A74 74).getD ⟨0, .nop, []⟩
theorem hF74 : slimF Try.prog A74 74 = some F74 := by kernel_rfl
def C74 : Ents := [(89, e89)]
noncomputable def Bf74_L4 : SC := subOf 8 (partsF F74)
def ef74_L4 (N : Nat) (s : Snap) (K : Out → St → Option Rs) : Option Rs :=
  match s with
  | ⟨[.str s1, .int .u32 r, .int .i64 t8, .int .i64 t9], [.ptr 3 0], [some t]⟩ => (decX .tab16 t).bind fun t => f74_L4 N (fun r => K (.exit 0) (stOf ⟨[4], [], [], [], []⟩ ⟨[.int .u32 r], [], []⟩)) N s1 r t8 t9 t
  | _ => none
def L74 (N : Nat) : LoopT Rs := fun id s K => bif Nat.beq id 8 then ef74_L4 N s K else none
theorem tf74_L4_s (N n : Nat) (K : Out → St → Option Rs) (s1 : List UInt8) (r : Int) (t8 : Int) (t9 : Int) (t : Pm.Tab16) : loopN (fun σ K => execL (tbl C74) (L74 N) Bf74_L4 σ K) mf74_L4 xf74_L4 K (n + 1) (stOf mf74_L4 ⟨[.str s1, .int .u32 r, .int .i64 t8, .int .i64 t9], [.ptr 3 0], [some (enc .tab16 t)]⟩) = f74_L4_s N (fun r => K (.exit 0) (stOf ⟨[4], [], [], [], []⟩ ⟨[.int .u32 r], [], []⟩)) (fun s1 r t8 t9 t => loopN (fun σ K => execL (tbl C74) (L74 N) Bf74_L4 σ K) mf74_L4 xf74_L4 K n (stOf mf74_L4 ⟨[.str s1, .int .u32 r, .int .i64 t8, .int .i64 t9], [.ptr 3 0], [some (enc .tab16 t)]⟩)) s1 r t8 t9 t := by kernel_rfl
theorem tf74_L4 (N : Nat) (K : Out → St → Option Rs) : ∀ (n : Nat) (s1 : List UInt8) (r : Int) (t8 : Int) (t9 : Int) (t : Pm.Tab16), loopN (fun σ K => execL (tbl C74) (L74 N) Bf74_L4 σ K) mf74_L4 xf74_L4 K n (stOf mf74_L4 ⟨[.str s1, .int .u32 r, .int .i64 t8, .int .i64 t9], [.ptr 3 0], [some (enc .tab16 t)]⟩) = f74_L4 N (fun r => K (.exit 0) (stOf ⟨[4], [], [], [], []⟩ ⟨[.int .u32 r], [], []⟩)) n s1 r t8 t9 t := by
  intro n
  induction n with
  | zero => intros; rfl
  | succ n ih =>
    intro s1 r t8 t9 t
    rw [tf74_L4_s]
    simp only [f74_L4, ih]
theorem pf74_L4 (N : Nat) : PartOK (tbl C74) (L74 N) (8, true, mf74_L4, xf74_L4, Bf74_L4) := by
  intro s K r h
  have h : ef74_L4 N s K = some r := h
  unfold ef74_L4 at h
  split at h
  case h_2 => cases h
  simp only [Option.bind_eq_some_iff] at h
  obtain ⟨t', h_t, h⟩ := h
  have h_t := decX_ok h_t
  subst h_t
  exact ⟨N, (tf74_L4 N K N _ _ _ _ _).trans h⟩
theorem q74 : partsF F74 = [(8, true, mf74_L4, xf74_L4, Bf74_L4)] := by kernel_rfl
theorem l74 (N : Nat) : LOKs (tbl C74) (L74 N) F74 := loks q74 (all_cons (pf74_L4 N) all_nil)
theorem b74 (N : Nat) (s : List UInt8) : bodyN (tbl C74) (L74 N) F74 [.any] [] [.val (.str s)] [] = f74 N s (fun o0 => some (.val (.int .u32 o0), [])) := by kernel_rfl
def e74 : List PV → List (List AV) → Option (Ck × Rs)
  | [.val (.str s)], [] => some (.chk (goSumC s), (.val (.int .u32 (goSum s)), []))
  | _, _ => none

/- page.named -/
def f81 {R : Type} (N : Nat) (id0 : Int) (K : Bool → Option R) : Option R :=
  bif decide (id0 ≥ 0) then
    K (decide (id0 < 64))
  else
    K false
def A81 : Ann := { w := [], iw := [], m := [], l := [], j := [], c := codes }
noncomputable def F81 : SF := (slimF Try.prog A81 81).getD ⟨0, .nop, []⟩
theorem hF81 : slimF Try.prog A81 81 = some F81 := by kernel_rfl
def C81 : Ents := []
def L81 (_ : Nat) : LoopT Rs := fun _ _ _ => none
theorem q81 : partsF F81 = [] := by kernel_rfl
theorem l81 (N : Nat) : LOKs (tbl C81) (L81 N) F81 := loks q81 (all_nil)
theorem b81 (N : Nat) (id0 : Int) : bodyN (tbl C81) (L81 N) F81 [.any] [] [.val (.int .i64 id0)] [] = f81 N id0 (fun o0 => some (.val (.bool o0), [])) := by kernel_rfl
def e81 : List PV → List (List AV) → Option (Ck × Rs)
  | [.val (.int .i64 id0)], [] => some (.ok, (.val (.bool (goNamed id0)), []))
  | _, _ => none

/- page.placed -/
def f69 {R : Type} (N : Nat) (p : Pm.Page) (K : Bool → Option R) : Option R :=
  let r1 := goNamed p.id
  bif r1 then
    bif decide (p.lsn ≥ 0) then
      K (decide (p.lsn ≤ 1099511627776))
    else
      K false
  else
    K false
def A69 : Ann := { w := [], iw := [], m := [], l := [], j := [], c := codes }
noncomputable def F69 : SF := (slimF Try.prog A69 69).getD ⟨0, .nop, []⟩
theorem hF69 : slimF Try.prog A69 69 = some F69 := by kernel_rfl
def C69 : Ents := [(81, e81)]
def L69 (_ : Nat) : LoopT Rs := fun _ _ _ => none
theorem q69 : partsF F69 = [] := by kernel_rfl
theorem l69 (N : Nat) : LOKs (tbl C69) (L69 N) F69 := loks q69 (all_nil)
theorem b69 (N : Nat) (p : Pm.Page) : bodyN (tbl C69) (L69 N) F69 [.any] [] [.val (.agg (enc .page p))] [] = f69 N p (fun o0 => some (.val (.bool o0), [])) := by kernel_rfl
def e69 : List PV → List (List AV) → Option (Ck × Rs)
  | [.val (.agg p)], [] => (dec .page p).map fun p => (.ok, (.val (.bool (goPlaced p)), []))
  | _, _ => none

/- page.cells -/
def f70_L2_s {R : Type} (N : Nat) (k0 : Bool → Option R) (k1 : Option R) (rec : Pm.Slots → Int → Pm.Page → Option R) (t6 : Pm.Slots) (t7 : Int) (p1 : Pm.Page) : Option R :=
  bif decide (t7 < 16) then
    bif (decide (0 ≤ t7) && decide (t7 < 16)) then
    bif !(decide (((List.getD t6.datas t7.toNat []).length : Int) > 12)) then
      bif !(List.getD t6.sets t7.toNat false) then
        bif !(!(decide (List.getD t6.datas t7.toNat [] = []))) then
          bif List.getD t6.sets t7.toNat false then
            bif (p1.lsn == 0) then
              k0 false
            else
              rec t6 (W (t7 + 1)) p1
          else
            rec t6 (W (t7 + 1)) p1
        else
          k0 false
      else
        bif List.getD t6.sets t7.toNat false then
          bif (p1.lsn == 0) then
            k0 false
          else
            rec t6 (W (t7 + 1)) p1
        else
          rec t6 (W (t7 + 1)) p1
    else
      k0 false
    else none
  else
    k1
def f70_L2 {R : Type} (N : Nat) (k0 : Bool → Option R) (k1 : Option R) : Nat → Pm.Slots → Int → Pm.Page → Option R
  | 0, _, _, _ => none
  | n + 1, t6, t7, p1 => f70_L2_s N k0 k1 (f70_L2 N k0 k1 n) t6 t7 p1
def f70 {R : Type} (N : Nat) (p : Pm.Page) (K : Bool → Option R) : Option R :=
  f70_L2 N
    (fun t2 =>
      K t2)
    (
      K true)
    N p.cells 0 p
def mf70_L2 : Mark := ⟨[6, 7], [1], [1], [], []⟩
def xf70_L2 : List (Nat × Mark) := [(1, ⟨[2], [], [], [], []⟩), (2, ⟨[], [], [], [], []⟩)]
def A70 : Ann := { w := [], iw := [], m := [], l := [(2, (mf70_L2, xf70_L2))], j := [], c := codes }
noncomputable def F70 : SF := (slimF Try.prog A70 70).getD ⟨0, .nop, []⟩
theorem hF70 : slimF Try.prog A70 70 = some F70 := by kernel_rfl
def C70 : Ents := []
noncomputable def Bf70_L2 : SC := subOf 4 (partsF F70)
def ef70_L2 (N : Nat) (s : Snap) (K : Out → St → Option Rs) : Option Rs :=
  match s with
  | ⟨[.agg t6, .int .i64 t7], [.ptr 1 0], [some p1]⟩ => (decX .slots t6).bind fun t6 => (decX .page p1).bind fun p1 => f70_L2 N (fun t2 => K .ret (stOf ⟨[2], [], [], [], []⟩ ⟨[.bool t2], [], []⟩)) (K (.exit 0) (stOf ⟨[], [], [], [], []⟩ ⟨[], [], []⟩)) N t6 t7 p1
  | _ => none
def L70 (N : Nat) : LoopT Rs := fun id s K => bif Nat.beq id 4 then ef70_L2 N s K else none
theorem tf70_L2_s (N n : Nat) (K : Out → St → Option Rs) (t6 : Pm.Slots) (t7 : Int) (p1 : Pm.Page) : loopN (fun σ K => execL (tbl C70) (L70 N) Bf70_L2 σ K) mf70_L2 xf70_L2 K (n + 1) (stOf mf70_L2 ⟨[.agg (enc .slots t6), .int .i64 t7], [.ptr 1 0], [some (enc .page p1)]⟩) = f70_L2_s N (fun t2 => K .ret (stOf ⟨[2], [], [], [], []⟩ ⟨[.bool t2], [], []⟩)) (K (.exit 0) (stOf ⟨[], [], [], [], []⟩ ⟨[], [], []⟩)) (fun t6 t7 p1 => loopN (fun σ K => execL (tbl C70) (L70 N) Bf70_L2 σ K) mf70_L2 xf70_L2 K n (stOf mf70_L2 ⟨[.agg (enc .slots t6), .int .i64 t7], [.ptr 1 0], [some (enc .page p1)]⟩)) t6 t7 p1 := by kernel_rfl
theorem tf70_L2 (N : Nat) (K : Out → St → Option Rs) : ∀ (n : Nat) (t6 : Pm.Slots) (t7 : Int) (p1 : Pm.Page), loopN (fun σ K => execL (tbl C70) (L70 N) Bf70_L2 σ K) mf70_L2 xf70_L2 K n (stOf mf70_L2 ⟨[.agg (enc .slots t6), .int .i64 t7], [.ptr 1 0], [some (enc .page p1)]⟩) = f70_L2 N (fun t2 => K .ret (stOf ⟨[2], [], [], [], []⟩ ⟨[.bool t2], [], []⟩)) (K (.exit 0) (stOf ⟨[], [], [], [], []⟩ ⟨[], [], []⟩)) n t6 t7 p1 := by
  intro n
  induction n with
  | zero => intros; rfl
  | succ n ih =>
    intro t6 t7 p1
    rw [tf70_L2_s]
    simp only [f70_L2, ih]
theorem pf70_L2 (N : Nat) : PartOK (tbl C70) (L70 N) (4, true, mf70_L2, xf70_L2, Bf70_L2) := by
  intro s K r h
  have h : ef70_L2 N s K = some r := h
  unfold ef70_L2 at h
  split at h
  case h_2 => cases h
  simp only [Option.bind_eq_some_iff] at h
  obtain ⟨t6', h_t6, p1', h_p1, h⟩ := h
  have h_t6 := decX_ok h_t6
  subst h_t6
  have h_p1 := decX_ok h_p1
  subst h_p1
  exact ⟨N, (tf70_L2 N K N _ _ _).trans h⟩
theorem q70 : partsF F70 = [(4, true, mf70_L2, xf70_L2, Bf70_L2)] := by kernel_rfl
theorem l70 (N : Nat) : LOKs (tbl C70) (L70 N) F70 := loks q70 (all_cons (pf70_L2 N) all_nil)
theorem b70 (N : Nat) (p : Pm.Page) : bodyN (tbl C70) (L70 N) F70 [.any] [] [.val (.agg (enc .page p))] [] = f70 N p (fun o0 => some (.val (.bool o0), [])) := by kernel_rfl
def e70 : List PV → List (List AV) → Option (Ck × Rs)
  | [.val (.agg p)], [] => (dec .page p).map fun p => (.ok, (.val (.bool (goCells p)), []))
  | _, _ => none

/- page.Valid -/
def f55 {R : Type} (N : Nat) (p : Pm.Page) (K : Bool → Option R) : Option R :=
  let r1 := goPlaced p
  bif r1 then
    let r2 := goCells p
    K r2
  else
    K false
def A55 : Ann := { w := [], iw := [], m := [], l := [], j := [], c := codes }
noncomputable def F55 : SF := (slimF Try.prog A55 55).getD ⟨0, .nop, []⟩
theorem hF55 : slimF Try.prog A55 55 = some F55 := by kernel_rfl
def C55 : Ents := [(69, e69), (70, e70)]
def L55 (_ : Nat) : LoopT Rs := fun _ _ _ => none
theorem q55 : partsF F55 = [] := by kernel_rfl
theorem l55 (N : Nat) : LOKs (tbl C55) (L55 N) F55 := loks q55 (all_nil)
theorem b55 (N : Nat) (p : Pm.Page) : bodyN (tbl C55) (L55 N) F55 [.any] [] [.val (.agg (enc .page p))] [] = f55 N p (fun o0 => some (.val (.bool o0), [])) := by kernel_rfl
def e55 : List PV → List (List AV) → Option (Ck × Rs)
  | [.val (.agg p)], [] => (dec .page p).map fun p => (.ok, (.val (.bool (goPageV p)), []))
  | _, _ => none

/- (*page.builder).cell -/
def f72 {R : Type} (N : Nat) (b : Pm.Builder) (c : Pm.Cell) (K : Pm.Builder → Option R) : Option R :=
  bif c.set then
    bif goPutC b.s (c.data.length : Int) 1 then
    let r1 := goPut b.s (c.data.length : Int) 1
    bif Nat.ble (r1.length + c.data.length) most then
    bif goRepC [0] (W (12 - (c.data.length : Int))) then
    let r2 := goRep [0] (W (12 - (c.data.length : Int)))
    bif Nat.ble ((r1 ++ c.data).length + r2.length) most then
    K (Pm.Builder.mk ((r1 ++ c.data) ++ r2))
    else none
    else none
    else none
    else none
  else
    bif goPutC b.s 255 1 then
    let r3 := goPut b.s 255 1
    bif Nat.ble (r3.length + c.data.length) most then
    bif goRepC [0] (W (12 - (c.data.length : Int))) then
    let r4 := goRep [0] (W (12 - (c.data.length : Int)))
    bif Nat.ble ((r3 ++ c.data).length + r4.length) most then
    K (Pm.Builder.mk ((r3 ++ c.data) ++ r4))
    else none
    else none
    else none
    else none
def A72 : Ann := { w := [], iw := [], m := [], l := [], j := [], c := codes }
noncomputable def F72 : SF := (slimF Try.prog A72 72).getD ⟨0, .nop, []⟩
theorem hF72 : slimF Try.prog A72 72 = some F72 := by kernel_rfl
def C72 : Ents := [(71, e71), (73, e73)]
def L72 (_ : Nat) : LoopT Rs := fun _ _ _ => none
theorem q72 : partsF F72 = [] := by kernel_rfl
theorem l72 (N : Nat) : LOKs (tbl C72) (L72 N) F72 := loks q72 (all_nil)
theorem b72 (N : Nat) (b : Pm.Builder) (c : Pm.Cell) : bodyN (tbl C72) (L72 N) F72 [] [.builder] [.ptr 1000000 0, .val (.agg (enc .cell c))] [enc .builder b] = f72 N b c (fun o0 => some (.val (.tup []), [enc .builder o0])) := by kernel_rfl
def e72 : List PV → List (List AV) → Option (Ck × Rs)
  | [.ptr 1000000 0, .val (.agg c)], [b] => (dec .builder b).bind fun b => (dec .cell c).map fun c => (.chk (goCellC b c), (.val (.tup []), [enc .builder (goCell b c)]))
  | _, _ => none

/- page.Encode -/
def f49_L8_s {R : Type} (N : Nat) (k0 : Pm.Page → Pm.Builder → Option R) (rec : Pm.Slots → Int → Pm.Page → Pm.Builder → Option R) (t28 : Pm.Slots) (t29 : Int) (p1 : Pm.Page) (t24 : Pm.Builder) : Option R :=
  bif decide (t29 < 16) then
    bif (decide (0 ≤ t29) && decide (t29 < 16)) then
    bif goCellC t24 (Pm.Cell.mk (List.getD t28.sets t29.toNat false) (List.getD t28.datas t29.toNat [])) then
    let r5 := goCell t24 (Pm.Cell.mk (List.getD t28.sets t29.toNat false) (List.getD t28.datas t29.toNat []))
    rec t28 (W (t29 + 1)) p1 r5
    else none
    else none
  else
    k0 p1 t24
def f49_L8 {R : Type} (N : Nat) (k0 : Pm.Page → Pm.Builder → Option R) : Nat → Pm.Slots → Int → Pm.Page → Pm.Builder → Option R
  | 0, _, _, _, _ => none
  | n + 1, t28, t29, p1, t24 => f49_L8_s N k0 (f49_L8 N k0 n) t28 t29 p1 t24
def f49 {R : Type} (N : Nat) (p : Pm.Page) (K : (List UInt8) → Int → Option R) : Option R :=
  let r1 := goPlaced p
  bif !r1 then
    K [] 1
  else
    let r2 := goCells p
    bif !r2 then
      K [] 22
    else
      bif goPutC [] p.lsn 8 then
      let r3 := goPut [] p.lsn 8
      bif goPutC r3 p.id 4 then
      let r4 := goPut r3 p.id 4
      f49_L8 N
        (fun p1 t24 =>
          bif goRepC [0] (W (244 - (t24.s.length : Int))) then
          let r6 := goRep [0] (W (244 - (t24.s.length : Int)))
          bif Nat.ble (t24.s.length + r6.length) most then
          bif goSumC (t24.s ++ r6) then
          let r7 := goSum (t24.s ++ r6)
          bif goPutC (t24.s ++ r6) (W r7) 4 then
          let r8 := goPut (t24.s ++ r6) (W r7) 4
          bif goPutC r8 p1.lsn 8 then
          let r9 := goPut r8 p1.lsn 8
          K r9 0
          else none
          else none
          else none
          else none
          else none)
        N p.cells 0 p (Pm.Builder.mk r4)
      else none
      else none
def mf49_L8 : Mark := ⟨[28, 29], [1, 4, 5], [1, 24], [], []⟩
def xf49_L8 : List (Nat × Mark) := [(3, ⟨[], [1, 4], [1, 24], [], []⟩)]
def A49 : Ann := { w := [], iw := [], m := [], l := [(8, (mf49_L8, xf49_L8))], j := [], c := codes }
noncomputable def F49 : SF := (slimF Try.prog A49 49).getD ⟨0, .nop, []⟩
theorem hF49 : slimF Try.prog A49 49 = some F49 := by kernel_rfl
def C49 : Ents := [(69, e69), (70, e70), (71, e71), (72, e72), (73, e73), (74, e74)]
noncomputable def Bf49_L8 : SC := subOf 16 (partsF F49)
def ef49_L8 (N : Nat) (s : Snap) (K : Out → St → Option Rs) : Option Rs :=
  match s with
  | ⟨[.agg t28, .int .i64 t29], [.ptr 1 0, .ptr 24 0, .fn 72 [.ptr 24 0] []], [some p1, some t24]⟩ => (decX .slots t28).bind fun t28 => (decX .page p1).bind fun p1 => (decX .builder t24).bind fun t24 => f49_L8 N (fun p t24 => K (.exit 1) (stOf ⟨[], [1, 4], [1, 24], [], []⟩ ⟨[], [.ptr 1 0, .ptr 24 0], [some (enc .page p), some (enc .builder t24)]⟩)) N t28 t29 p1 t24
  | _ => none
def L49 (N : Nat) : LoopT Rs := fun id s K => bif Nat.beq id 16 then ef49_L8 N s K else none
theorem tf49_L8_s (N n : Nat) (K : Out → St → Option Rs) (t28 : Pm.Slots) (t29 : Int) (p1 : Pm.Page) (t24 : Pm.Builder) : loopN (fun σ K => execL (tbl C49) (L49 N) Bf49_L8 σ K) mf49_L8 xf49_L8 K (n + 1) (stOf mf49_L8 ⟨[.agg (enc .slots t28), .int .i64 t29], [.ptr 1 0, .ptr 24 0, .fn 72 [.ptr 24 0] []], [some (enc .page p1), some (enc .builder t24)]⟩) = f49_L8_s N (fun p t24 => K (.exit 1) (stOf ⟨[], [1, 4], [1, 24], [], []⟩ ⟨[], [.ptr 1 0, .ptr 24 0], [some (enc .page p), some (enc .builder t24)]⟩)) (fun t28 t29 p1 t24 => loopN (fun σ K => execL (tbl C49) (L49 N) Bf49_L8 σ K) mf49_L8 xf49_L8 K n (stOf mf49_L8 ⟨[.agg (enc .slots t28), .int .i64 t29], [.ptr 1 0, .ptr 24 0, .fn 72 [.ptr 24 0] []], [some (enc .page p1), some (enc .builder t24)]⟩)) t28 t29 p1 t24 := by kernel_rfl
theorem tf49_L8 (N : Nat) (K : Out → St → Option Rs) : ∀ (n : Nat) (t28 : Pm.Slots) (t29 : Int) (p1 : Pm.Page) (t24 : Pm.Builder), loopN (fun σ K => execL (tbl C49) (L49 N) Bf49_L8 σ K) mf49_L8 xf49_L8 K n (stOf mf49_L8 ⟨[.agg (enc .slots t28), .int .i64 t29], [.ptr 1 0, .ptr 24 0, .fn 72 [.ptr 24 0] []], [some (enc .page p1), some (enc .builder t24)]⟩) = f49_L8 N (fun p t24 => K (.exit 1) (stOf ⟨[], [1, 4], [1, 24], [], []⟩ ⟨[], [.ptr 1 0, .ptr 24 0], [some (enc .page p), some (enc .builder t24)]⟩)) n t28 t29 p1 t24 := by
  intro n
  induction n with
  | zero => intros; rfl
  | succ n ih =>
    intro t28 t29 p1 t24
    rw [tf49_L8_s]
    simp only [f49_L8, ih]
theorem pf49_L8 (N : Nat) : PartOK (tbl C49) (L49 N) (16, true, mf49_L8, xf49_L8, Bf49_L8) := by
  intro s K r h
  have h : ef49_L8 N s K = some r := h
  unfold ef49_L8 at h
  split at h
  case h_2 => cases h
  simp only [Option.bind_eq_some_iff] at h
  obtain ⟨t28', h_t28, p1', h_p1, t24', h_t24, h⟩ := h
  have h_t28 := decX_ok h_t28
  subst h_t28
  have h_p1 := decX_ok h_p1
  subst h_p1
  have h_t24 := decX_ok h_t24
  subst h_t24
  exact ⟨N, (tf49_L8 N K N _ _ _ _).trans h⟩
theorem q49 : partsF F49 = [(16, true, mf49_L8, xf49_L8, Bf49_L8)] := by kernel_rfl
theorem l49 (N : Nat) : LOKs (tbl C49) (L49 N) F49 := loks q49 (all_cons (pf49_L8 N) all_nil)
theorem b49 (N : Nat) (p : Pm.Page) : bodyN (tbl C49) (L49 N) F49 [.any, .any] [] [.val (.agg (enc .page p))] [] = f49 N p (fun o0 o1 => some (.val (.tup [.str o0, .int .i64 o1]), [])) := by kernel_rfl
def e49 : List PV → List (List AV) → Option (Ck × Rs)
  | [.val (.agg p)], [] => (dec .page p).map fun p => (.ok, (.val (.tup [.str (goEnc p).1, .int .i64 (goEnc p).2]), []))
  | _, _ => none

/- pool.find$1 -/
def f76 {R : Type} (N : Nat) (f : Pm.Frame) (x1 : Int) (K : Bool → Int → Option R) : Option R :=
  K (f.page.id == x1) x1
def A76 : Ann := { w := [], iw := [], m := [], l := [], j := [], c := codes }
noncomputable def F76 : SF := (slimF Try.prog A76 76).getD ⟨0, .nop, []⟩
theorem hF76 : slimF Try.prog A76 76 = some F76 := by kernel_rfl
def C76 : Ents := []
def L76 (_ : Nat) : LoopT Rs := fun _ _ _ => none
theorem q76 : partsF F76 = [] := by kernel_rfl
theorem l76 (N : Nat) : LOKs (tbl C76) (L76 N) F76 := loks q76 (all_nil)
theorem b76 (N : Nat) (f : Pm.Frame) (x1 : Int) : bodyN (tbl C76) (L76 N) F76 [.any] [.int] [.val (.agg (enc .frame f)), .ptr 1000000 0] [enc .int x1] = f76 N f x1 (fun o0 o1 => some (.val (.bool o0), [enc .int o1])) := by kernel_rfl
def e76 : List PV → List (List AV) → Option (Ck × Rs)
  | [.val (.agg f), .ptr 1000000 0], [x1] => (dec .frame f).bind fun f => (dec .int x1).map fun x1 => (.ok, (.val (.bool (goIdIs f x1).1), [enc .int (goIdIs f x1).2]))
  | _, _ => none

/- slices.IndexFunc[[]api.Frame,api.Frame] -/
def f75_L2_s {R : Type} (N : Nat) (k0 : Int → Int → Option R) (k1 : Int → Option R) (rec : List Pm.Frame → Int → Int → Int → Option R) (s1 : List Pm.Frame) (t7 : Int) (t8 : Int) (f01 : Int) : Option R :=
  bif decide (t8 < t7) then
    bif (decide (0 ≤ t8) && Nat.blt t8.toNat s1.length) then
    let r1 := goIdIs (List.getD s1 t8.toNat default) f01
    bif r1.1 then
      k0 t8 r1.2
    else
      rec s1 t7 (W (t8 + 1)) r1.2
    else none
  else
    k1 f01
def f75_L2 {R : Type} (N : Nat) (k0 : Int → Int → Option R) (k1 : Int → Option R) : Nat → List Pm.Frame → Int → Int → Int → Option R
  | 0, _, _, _, _ => none
  | n + 1, s1, t7, t8, f01 => f75_L2_s N k0 k1 (f75_L2 N k0 k1 n) s1 t7 t8 f01
def f75 {R : Type} (N : Nat) (s : List Pm.Frame) (f0 : Int) (K : Int → Int → Option R) : Option R :=
  f75_L2 N
    (fun t4 f01 =>
      K t4 f01)
    (fun f02 =>
      K (-1) f02)
    N s (s.length : Int) 0 f0
def mf75_L2 : Mark := ⟨[0, 7, 8], [1], [1000000], [], [(.tmp 0, .frame)]⟩
def xf75_L2 : List (Nat × Mark) := [(1, ⟨[4], [], [1000000], [], []⟩), (2, ⟨[], [], [1000000], [], []⟩)]
def A75 : Ann := { w := [], iw := [], m := [], l := [(2, (mf75_L2, xf75_L2))], j := [], c := codes }
noncomputable def F75 : SF := (slimF Try.prog A75 75).getD ⟨0, .nop, []⟩
theorem hF75 : slimF Try.prog A75 75 = some F75 := by kernel_rfl
def C75 : Ents := [(76, e76)]
noncomputable def Bf75_L2 : SC := subOf 4 (partsF F75)
def ef75_L2 (N : Nat) (s : Snap) (K : Out → St → Option Rs) : Option Rs :=
  match s with
  | ⟨[.sl false .frame s1, .int .i64 t7, .int .i64 t8], [.fn 76 [] [.ptr 1000000 0]], [some f01]⟩ => (decX .int f01).bind fun f01 => f75_L2 N (fun t4 f0 => K .ret (stOf ⟨[4], [], [1000000], [], []⟩ ⟨[.int .i64 t4], [], [some (enc .int f0)]⟩)) (fun f0 => K (.exit 0) (stOf ⟨[], [], [1000000], [], []⟩ ⟨[], [], [some (enc .int f0)]⟩)) N s1 t7 t8 f01
  | _ => none
def L75 (N : Nat) : LoopT Rs := fun id s K => bif Nat.beq id 4 then ef75_L2 N s K else none
theorem tf75_L2_s (N n : Nat) (K : Out → St → Option Rs) (s1 : List Pm.Frame) (t7 : Int) (t8 : Int) (f01 : Int) : loopN (fun σ K => execL (tbl C75) (L75 N) Bf75_L2 σ K) mf75_L2 xf75_L2 K (n + 1) (stOf mf75_L2 ⟨[.sl false .frame s1, .int .i64 t7, .int .i64 t8], [.fn 76 [] [.ptr 1000000 0]], [some (enc .int f01)]⟩) = f75_L2_s N (fun t4 f0 => K .ret (stOf ⟨[4], [], [1000000], [], []⟩ ⟨[.int .i64 t4], [], [some (enc .int f0)]⟩)) (fun f0 => K (.exit 0) (stOf ⟨[], [], [1000000], [], []⟩ ⟨[], [], [some (enc .int f0)]⟩)) (fun s1 t7 t8 f01 => loopN (fun σ K => execL (tbl C75) (L75 N) Bf75_L2 σ K) mf75_L2 xf75_L2 K n (stOf mf75_L2 ⟨[.sl false .frame s1, .int .i64 t7, .int .i64 t8], [.fn 76 [] [.ptr 1000000 0]], [some (enc .int f01)]⟩)) s1 t7 t8 f01 := by kernel_rfl
theorem tf75_L2 (N : Nat) (K : Out → St → Option Rs) : ∀ (n : Nat) (s1 : List Pm.Frame) (t7 : Int) (t8 : Int) (f01 : Int), loopN (fun σ K => execL (tbl C75) (L75 N) Bf75_L2 σ K) mf75_L2 xf75_L2 K n (stOf mf75_L2 ⟨[.sl false .frame s1, .int .i64 t7, .int .i64 t8], [.fn 76 [] [.ptr 1000000 0]], [some (enc .int f01)]⟩) = f75_L2 N (fun t4 f0 => K .ret (stOf ⟨[4], [], [1000000], [], []⟩ ⟨[.int .i64 t4], [], [some (enc .int f0)]⟩)) (fun f0 => K (.exit 0) (stOf ⟨[], [], [1000000], [], []⟩ ⟨[], [], [some (enc .int f0)]⟩)) n s1 t7 t8 f01 := by
  intro n
  induction n with
  | zero => intros; rfl
  | succ n ih =>
    intro s1 t7 t8 f01
    rw [tf75_L2_s]
    simp only [f75_L2, ih]
theorem pf75_L2 (N : Nat) : PartOK (tbl C75) (L75 N) (4, true, mf75_L2, xf75_L2, Bf75_L2) := by
  intro s K r h
  have h : ef75_L2 N s K = some r := h
  unfold ef75_L2 at h
  split at h
  case h_2 => cases h
  simp only [Option.bind_eq_some_iff] at h
  obtain ⟨f01', h_f01, h⟩ := h
  have h_f01 := decX_ok h_f01
  subst h_f01
  exact ⟨N, (tf75_L2 N K N _ _ _ _).trans h⟩
theorem q75 : partsF F75 = [(4, true, mf75_L2, xf75_L2, Bf75_L2)] := by kernel_rfl
theorem l75 (N : Nat) : LOKs (tbl C75) (L75 N) F75 := loks q75 (all_cons (pf75_L2 N) all_nil)
theorem b75 (N : Nat) (s : List Pm.Frame) (f0 : Int) : bodyN (tbl C75) (L75 N) F75 [.any] [.int] [.val (.sl false .frame s), .fn 76 [] [.ptr 1000000 0]] [enc .int f0] = f75 N s f0 (fun o0 o1 => some (.val (.int .i64 o0), [enc .int o1])) := by kernel_rfl
def e75 : List PV → List (List AV) → Option (Ck × Rs)
  | [.val (.sl _ cs s), .fn 76 [] [.ptr 1000000 0]], [f0] => (castSl .frame cs s).bind fun s => (dec .int f0).map fun f0 => (.chk (goIndexC s f0), (.val (.int .i64 (goIndex s f0).1), [enc .int (goIndex s f0).2]))
  | _, _ => none

/- pool.find -/
def f50 {R : Type} (N : Nat) (p : Pm.Pool) (id0 : Int) (K : Int → Option R) : Option R :=
  bif goIndexC p.frames id0 then
  let r1 := goIndex p.frames id0
  K r1.1
  else none
def A50 : Ann := { w := [], iw := [], m := [], l := [], j := [], c := codes }
noncomputable def F50 : SF := (slimF Try.prog A50 50).getD ⟨0, .nop, []⟩
theorem hF50 : slimF Try.prog A50 50 = some F50 := by kernel_rfl
def C50 : Ents := [(75, e75)]
def L50 (_ : Nat) : LoopT Rs := fun _ _ _ => none
theorem q50 : partsF F50 = [] := by kernel_rfl
theorem l50 (N : Nat) : LOKs (tbl C50) (L50 N) F50 := loks q50 (all_nil)
theorem b50 (N : Nat) (p : Pm.Pool) (id0 : Int) : bodyN (tbl C50) (L50 N) F50 [.any] [] [.val (.agg (enc .pool p)), .val (.int .i64 id0)] [] = f50 N p id0 (fun o0 => some (.val (.int .i64 o0), [])) := by kernel_rfl
def e50 : List PV → List (List AV) → Option (Ck × Rs)
  | [.val (.agg p), .val (.int .i64 id0)], [] => (dec .pool p).map fun p => (.chk (goFindC p id0), (.val (.int .i64 (goFind p id0)), []))
  | _, _ => none

/- pool.with[api.Frame] -/
def f53 {R : Type} (N : Nat) (l : List Pm.Frame) (i : Int) (x : Pm.Frame) (K : (List Pm.Frame) → Option R) : Option R :=
  bif Nat.ble l.length most then
  bif (decide (0 ≤ i) && Nat.blt i.toNat l.length) then
  bif Nat.blt i.toNat l.length then
  K (List.set l i.toNat x)
  else none
  else none
  else none
def A53 : Ann := { w := [8], iw := [12], m := [], l := [], j := [], c := codes }
noncomputable def F53 : SF := (slimF Try.prog A53 53).getD ⟨0, .nop, []⟩
theorem hF53 : slimF Try.prog A53 53 = some F53 := by kernel_rfl
def C53 : Ents := []
def L53 (_ : Nat) : LoopT Rs := fun _ _ _ => none
theorem q53 : partsF F53 = [] := by kernel_rfl
theorem l53 (N : Nat) : LOKs (tbl C53) (L53 N) F53 := loks q53 (all_nil)
theorem b53 (N : Nat) (l : List Pm.Frame) (i : Int) (x : Pm.Frame) : bodyN (tbl C53) (L53 N) F53 [.sl .frame] [] [.val (.sl false .frame l), .val (.int .i64 i), .val (.agg (enc .frame x))] [] = f53 N l i x (fun o0 => some (.val (.sl false .frame o0), [])) := by kernel_rfl
def e53 : List PV → List (List AV) → Option (Ck × Rs)
  | [.val (.sl _ cl l), .val (.int .i64 i), .val (.agg x)], [] => (castSl .frame cl l).bind fun l => (dec .frame x).map fun x => (.chk (goWithC l i x), (.val (.sl false .frame (goWith l i x)), []))
  | _, _ => none

/- pool.New -/
def f14 {R : Type} (N : Nat) (size : Int) (K : Pm.Pool → Int → Option R) : Option R :=
  bif !(decide (size < 1)) then
    bif decide (size > 64) then
      K default 1
    else
      K (Pm.Pool.mk size [] 0) 0
  else
    K default 1
def A14 : Ann := { w := [], iw := [], m := [], l := [], j := [], c := codes }
noncomputable def F14 : SF := (slimF Try.prog A14 14).getD ⟨0, .nop, []⟩
theorem hF14 : slimF Try.prog A14 14 = some F14 := by kernel_rfl
def C14 : Ents := []
def L14 (_ : Nat) : LoopT Rs := fun _ _ _ => none
theorem q14 : partsF F14 = [] := by kernel_rfl
theorem l14 (N : Nat) : LOKs (tbl C14) (L14 N) F14 := loks q14 (all_nil)
theorem b14 (N : Nat) (size : Int) : bodyN (tbl C14) (L14 N) F14 [.el .pool, .any] [] [.val (.int .i64 size)] [] = f14 N size (fun o0 o1 => some (.val (.tup [.agg (enc .pool o0), .int .i64 o1]), [])) := by kernel_rfl
def e14 : List PV → List (List AV) → Option (Ck × Rs)
  | [.val (.int .i64 size)], [] => some (.ok, (.val (.tup [.agg (enc .pool (goPoolNew size).1), .int .i64 (goPoolNew size).2]), []))
  | _, _ => none

/- pool.Valid -/
def f22_L4_s {R : Type} (N : Nat) (k0 : Bool → Option R) (k1 : Option R) (rec : List Pm.Frame → Int → Int → Pm.Pool → Option R) (t36 : List Pm.Frame) (t37 : Int) (t38 : Int) (p1 : Pm.Pool) : Option R :=
  bif decide (t38 < t37) then
    bif (decide (0 ≤ t38) && Nat.blt t38.toNat t36.length) then
    let r1 := goPageV (List.getD t36 t38.toNat default).page
    bif !(!r1) then
      bif goFindC p1 (List.getD t36 t38.toNat default).page.id then
      let r2 := goFind p1 (List.getD t36 t38.toNat default).page.id
      bif (r2 != t38) then
        k0 false
      else
        bif (List.getD t36 t38.toNat default).dirty then
          bif !(decide ((List.getD t36 t38.toNat default).rec_ < 1)) then
            bif !(decide ((List.getD t36 t38.toNat default).rec_ > (List.getD t36 t38.toNat default).page.lsn)) then
              bif !(List.getD t36 t38.toNat default).dirty then
                bif ((List.getD t36 t38.toNat default).rec_ != 0) then
                  k0 false
                else
                  rec t36 t37 (W (t38 + 1)) p1
              else
                rec t36 t37 (W (t38 + 1)) p1
            else
              k0 false
          else
            k0 false
        else
          bif !(List.getD t36 t38.toNat default).dirty then
            bif ((List.getD t36 t38.toNat default).rec_ != 0) then
              k0 false
            else
              rec t36 t37 (W (t38 + 1)) p1
          else
            rec t36 t37 (W (t38 + 1)) p1
      else none
    else
      k0 false
    else none
  else
    k1
def f22_L4 {R : Type} (N : Nat) (k0 : Bool → Option R) (k1 : Option R) : Nat → List Pm.Frame → Int → Int → Pm.Pool → Option R
  | 0, _, _, _, _ => none
  | n + 1, t36, t37, t38, p1 => f22_L4_s N k0 k1 (f22_L4 N k0 k1 n) t36 t37 t38 p1
def f22 {R : Type} (N : Nat) (p : Pm.Pool) (K : Bool → Option R) : Option R :=
  bif !(decide (p.size < 1)) then
    bif !(decide (p.size > 64)) then
      bif !(decide ((p.frames.length : Int) > p.size)) then
        bif !(decide (p.hand < 0)) then
          bif decide (p.hand ≥ if 1 < (p.frames.length : Int) then (p.frames.length : Int) else 1) then
            K false
          else
            f22_L4 N
              (fun t2 =>
                K t2)
              (
                K true)
              N p.frames (p.frames.length : Int) 0 p
        else
          K false
      else
        K false
    else
      K false
  else
    K false
def mf22_L4 : Mark := ⟨[36, 37, 38], [1], [1], [], [(.cell 1 1, .frame), (.tmp 36, .frame)]⟩
def xf22_L4 : List (Nat × Mark) := [(1, ⟨[2], [], [], [], []⟩), (2, ⟨[], [], [], [], []⟩)]
def A22 : Ann := { w := [], iw := [], m := [], l := [(4, (mf22_L4, xf22_L4))], j := [], c := codes }
noncomputable def F22 : SF := (slimF Try.prog A22 22).getD ⟨0, .nop, []⟩
theorem hF22 : slimF Try.prog A22 22 = some F22 := by kernel_rfl
def C22 : Ents := [(55, e55), (50, e50)]
noncomputable def Bf22_L4 : SC := subOf 8 (partsF F22)
def ef22_L4 (N : Nat) (s : Snap) (K : Out → St → Option Rs) : Option Rs :=
  match s with
  | ⟨[.sl false .frame t36, .int .i64 t37, .int .i64 t38], [.ptr 1 0], [some p1]⟩ => (decX .pool p1).bind fun p1 => f22_L4 N (fun t2 => K .ret (stOf ⟨[2], [], [], [], []⟩ ⟨[.bool t2], [], []⟩)) (K (.exit 0) (stOf ⟨[], [], [], [], []⟩ ⟨[], [], []⟩)) N t36 t37 t38 p1
  | _ => none
def L22 (N : Nat) : LoopT Rs := fun id s K => bif Nat.beq id 8 then ef22_L4 N s K else none
theorem tf22_L4_s (N n : Nat) (K : Out → St → Option Rs) (t36 : List Pm.Frame) (t37 : Int) (t38 : Int) (p1 : Pm.Pool) : loopN (fun σ K => execL (tbl C22) (L22 N) Bf22_L4 σ K) mf22_L4 xf22_L4 K (n + 1) (stOf mf22_L4 ⟨[.sl false .frame t36, .int .i64 t37, .int .i64 t38], [.ptr 1 0], [some (enc .pool p1)]⟩) = f22_L4_s N (fun t2 => K .ret (stOf ⟨[2], [], [], [], []⟩ ⟨[.bool t2], [], []⟩)) (K (.exit 0) (stOf ⟨[], [], [], [], []⟩ ⟨[], [], []⟩)) (fun t36 t37 t38 p1 => loopN (fun σ K => execL (tbl C22) (L22 N) Bf22_L4 σ K) mf22_L4 xf22_L4 K n (stOf mf22_L4 ⟨[.sl false .frame t36, .int .i64 t37, .int .i64 t38], [.ptr 1 0], [some (enc .pool p1)]⟩)) t36 t37 t38 p1 := by kernel_rfl
theorem tf22_L4 (N : Nat) (K : Out → St → Option Rs) : ∀ (n : Nat) (t36 : List Pm.Frame) (t37 : Int) (t38 : Int) (p1 : Pm.Pool), loopN (fun σ K => execL (tbl C22) (L22 N) Bf22_L4 σ K) mf22_L4 xf22_L4 K n (stOf mf22_L4 ⟨[.sl false .frame t36, .int .i64 t37, .int .i64 t38], [.ptr 1 0], [some (enc .pool p1)]⟩) = f22_L4 N (fun t2 => K .ret (stOf ⟨[2], [], [], [], []⟩ ⟨[.bool t2], [], []⟩)) (K (.exit 0) (stOf ⟨[], [], [], [], []⟩ ⟨[], [], []⟩)) n t36 t37 t38 p1 := by
  intro n
  induction n with
  | zero => intros; rfl
  | succ n ih =>
    intro t36 t37 t38 p1
    rw [tf22_L4_s]
    simp only [f22_L4, ih]
theorem pf22_L4 (N : Nat) : PartOK (tbl C22) (L22 N) (8, true, mf22_L4, xf22_L4, Bf22_L4) := by
  intro s K r h
  have h : ef22_L4 N s K = some r := h
  unfold ef22_L4 at h
  split at h
  case h_2 => cases h
  simp only [Option.bind_eq_some_iff] at h
  obtain ⟨p1', h_p1, h⟩ := h
  have h_p1 := decX_ok h_p1
  subst h_p1
  exact ⟨N, (tf22_L4 N K N _ _ _ _).trans h⟩
theorem q22 : partsF F22 = [(8, true, mf22_L4, xf22_L4, Bf22_L4)] := by kernel_rfl
theorem l22 (N : Nat) : LOKs (tbl C22) (L22 N) F22 := loks q22 (all_cons (pf22_L4 N) all_nil)
theorem b22 (N : Nat) (p : Pm.Pool) : bodyN (tbl C22) (L22 N) F22 [.any] [] [.val (.agg (enc .pool p))] [] = f22 N p (fun o0 => some (.val (.bool o0), [])) := by kernel_rfl
def e22 : List PV → List (List AV) → Option (Ck × Rs)
  | [.val (.agg p)], [] => (dec .pool p).map fun p => (.ok, (.val (.bool (goPoolV p)), []))
  | _, _ => none

/- pool.Find -/
def f21 {R : Type} (N : Nat) (p : Pm.Pool) (id0 : Int) (K : Int → Option R) : Option R :=
  let r1 := goPoolV p
  bif !r1 then
    K (-1)
  else
    bif goFindC p id0 then
    let r2 := goFind p id0
    K r2
    else none
def A21 : Ann := { w := [], iw := [], m := [], l := [], j := [], c := codes }
noncomputable def F21 : SF := (slimF Try.prog A21 21).getD ⟨0, .nop, []⟩
theorem hF21 : slimF Try.prog A21 21 = some F21 := by kernel_rfl
def C21 : Ents := [(22, e22), (50, e50)]
def L21 (_ : Nat) : LoopT Rs := fun _ _ _ => none
theorem q21 : partsF F21 = [] := by kernel_rfl
theorem l21 (N : Nat) : LOKs (tbl C21) (L21 N) F21 := loks q21 (all_nil)
theorem b21 (N : Nat) (p : Pm.Pool) (id0 : Int) : bodyN (tbl C21) (L21 N) F21 [.any] [] [.val (.agg (enc .pool p)), .val (.int .i64 id0)] [] = f21 N p id0 (fun o0 => some (.val (.int .i64 o0), [])) := by kernel_rfl
def e21 : List PV → List (List AV) → Option (Ck × Rs)
  | [.val (.agg p), .val (.int .i64 id0)], [] => (dec .pool p).map fun p => (.ok, (.val (.int .i64 (goPoolFind p id0)), []))
  | _, _ => none

/- pool.Use -/
def f17 {R : Type} (N : Nat) (p : Pm.Pool) (id0 : Int) (K : Pm.Pool → Option R) : Option R :=
  let r1 := goPoolFind p id0
  bif decide (r1 ≥ 0) then
    bif (decide (0 ≤ r1) && Nat.blt r1.toNat p.frames.length) then
    bif goWithC p.frames r1 (Pm.Frame.mk (List.getD p.frames r1.toNat default).page (List.getD p.frames r1.toNat default).dirty (List.getD p.frames r1.toNat default).rec_ true) then
    let r2 := goWith p.frames r1 (Pm.Frame.mk (List.getD p.frames r1.toNat default).page (List.getD p.frames r1.toNat default).dirty (List.getD p.frames r1.toNat default).rec_ true)
    K (Pm.Pool.mk p.size r2 p.hand)
    else none
    else none
  else
    K p
def A17 : Ann := { w := [], iw := [], m := [], l := [], j := [], c := codes }
noncomputable def F17 : SF := (slimF Try.prog A17 17).getD ⟨0, .nop, []⟩
theorem hF17 : slimF Try.prog A17 17 = some F17 := by kernel_rfl
def C17 : Ents := [(21, e21), (53, e53)]
def L17 (_ : Nat) : LoopT Rs := fun _ _ _ => none
theorem q17 : partsF F17 = [] := by kernel_rfl
theorem l17 (N : Nat) : LOKs (tbl C17) (L17 N) F17 := loks q17 (all_nil)
theorem b17 (N : Nat) (p : Pm.Pool) (id0 : Int) : bodyN (tbl C17) (L17 N) F17 [.el .pool] [] [.val (.agg (enc .pool p)), .val (.int .i64 id0)] [] = f17 N p id0 (fun o0 => some (.val (.agg (enc .pool o0)), [])) := by kernel_rfl
def e17 : List PV → List (List AV) → Option (Ck × Rs)
  | [.val (.agg p), .val (.int .i64 id0)], [] => (dec .pool p).map fun p => (.ok, (.val (.agg (enc .pool (goUse p id0))), []))
  | _, _ => none

/- pool.Put -/
def f15 {R : Type} (N : Nat) (p : Pm.Pool) (x : Pm.Page) (K : Pm.Pool → Int → Option R) : Option R :=
  let r1 := goPoolV p
  bif !r1 then
    K default 15
  else
    let r2 := goEnc x
    bif (r2.2 != 0) then
      K default r2.2
    else
      bif goFindC p x.id then
      let r3 := goFind p x.id
      bif decide (r3 ≥ 0) then
        K default 25
      else
        bif ((p.frames.length : Int) == p.size) then
          K default 21
        else
          bif Nat.ble p.frames.length most then
          bif Nat.ble (p.frames.length + [Pm.Frame.mk x false 0 true].length) most then
          K (Pm.Pool.mk p.size (p.frames ++ [Pm.Frame.mk x false 0 true]) p.hand) 0
          else none
          else none
      else none
def A15 : Ann := { w := [], iw := [], m := [], l := [], j := [], c := codes }
noncomputable def F15 : SF := (slimF Try.prog A15 15).getD ⟨0, .nop, []⟩
theorem hF15 : slimF Try.prog A15 15 = some F15 := by kernel_rfl
def C15 : Ents := [(22, e22), (49, e49), (50, e50)]
def L15 (_ : Nat) : LoopT Rs := fun _ _ _ => none
theorem q15 : partsF F15 = [] := by kernel_rfl
theorem l15 (N : Nat) : LOKs (tbl C15) (L15 N) F15 := loks q15 (all_nil)
theorem b15 (N : Nat) (p : Pm.Pool) (x : Pm.Page) : bodyN (tbl C15) (L15 N) F15 [.el .pool, .any] [] [.val (.agg (enc .pool p)), .val (.agg (enc .page x))] [] = f15 N p x (fun o0 o1 => some (.val (.tup [.agg (enc .pool o0), .int .i64 o1]), [])) := by kernel_rfl
def e15 : List PV → List (List AV) → Option (Ck × Rs)
  | [.val (.agg p), .val (.agg x)], [] => (dec .pool p).bind fun p => (dec .page x).map fun x => (.ok, (.val (.tup [.agg (enc .pool (goPoolPut p x).1), .int .i64 (goPoolPut p x).2]), []))
  | _, _ => none

/- pool.Victim -/
def f16_L6_s {R : Type} (N : Nat) (k0 : Pm.Pool → Pm.Pool → Option R) (rec : Pm.Pool → Pm.Pool → Option R) (p1 : Pm.Pool) (t2 : Pm.Pool) : Option R :=
  bif (decide (0 ≤ p1.hand) && Nat.blt p1.hand.toNat p1.frames.length) then
  bif (List.getD p1.frames p1.hand.toNat default).used then
    bif (decide (0 ≤ p1.hand) && Nat.blt p1.hand.toNat p1.frames.length) then
    bif Nat.blt p1.hand.toNat p1.frames.length then
    let v2 := ((List.set p1.frames p1.hand.toNat (Pm.Frame.mk (List.getD p1.frames p1.hand.toNat default).page (List.getD p1.frames p1.hand.toNat default).dirty (List.getD p1.frames p1.hand.toNat default).rec_ false)).length : Int)
    bif !(decide (v2 = 0)) then
    rec (Pm.Pool.mk p1.size (List.set p1.frames p1.hand.toNat (Pm.Frame.mk (List.getD p1.frames p1.hand.toNat default).page (List.getD p1.frames p1.hand.toNat default).dirty (List.getD p1.frames p1.hand.toNat default).rec_ false)) (Int.tmod (W (p1.hand + 1)) v2)) t2
    else none
    else none
    else none
  else
    k0 p1 t2
  else none
def f16_L6 {R : Type} (N : Nat) (k0 : Pm.Pool → Pm.Pool → Option R) : Nat → Pm.Pool → Pm.Pool → Option R
  | 0, _, _ => none
  | n + 1, p1, t2 => f16_L6_s N k0 (f16_L6 N k0 n) p1 t2
def f16 {R : Type} (N : Nat) (p : Pm.Pool) (K : Pm.Pool → Int → Int → Option R) : Option R :=
  let r1 := goPoolV p
  bif !r1 then
    K default 0 15
  else
    bif ((p.frames.length : Int) == 0) then
      K default 0 18
    else
      bif Nat.ble p.frames.length most then
      f16_L6 N
        (fun p1 t2 =>
          bif (decide (0 ≤ p1.hand) && Nat.blt p1.hand.toNat p1.frames.length) then
          K p1 (List.getD p1.frames p1.hand.toNat default).page.id 0
          else none)
        N p default
      else none
def mf16_L6 : Mark := ⟨[], [1, 2], [1, 2], [(.cell 1 1, 76)], [(.cell 1 1, .frame), (.cell 2 1, .frame)]⟩
def xf16_L6 : List (Nat × Mark) := [(3, ⟨[], [1, 2], [1, 2], [(.cell 1 1, 76)], [(.cell 1 1, .frame), (.cell 2 1, .frame)]⟩)]
def A16 : Ann := { w := [18], iw := [31], m := [(9, ⟨[], [1, 2], [1, 2], [], [(.cell 1 1, .frame), (.cell 2 1, .frame)]⟩)], l := [(6, (mf16_L6, xf16_L6))], j := [], c := codes }
noncomputable def F16 : SF := (slimF Try.prog A16 16).getD ⟨0, .nop, []⟩
theorem hF16 : slimF Try.prog A16 16 = some F16 := by kernel_rfl
def C16 : Ents := [(22, e22)]
noncomputable def Bf16_L6 : SC := subOf 12 (partsF F16)
def ef16_L6 (N : Nat) (s : Snap) (K : Out → St → Option Rs) : Option Rs :=
  match s with
  | ⟨[], [.ptr 1 0, .ptr 2 0], [some p1, some t2]⟩ => (decX .pool p1).bind fun p1 => (decX .pool t2).bind fun t2 => f16_L6 N (fun p t2 => K (.exit 1) (stOf ⟨[], [1, 2], [1, 2], [(.cell 1 1, 76)], [(.cell 1 1, .frame), (.cell 2 1, .frame)]⟩ ⟨[], [.ptr 1 0, .ptr 2 0], [some (enc .pool p), some (enc .pool t2)]⟩)) N p1 t2
  | _ => none
def L16 (N : Nat) : LoopT Rs := fun id s K => bif Nat.beq id 12 then ef16_L6 N s K else none
theorem tf16_L6_s (N n : Nat) (K : Out → St → Option Rs) (p1 : Pm.Pool) (t2 : Pm.Pool) : loopN (fun σ K => execL (tbl C16) (L16 N) Bf16_L6 σ K) mf16_L6 xf16_L6 K (n + 1) (stOf mf16_L6 ⟨[], [.ptr 1 0, .ptr 2 0], [some (enc .pool p1), some (enc .pool t2)]⟩) = f16_L6_s N (fun p t2 => K (.exit 1) (stOf ⟨[], [1, 2], [1, 2], [(.cell 1 1, 76)], [(.cell 1 1, .frame), (.cell 2 1, .frame)]⟩ ⟨[], [.ptr 1 0, .ptr 2 0], [some (enc .pool p), some (enc .pool t2)]⟩)) (fun p1 t2 => loopN (fun σ K => execL (tbl C16) (L16 N) Bf16_L6 σ K) mf16_L6 xf16_L6 K n (stOf mf16_L6 ⟨[], [.ptr 1 0, .ptr 2 0], [some (enc .pool p1), some (enc .pool t2)]⟩)) p1 t2 := by kernel_rfl
theorem tf16_L6 (N : Nat) (K : Out → St → Option Rs) : ∀ (n : Nat) (p1 : Pm.Pool) (t2 : Pm.Pool), loopN (fun σ K => execL (tbl C16) (L16 N) Bf16_L6 σ K) mf16_L6 xf16_L6 K n (stOf mf16_L6 ⟨[], [.ptr 1 0, .ptr 2 0], [some (enc .pool p1), some (enc .pool t2)]⟩) = f16_L6 N (fun p t2 => K (.exit 1) (stOf ⟨[], [1, 2], [1, 2], [(.cell 1 1, 76)], [(.cell 1 1, .frame), (.cell 2 1, .frame)]⟩ ⟨[], [.ptr 1 0, .ptr 2 0], [some (enc .pool p), some (enc .pool t2)]⟩)) n p1 t2 := by
  intro n
  induction n with
  | zero => intros; rfl
  | succ n ih =>
    intro p1 t2
    rw [tf16_L6_s]
    simp only [f16_L6, ih]
theorem pf16_L6 (N : Nat) : PartOK (tbl C16) (L16 N) (12, true, mf16_L6, xf16_L6, Bf16_L6) := by
  intro s K r h
  have h : ef16_L6 N s K = some r := h
  unfold ef16_L6 at h
  split at h
  case h_2 => cases h
  simp only [Option.bind_eq_some_iff] at h
  obtain ⟨p1', h_p1, t2', h_t2, h⟩ := h
  have h_p1 := decX_ok h_p1
  subst h_p1
  have h_t2 := decX_ok h_t2
  subst h_t2
  exact ⟨N, (tf16_L6 N K N _ _).trans h⟩
theorem q16 : partsF F16 = [(12, true, mf16_L6, xf16_L6, Bf16_L6)] := by kernel_rfl
theorem l16 (N : Nat) : LOKs (tbl C16) (L16 N) F16 := loks q16 (all_cons (pf16_L6 N) all_nil)
theorem b16 (N : Nat) (p : Pm.Pool) : bodyN (tbl C16) (L16 N) F16 [.el .pool, .any, .any] [] [.val (.agg (enc .pool p))] [] = f16 N p (fun o0 o1 o2 => some (.val (.tup [.agg (enc .pool o0), .int .i64 o1, .int .i64 o2]), [])) := by kernel_rfl
def e16 : List PV → List (List AV) → Option (Ck × Rs)
  | [.val (.agg p)], [] => (dec .pool p).map fun p => (.ok, (.val (.tup [.agg (enc .pool (goVictim p).1), .int .i64 (goVictim p).2.1, .int .i64 (goVictim p).2.2]), []))
  | _, _ => none

/- pool.Drop -/
def f19 {R : Type} (N : Nat) (p : Pm.Pool) (id0 : Int) (K : Pm.Pool → Int → Option R) : Option R :=
  let r1 := goPoolV p
  bif !r1 then
    K default 15
  else
    bif goFindC p id0 then
    let r2 := goFind p id0
    bif decide (r2 < 0) then
      K default 18
    else
      bif (decide (0 ≤ r2) && Nat.blt r2.toNat p.frames.length) then
      bif (List.getD p.frames r2.toNat default).dirty then
        K default 23
      else
        bif Nat.ble p.frames.length most then
        bif (decide (0 ≤ r2) && (decide (r2 < W (r2 + 1)) && (decide (W (r2 + 1) ≤ (p.frames.length : Int)) && Nat.ble p.frames.length most))) then
        bif decide (r2 < p.hand) then
          let v3 := ((List.take r2.toNat p.frames ++ List.drop (W (r2 + 1)).toNat p.frames).length : Int)
          bif decide (W (p.hand - 1) ≥ v3) then
            K (Pm.Pool.mk p.size (List.take r2.toNat p.frames ++ List.drop (W (r2 + 1)).toNat p.frames) 0) 0
          else
            K (Pm.Pool.mk p.size (List.take r2.toNat p.frames ++ List.drop (W (r2 + 1)).toNat p.frames) (W (p.hand - 1))) 0
        else
          let v4 := ((List.take r2.toNat p.frames ++ List.drop (W (r2 + 1)).toNat p.frames).length : Int)
          bif decide (p.hand ≥ v4) then
            K (Pm.Pool.mk p.size (List.take r2.toNat p.frames ++ List.drop (W (r2 + 1)).toNat p.frames) 0) 0
          else
            K (Pm.Pool.mk p.size (List.take r2.toNat p.frames ++ List.drop (W (r2 + 1)).toNat p.frames) p.hand) 0
        else none
        else none
      else none
    else none
def A19 : Ann := { w := [28], iw := [], m := [(13, ⟨[], [2, 4], [2, 4], [], [(.cell 2 1, .frame), (.cell 4 1, .nilc)]⟩)], l := [], j := [], c := codes }
noncomputable def F19 : SF := (slimF Try.prog A19 19).getD ⟨0, .nop, []⟩
theorem hF19 : slimF Try.prog A19 19 = some F19 := by kernel_rfl
def C19 : Ents := [(22, e22), (50, e50)]
def L19 (_ : Nat) : LoopT Rs := fun _ _ _ => none
theorem q19 : partsF F19 = [] := by kernel_rfl
theorem l19 (N : Nat) : LOKs (tbl C19) (L19 N) F19 := loks q19 (all_nil)
theorem b19 (N : Nat) (p : Pm.Pool) (id0 : Int) : bodyN (tbl C19) (L19 N) F19 [.el .pool, .any] [] [.val (.agg (enc .pool p)), .val (.int .i64 id0)] [] = f19 N p id0 (fun o0 o1 => some (.val (.tup [.agg (enc .pool o0), .int .i64 o1]), [])) := by kernel_rfl
def e19 : List PV → List (List AV) → Option (Ck × Rs)
  | [.val (.agg p), .val (.int .i64 id0)], [] => (dec .pool p).map fun p => (.ok, (.val (.tup [.agg (enc .pool (goDrop p id0).1), .int .i64 (goDrop p id0).2]), []))
  | _, _ => none

/- pool.Get -/
def f20 {R : Type} (N : Nat) (p : Pm.Pool) (id0 : Int) (K : Pm.Page → Bool → Option R) : Option R :=
  let r1 := goPoolFind p id0
  bif decide (r1 ≥ 0) then
    bif (decide (0 ≤ r1) && Nat.blt r1.toNat p.frames.length) then
    K (List.getD p.frames r1.toNat default).page true
    else none
  else
    K default false
def A20 : Ann := { w := [], iw := [], m := [], l := [], j := [], c := codes }
noncomputable def F20 : SF := (slimF Try.prog A20 20).getD ⟨0, .nop, []⟩
theorem hF20 : slimF Try.prog A20 20 = some F20 := by kernel_rfl
def C20 : Ents := [(21, e21)]
def L20 (_ : Nat) : LoopT Rs := fun _ _ _ => none
theorem q20 : partsF F20 = [] := by kernel_rfl
theorem l20 (N : Nat) : LOKs (tbl C20) (L20 N) F20 := loks q20 (all_nil)
theorem b20 (N : Nat) (p : Pm.Pool) (id0 : Int) : bodyN (tbl C20) (L20 N) F20 [.el .page, .any] [] [.val (.agg (enc .pool p)), .val (.int .i64 id0)] [] = f20 N p id0 (fun o0 o1 => some (.val (.tup [.agg (enc .page o0), .bool o1]), [])) := by kernel_rfl
def e20 : List PV → List (List AV) → Option (Ck × Rs)
  | [.val (.agg p), .val (.int .i64 id0)], [] => (dec .pool p).map fun p => (.ok, (.val (.tup [.agg (enc .page (goGet p id0).1), .bool (goGet p id0).2]), []))
  | _, _ => none

/- pagemendref10.Same -/
def f18_L4_s {R : Type} (N : Nat) (k0 : Bool → Option R) (k1 : Option R) (rec : Int → Pm.Pool → Pm.Pool → Option R) (i : Int) (a1 : Pm.Pool) (b1 : Pm.Pool) : Option R :=
  bif decide (i < (a1.frames.length : Int)) then
    bif (decide (0 ≤ i) && Nat.blt i.toNat a1.frames.length) then
    bif (decide (0 ≤ i) && Nat.blt i.toNat b1.frames.length) then
    bif !(decide ((List.getD a1.frames i.toNat default) = (List.getD b1.frames i.toNat default))) then
      k0 false
    else
      rec (W (i + 1)) a1 b1
    else none
    else none
  else
    k1
def f18_L4 {R : Type} (N : Nat) (k0 : Bool → Option R) (k1 : Option R) : Nat → Int → Pm.Pool → Pm.Pool → Option R
  | 0, _, _, _ => none
  | n + 1, i, a1, b1 => f18_L4_s N k0 k1 (f18_L4 N k0 k1 n) i a1 b1
def f18 {R : Type} (N : Nat) (a : Pm.Pool) (b : Pm.Pool) (K : Bool → Option R) : Option R :=
  bif !(a.size != b.size) then
    bif !(a.hand != b.hand) then
      bif ((a.frames.length : Int) != (b.frames.length : Int)) then
        K false
      else
        f18_L4 N
          (fun t4 =>
            K t4)
          (
            K true)
          N 0 a b
    else
      K false
  else
    K false
def mf18_L4 : Mark := ⟨[5], [2, 3], [2, 3], [], [(.cell 2 1, .frame), (.cell 3 1, .frame)]⟩
def xf18_L4 : List (Nat × Mark) := [(1, ⟨[4], [], [], [], []⟩), (2, ⟨[], [], [], [], []⟩)]
def A18 : Ann := { w := [], iw := [], m := [], l := [(4, (mf18_L4, xf18_L4))], j := [], c := codes }
noncomputable def F18 : SF := (slimF Try.prog A18 18).getD ⟨0, .nop, []⟩
theorem hF18 : slimF Try.prog A18 18 = some F18 := by kernel_rfl
def C18 : Ents := []
noncomputable def Bf18_L4 : SC := subOf 8 (partsF F18)
def ef18_L4 (N : Nat) (s : Snap) (K : Out → St → Option Rs) : Option Rs :=
  match s with
  | ⟨[.int .i64 i], [.ptr 2 0, .ptr 3 0], [some a1, some b1]⟩ => (decX .pool a1).bind fun a1 => (decX .pool b1).bind fun b1 => f18_L4 N (fun t4 => K .ret (stOf ⟨[4], [], [], [], []⟩ ⟨[.bool t4], [], []⟩)) (K (.exit 0) (stOf ⟨[], [], [], [], []⟩ ⟨[], [], []⟩)) N i a1 b1
  | _ => none
def L18 (N : Nat) : LoopT Rs := fun id s K => bif Nat.beq id 8 then ef18_L4 N s K else none
theorem tf18_L4_s (N n : Nat) (K : Out → St → Option Rs) (i : Int) (a1 : Pm.Pool) (b1 : Pm.Pool) : loopN (fun σ K => execL (tbl C18) (L18 N) Bf18_L4 σ K) mf18_L4 xf18_L4 K (n + 1) (stOf mf18_L4 ⟨[.int .i64 i], [.ptr 2 0, .ptr 3 0], [some (enc .pool a1), some (enc .pool b1)]⟩) = f18_L4_s N (fun t4 => K .ret (stOf ⟨[4], [], [], [], []⟩ ⟨[.bool t4], [], []⟩)) (K (.exit 0) (stOf ⟨[], [], [], [], []⟩ ⟨[], [], []⟩)) (fun i a1 b1 => loopN (fun σ K => execL (tbl C18) (L18 N) Bf18_L4 σ K) mf18_L4 xf18_L4 K n (stOf mf18_L4 ⟨[.int .i64 i], [.ptr 2 0, .ptr 3 0], [some (enc .pool a1), some (enc .pool b1)]⟩)) i a1 b1 := by kernel_rfl
theorem tf18_L4 (N : Nat) (K : Out → St → Option Rs) : ∀ (n : Nat) (i : Int) (a1 : Pm.Pool) (b1 : Pm.Pool), loopN (fun σ K => execL (tbl C18) (L18 N) Bf18_L4 σ K) mf18_L4 xf18_L4 K n (stOf mf18_L4 ⟨[.int .i64 i], [.ptr 2 0, .ptr 3 0], [some (enc .pool a1), some (enc .pool b1)]⟩) = f18_L4 N (fun t4 => K .ret (stOf ⟨[4], [], [], [], []⟩ ⟨[.bool t4], [], []⟩)) (K (.exit 0) (stOf ⟨[], [], [], [], []⟩ ⟨[], [], []⟩)) n i a1 b1 := by
  intro n
  induction n with
  | zero => intros; rfl
  | succ n ih =>
    intro i a1 b1
    rw [tf18_L4_s]
    simp only [f18_L4, ih]
theorem pf18_L4 (N : Nat) : PartOK (tbl C18) (L18 N) (8, true, mf18_L4, xf18_L4, Bf18_L4) := by
  intro s K r h
  have h : ef18_L4 N s K = some r := h
  unfold ef18_L4 at h
  split at h
  case h_2 => cases h
  simp only [Option.bind_eq_some_iff] at h
  obtain ⟨a1', h_a1, b1', h_b1, h⟩ := h
  have h_a1 := decX_ok h_a1
  subst h_a1
  have h_b1 := decX_ok h_b1
  subst h_b1
  exact ⟨N, (tf18_L4 N K N _ _ _).trans h⟩
theorem q18 : partsF F18 = [(8, true, mf18_L4, xf18_L4, Bf18_L4)] := by kernel_rfl
theorem l18 (N : Nat) : LOKs (tbl C18) (L18 N) F18 := loks q18 (all_cons (pf18_L4 N) all_nil)
theorem b18 (N : Nat) (a : Pm.Pool) (b : Pm.Pool) : bodyN (tbl C18) (L18 N) F18 [.any] [] [.val (.agg (enc .pool a)), .val (.agg (enc .pool b))] [] = f18 N a b (fun o0 => some (.val (.bool o0), [])) := by kernel_rfl
def e18 : List PV → List (List AV) → Option (Ck × Rs)
  | [.val (.agg a), .val (.agg b)], [] => (dec .pool a).bind fun a => (dec .pool b).map fun b => (.chk (goSameC a b), (.val (.bool (goSame a b)), []))
  | _, _ => none

/- pagemendlaw10.awake -/
def f13 {R : Type} (N : Nat) (K : Bool → Option R) : Option R :=
  let r1 := goPoolNew 2
  let r2 := goPoolPut r1.1 (Pm.Page.mk 1 0 default)
  let r3 := goPoolPut r2.1 (Pm.Page.mk 2 0 default)
  let r4 := goVictim r3.1
  bif (r1.2 == 0) then
    bif (r2.2 == 0) then
      bif (r3.2 == 0) then
        bif (r4.2.2 == 0) then
          bif (r4.2.1 == 1) then
            bif ((r4.1.frames.length : Int) == 2) then
              bif Nat.blt 0 r4.1.frames.length then
              bif !(List.getD r4.1.frames 0 default).used then
                bif Nat.blt 1 r4.1.frames.length then
                K (!(List.getD r4.1.frames 1 default).used)
                else none
              else
                K false
              else none
            else
              K false
          else
            K false
        else
          K false
      else
        K false
    else
      K false
  else
    K false
def A13 : Ann := { w := [], iw := [], m := [], l := [], j := [], c := codes }
noncomputable def F13 : SF := (slimF Try.prog A13 13).getD ⟨0, .nop, []⟩
theorem hF13 : slimF Try.prog A13 13 = some F13 := by kernel_rfl
def C13 : Ents := [(14, e14), (15, e15), (16, e16)]
def L13 (_ : Nat) : LoopT Rs := fun _ _ _ => none
theorem q13 : partsF F13 = [] := by kernel_rfl
theorem l13 (N : Nat) : LOKs (tbl C13) (L13 N) F13 := loks q13 (all_nil)
theorem b13 (N : Nat) : bodyN (tbl C13) (L13 N) F13 [.any] [] [] [] = f13 N  (fun o0 => some (.val (.bool o0), [])) := by kernel_rfl
def e13 : List PV → List (List AV) → Option (Ck × Rs)
  | [], [] => some (.ok, (.val (.bool (goAwake10)), []))
  | _, _ => none

/- pagemendlaw10.PoolLimits -/
def f5_L6_s {R : Type} (N : Nat) (k0 : Bool → Option R) (k1 : Int → Int → Int → Pm.Pool → Option R) (rec : Int → Int → Int → Int → Pm.Pool → Option R) (drop1 : Int) (n0 : Int) (e : Int) (i : Int) (p : Pm.Pool) : Option R :=
  bif decide (i < n0) then
    let r3 := goPoolPut p (Pm.Page.mk i 0 default)
    bif (r3.2 != 0) then
      k0 false
    else
      rec drop1 n0 e (W (i + 1)) r3.1
  else
    k1 drop1 n0 e p
def f5_L6 {R : Type} (N : Nat) (k0 : Bool → Option R) (k1 : Int → Int → Int → Pm.Pool → Option R) : Nat → Int → Int → Int → Int → Pm.Pool → Option R
  | 0, _, _, _, _, _ => none
  | n + 1, drop1, n0, e, i, p => f5_L6_s N k0 k1 (f5_L6 N k0 k1 n) drop1 n0 e i p
def f5 {R : Type} (N : Nat) (size : Int) (drop : Int) (K : Bool → Option R) : Option R :=
  let r1 := goAwake10
  bif !r1 then
    K false
  else
    let r2 := goPoolNew (W (1 + (Int.tmod (W size) 10)))
    f5_L6 N
      (fun t4 =>
        K t4)
      (fun drop1 n0 e p =>
        bif !(decide (n0 = 0)) then
        let r4 := goPoolPut p (Pm.Page.mk n0 0 default)
        let r5 := goPoolPut p (Pm.Page.mk (Int.tmod (W drop1) n0) 0 default)
        let r6 := goDrop p (Int.tmod (W drop1) n0)
        let r7 := goGet r6.1 (Int.tmod (W drop1) n0)
        let r8 := goPoolPut r6.1 (Pm.Page.mk n0 0 default)
        let r9 := goDrop r6.1 (Int.tmod (W drop1) n0)
        bif (e == 0) then
          bif (r4.2 == 21) then
            bif (r5.2 == 25) then
              bif (r6.2 == 0) then
                bif !r7.2 then
                  bif (r8.2 == 0) then
                    bif ((r8.1.frames.length : Int) == n0) then
                      let r10 := goPoolFind r8.1 n0
                      bif (r10 == W (n0 - 1)) then
                        bif (r9.2 == 18) then
                          let r11 := goPoolV r8.1
                          K r11
                        else
                          K false
                      else
                        K false
                    else
                      K false
                  else
                    K false
                else
                  K false
              else
                K false
            else
              K false
          else
            K false
        else
          K false
        else none)
      N drop (W (1 + (Int.tmod (W size) 10))) r2.2 0 r2.1
def mf5_L6 : Mark := ⟨[1, 5, 7, 8], [6], [6], [], [(.cell 6 1, .frame)]⟩
def xf5_L6 : List (Nat × Mark) := [(1, ⟨[4], [], [], [], []⟩), (2, ⟨[1, 5, 7], [6], [6], [], [(.cell 6 1, .frame)]⟩)]
def A5 : Ann := { w := [], iw := [], m := [], l := [(6, (mf5_L6, xf5_L6))], j := [], c := codes }
noncomputable def F5 : SF := (slimF Try.prog A5 5).getD ⟨0, .nop, []⟩
theorem hF5 : slimF Try.prog A5 5 = some F5 := by kernel_rfl
def C5 : Ents := [(13, e13), (14, e14), (15, e15), (19, e19), (20, e20), (21, e21), (22, e22)]
noncomputable def Bf5_L6 : SC := subOf 12 (partsF F5)
def ef5_L6 (N : Nat) (s : Snap) (K : Out → St → Option Rs) : Option Rs :=
  match s with
  | ⟨[.int .u8 drop1, .int .i64 n0, .int .i64 e, .int .i64 i], [.ptr 6 0], [some p]⟩ => (decX .pool p).bind fun p => f5_L6 N (fun t4 => K .ret (stOf ⟨[4], [], [], [], []⟩ ⟨[.bool t4], [], []⟩)) (fun drop n0 e p => K (.exit 0) (stOf ⟨[1, 5, 7], [6], [6], [], [(.cell 6 1, .frame)]⟩ ⟨[.int .u8 drop, .int .i64 n0, .int .i64 e], [.ptr 6 0], [some (enc .pool p)]⟩)) N drop1 n0 e i p
  | _ => none
def L5 (N : Nat) : LoopT Rs := fun id s K => bif Nat.beq id 12 then ef5_L6 N s K else none
theorem tf5_L6_s (N n : Nat) (K : Out → St → Option Rs) (drop1 : Int) (n0 : Int) (e : Int) (i : Int) (p : Pm.Pool) : loopN (fun σ K => execL (tbl C5) (L5 N) Bf5_L6 σ K) mf5_L6 xf5_L6 K (n + 1) (stOf mf5_L6 ⟨[.int .u8 drop1, .int .i64 n0, .int .i64 e, .int .i64 i], [.ptr 6 0], [some (enc .pool p)]⟩) = f5_L6_s N (fun t4 => K .ret (stOf ⟨[4], [], [], [], []⟩ ⟨[.bool t4], [], []⟩)) (fun drop n0 e p => K (.exit 0) (stOf ⟨[1, 5, 7], [6], [6], [], [(.cell 6 1, .frame)]⟩ ⟨[.int .u8 drop, .int .i64 n0, .int .i64 e], [.ptr 6 0], [some (enc .pool p)]⟩)) (fun drop1 n0 e i p => loopN (fun σ K => execL (tbl C5) (L5 N) Bf5_L6 σ K) mf5_L6 xf5_L6 K n (stOf mf5_L6 ⟨[.int .u8 drop1, .int .i64 n0, .int .i64 e, .int .i64 i], [.ptr 6 0], [some (enc .pool p)]⟩)) drop1 n0 e i p := by kernel_rfl
theorem tf5_L6 (N : Nat) (K : Out → St → Option Rs) : ∀ (n : Nat) (drop1 : Int) (n0 : Int) (e : Int) (i : Int) (p : Pm.Pool), loopN (fun σ K => execL (tbl C5) (L5 N) Bf5_L6 σ K) mf5_L6 xf5_L6 K n (stOf mf5_L6 ⟨[.int .u8 drop1, .int .i64 n0, .int .i64 e, .int .i64 i], [.ptr 6 0], [some (enc .pool p)]⟩) = f5_L6 N (fun t4 => K .ret (stOf ⟨[4], [], [], [], []⟩ ⟨[.bool t4], [], []⟩)) (fun drop n0 e p => K (.exit 0) (stOf ⟨[1, 5, 7], [6], [6], [], [(.cell 6 1, .frame)]⟩ ⟨[.int .u8 drop, .int .i64 n0, .int .i64 e], [.ptr 6 0], [some (enc .pool p)]⟩)) n drop1 n0 e i p := by
  intro n
  induction n with
  | zero => intros; rfl
  | succ n ih =>
    intro drop1 n0 e i p
    rw [tf5_L6_s]
    simp only [f5_L6, ih]
theorem pf5_L6 (N : Nat) : PartOK (tbl C5) (L5 N) (12, true, mf5_L6, xf5_L6, Bf5_L6) := by
  intro s K r h
  have h : ef5_L6 N s K = some r := h
  unfold ef5_L6 at h
  split at h
  case h_2 => cases h
  simp only [Option.bind_eq_some_iff] at h
  obtain ⟨p', h_p, h⟩ := h
  have h_p := decX_ok h_p
  subst h_p
  exact ⟨N, (tf5_L6 N K N _ _ _ _ _).trans h⟩
theorem q5 : partsF F5 = [(12, true, mf5_L6, xf5_L6, Bf5_L6)] := by kernel_rfl
theorem l5 (N : Nat) : LOKs (tbl C5) (L5 N) F5 := loks q5 (all_cons (pf5_L6 N) all_nil)
theorem b5 (N : Nat) (size : Int) (drop : Int) : bodyN (tbl C5) (L5 N) F5 [.any] [] [.val (.int .u8 size), .val (.int .u8 drop)] [] = f5 N size drop (fun o0 => some (.val (.bool o0), [])) := by kernel_rfl
def e5 : List PV → List (List AV) → Option (Ck × Rs)
  | [.val (.int .u8 size), .val (.int .u8 drop)], [] => some (.chk (goLawPL size drop), (.val (.bool (goTruePL size drop)), []))
  | _, _ => none

def f4_L6_s {R : Type} (N : Nat) (k0 : Bool → Option R) (k1 : List Int → Int → Int → Pm.Pool → Option R) (rec : List Int → Int → Int → Int → Pm.Pool → Option R) (uses1 : List Int) (n0 : Int) (e : Int) (i : Int) (p : Pm.Pool) : Option R :=
  bif decide (i < n0) then
    let r3 := goPoolPut p (Pm.Page.mk i 0 default)
    bif (r3.2 != 0) then
      k0 false
    else
      rec uses1 n0 e (W (i + 1)) r3.1
  else
    k1 uses1 n0 e p
def f4_L6 {R : Type} (N : Nat) (k0 : Bool → Option R) (k1 : List Int → Int → Int → Pm.Pool → Option R) : Nat → List Int → Int → Int → Int → Pm.Pool → Option R
  | 0, _, _, _, _, _ => none
  | n + 1, uses1, n0, e, i, p => f4_L6_s N k0 k1 (f4_L6 N k0 k1 n) uses1 n0 e i p
def f4_L17_s {R : Type} (N : Nat) (k0 : Int → List Bool → Pm.Pool → Option R) (rec : Int → List Bool → List Int → Int → Int → Pm.Pool → Option R) (n0 : Int) (marked : List Bool) (t75 : List Int) (t76 : Int) (t77 : Int) (p : Pm.Pool) : Option R :=
  bif decide (t77 < t76) then
    bif (decide (0 ≤ t77) && Nat.blt t77.toNat t75.length) then
    bif !(decide (n0 = 0)) then
    bif (decide (0 ≤ Int.tmod (W (List.getD t75 t77.toNat default)) n0) && Nat.blt (Int.tmod (W (List.getD t75 t77.toNat default)) n0).toNat marked.length) then
    bif Nat.blt (Int.tmod (W (List.getD t75 t77.toNat default)) n0).toNat marked.length then
    bif !(decide (n0 = 0)) then
    let r5 := goUse p (Int.tmod (W (List.getD t75 t77.toNat default)) n0)
    rec n0 (List.set marked (Int.tmod (W (List.getD t75 t77.toNat default)) n0).toNat true) t75 t76 (W (t77 + 1)) r5
    else none
    else none
    else none
    else none
    else none
  else
    k0 n0 marked p
def f4_L17 {R : Type} (N : Nat) (k0 : Int → List Bool → Pm.Pool → Option R) : Nat → Int → List Bool → List Int → Int → Int → Pm.Pool → Option R
  | 0, _, _, _, _, _, _ => none
  | n + 1, n0, marked, t75, t76, t77, p => f4_L17_s N k0 (f4_L17 N k0 n) n0 marked t75 t76 t77 p
def f4_L25_s {R : Type} (N : Nat) (k0 : Int → Int → Int → List Bool → Bool → Pm.Pool → Option R) (rec : Int → Int → Int → List Bool → Bool → Int → Pm.Pool → Option R) (n0 : Int) (id0 : Int) (f : Int) (marked : List Bool) (all : Bool) (i : Int) (q : Pm.Pool) : Option R :=
  bif decide (i < n0) then
    bif all then
      bif (decide (0 ≤ i) && Nat.blt i.toNat marked.length) then
      rec n0 id0 f marked (List.getD marked i.toNat default) (W (i + 1)) q
      else none
    else
      rec n0 id0 f marked false (W (i + 1)) q
  else
    k0 n0 id0 f marked all q
def f4_L25 {R : Type} (N : Nat) (k0 : Int → Int → Int → List Bool → Bool → Pm.Pool → Option R) : Nat → Int → Int → Int → List Bool → Bool → Int → Pm.Pool → Option R
  | 0, _, _, _, _, _, _, _ => none
  | n + 1, n0, id0, f, marked, all, i, q => f4_L25_s N k0 (f4_L25 N k0 n) n0 id0 f marked all i q
def f4_L31_s {R : Type} (N : Nat) (k0 : Bool → Option R) (k1 : Int → Pm.Pool → Option R) (rec : Int → List Bool → Int → Pm.Pool → Option R) (id0 : Int) (marked : List Bool) (i : Int) (q : Pm.Pool) : Option R :=
  bif decide (i < id0) then
    bif (decide (0 ≤ i) && Nat.blt i.toNat marked.length) then
    bif !(List.getD marked i.toNat default) then
      k0 false
    else
      rec id0 marked (W (i + 1)) q
    else none
  else
    k1 id0 q
def f4_L31 {R : Type} (N : Nat) (k0 : Bool → Option R) (k1 : Int → Pm.Pool → Option R) : Nat → Int → List Bool → Int → Pm.Pool → Option R
  | 0, _, _, _, _ => none
  | n + 1, id0, marked, i, q => f4_L31_s N k0 k1 (f4_L31 N k0 k1 n) id0 marked i q
def f4 {R : Type} (N : Nat) (size : Int) (uses : List Int) (K : Bool → Option R) : Option R :=
  let r1 := goAwake10
  bif !(!r1) then
    bif decide ((uses.length : Int) > 60) then
      K (decide ((uses.length : Int) > 60))
    else
      let r2 := goPoolNew (W (2 + (Int.tmod (W size) 8)))
      f4_L6 N
        (fun t4 =>
          K t4)
        (fun uses1 n0 e p =>
          let r4 := goVictim p
          bif !(e != 0) then
            bif !(r4.2.2 != 0) then
              bif (r4.2.1 != 0) then
                K false
              else
                bif (decide (0 ≤ n0) && (decide (n0 ≤ n0) && decide (n0 ≤ (most : Int)))) then
                f4_L17 N
                  (fun n01 marked p1 =>
                    let r6 := goVictim p1
                    f4_L25 N
                      (fun n02 id0 f marked1 all q =>
                        bif !(f != 0) then
                          bif !(decide (id0 < 0)) then
                            bif !(decide (id0 ≥ n02)) then
                              bif !all then
                                bif (decide (0 ≤ id0) && Nat.blt id0.toNat marked1.length) then
                                bif !(List.getD marked1 id0.toNat default) then
                                  bif all then
                                    bif (id0 != 0) then
                                      K false
                                    else
                                      f4_L31 N
                                        (fun t41 =>
                                          K t41)
                                        (fun id01 q1 =>
                                          let r7 := goVictim q1
                                          bif (r7.2.2 == 0) then
                                            bif (r7.2.1 == id01) then
                                              bif goSameC q1 r7.1 then
                                              let r8 := goSame q1 r7.1
                                              K r8
                                              else none
                                            else
                                              K false
                                          else
                                            K false)
                                        N id0 marked1 0 q
                                  else
                                    f4_L31 N
                                      (fun t42 =>
                                        K t42)
                                      (fun id02 q2 =>
                                        let r9 := goVictim q2
                                        bif (r9.2.2 == 0) then
                                          bif (r9.2.1 == id02) then
                                            bif goSameC q2 r9.1 then
                                            let r10 := goSame q2 r9.1
                                            K r10
                                            else none
                                          else
                                            K false
                                        else
                                          K false)
                                      N id0 marked1 0 q
                                else
                                  K false
                                else none
                              else
                                bif all then
                                  bif (id0 != 0) then
                                    K false
                                  else
                                    f4_L31 N
                                      (fun t43 =>
                                        K t43)
                                      (fun id03 q3 =>
                                        let r11 := goVictim q3
                                        bif (r11.2.2 == 0) then
                                          bif (r11.2.1 == id03) then
                                            bif goSameC q3 r11.1 then
                                            let r12 := goSame q3 r11.1
                                            K r12
                                            else none
                                          else
                                            K false
                                        else
                                          K false)
                                      N id0 marked1 0 q
                                else
                                  f4_L31 N
                                    (fun t44 =>
                                      K t44)
                                    (fun id04 q4 =>
                                      let r13 := goVictim q4
                                      bif (r13.2.2 == 0) then
                                        bif (r13.2.1 == id04) then
                                          bif goSameC q4 r13.1 then
                                          let r14 := goSame q4 r13.1
                                          K r14
                                          else none
                                        else
                                          K false
                                      else
                                        K false)
                                    N id0 marked1 0 q
                            else
                              K false
                          else
                            K false
                        else
                          K false)
                      N n01 r6.2.1 r6.2.2 marked true 0 r6.1)
                  N n0 (List.replicate n0.toNat false) uses1 (uses1.length : Int) 0 r4.1
                else none
            else
              K false
          else
            K false)
        N uses (W (2 + (Int.tmod (W size) 8))) r2.2 0 r2.1
  else
    K (decide ((uses.length : Int) > 60))
def mf4_L6 : Mark := ⟨[1, 5, 7, 8], [6], [6], [], [(.cell 6 1, .frame), (.tmp 1, .u8)]⟩
def xf4_L6 : List (Nat × Mark) := [(1, ⟨[4], [], [], [], []⟩), (2, ⟨[1, 5, 7], [6], [6], [], [(.cell 6 1, .frame), (.tmp 1, .u8)]⟩)]
def mf4_L17 : Mark := ⟨[5, 13, 75, 76, 77], [6], [6], [(.tmp 13, 4)], [(.cell 6 1, .frame), (.tmp 13, .bool), (.tmp 75, .u8)]⟩
def xf4_L17 : List (Nat × Mark) := [(4, ⟨[5, 13], [6], [6], [(.tmp 13, 4)], [(.cell 6 1, .frame), (.tmp 13, .bool)]⟩)]
def mf4_L25 : Mark := ⟨[5, 11, 12, 13, 17, 18], [16], [16], [(.tmp 13, 4)], [(.cell 16 1, .frame), (.tmp 13, .bool)]⟩
def xf4_L25 : List (Nat × Mark) := [(6, ⟨[5, 11, 12, 13, 17], [16], [16], [(.tmp 13, 4)], [(.cell 16 1, .frame), (.tmp 13, .bool)]⟩)]
def mf4_L31 : Mark := ⟨[11, 13, 19], [16], [16], [(.tmp 13, 4)], [(.cell 16 1, .frame), (.tmp 13, .bool)]⟩
def xf4_L31 : List (Nat × Mark) := [(1, ⟨[4], [], [], [], []⟩), (8, ⟨[11], [16], [16], [], [(.cell 16 1, .frame)]⟩)]
def A4 : Ann := { w := [74], iw := [86], m := [], l := [(6, (mf4_L6, xf4_L6)), (17, (mf4_L17, xf4_L17)), (25, (mf4_L25, xf4_L25)), (31, (mf4_L31, xf4_L31))], j := [], c := codes }
noncomputable def F4 : SF := (slimF Try.prog A4 4).getD ⟨0, .nop, []⟩
theorem hF4 : slimF Try.prog A4 4 = some F4 := by kernel_rfl
def C4 : Ents := [(13, e13), (14, e14), (15, e15), (16, e16), (17, e17), (18, e18)]
noncomputable def Bf4_L6 : SC := subOf 12 (partsF F4)
noncomputable def Bf4_L17 : SC := subOf 34 (partsF F4)
noncomputable def Bf4_L25 : SC := subOf 50 (partsF F4)
noncomputable def Bf4_L31 : SC := subOf 62 (partsF F4)
def ef4_L6 (N : Nat) (s : Snap) (K : Out → St → Option Rs) : Option Rs :=
  match s with
  | ⟨[.sl false .u8 uses1, .int .i64 n0, .int .i64 e, .int .i64 i], [.ptr 6 0], [some p]⟩ => (decX .pool p).bind fun p => f4_L6 N (fun t4 => K .ret (stOf ⟨[4], [], [], [], []⟩ ⟨[.bool t4], [], []⟩)) (fun uses n0 e p => K (.exit 0) (stOf ⟨[1, 5, 7], [6], [6], [], [(.cell 6 1, .frame), (.tmp 1, .u8)]⟩ ⟨[.sl false .u8 uses, .int .i64 n0, .int .i64 e], [.ptr 6 0], [some (enc .pool p)]⟩)) N uses1 n0 e i p
  | _ => none
def ef4_L17 (N : Nat) (s : Snap) (K : Out → St → Option Rs) : Option Rs :=
  match s with
  | ⟨[.int .i64 n0, .sl false .bool marked, .sl false .u8 t75, .int .i64 t76, .int .i64 t77], [.ptr 6 0], [some p]⟩ => (decX .pool p).bind fun p => f4_L17 N (fun n0 marked p => K (.exit 2) (stOf ⟨[5, 13], [6], [6], [(.tmp 13, 4)], [(.cell 6 1, .frame), (.tmp 13, .bool)]⟩ ⟨[.int .i64 n0, .sl false .bool marked], [.ptr 6 0], [some (enc .pool p)]⟩)) N n0 marked t75 t76 t77 p
  | _ => none
def ef4_L25 (N : Nat) (s : Snap) (K : Out → St → Option Rs) : Option Rs :=
  match s with
  | ⟨[.int .i64 n0, .int .i64 id0, .int .i64 f, .sl false .bool marked, .bool all, .int .i64 i], [.ptr 16 0], [some q]⟩ => (decX .pool q).bind fun q => f4_L25 N (fun n0 id0 f marked all q => K (.exit 4) (stOf ⟨[5, 11, 12, 13, 17], [16], [16], [(.tmp 13, 4)], [(.cell 16 1, .frame), (.tmp 13, .bool)]⟩ ⟨[.int .i64 n0, .int .i64 id0, .int .i64 f, .sl false .bool marked, .bool all], [.ptr 16 0], [some (enc .pool q)]⟩)) N n0 id0 f marked all i q
  | _ => none
def ef4_L31 (N : Nat) (s : Snap) (K : Out → St → Option Rs) : Option Rs :=
  match s with
  | ⟨[.int .i64 id0, .sl false .bool marked, .int .i64 i], [.ptr 16 0], [some q]⟩ => (decX .pool q).bind fun q => f4_L31 N (fun t4 => K .ret (stOf ⟨[4], [], [], [], []⟩ ⟨[.bool t4], [], []⟩)) (fun id0 q => K (.exit 6) (stOf ⟨[11], [16], [16], [], [(.cell 16 1, .frame)]⟩ ⟨[.int .i64 id0], [.ptr 16 0], [some (enc .pool q)]⟩)) N id0 marked i q
  | _ => none
def L4 (N : Nat) : LoopT Rs := fun id s K => bif Nat.beq id 12 then ef4_L6 N s K else bif Nat.beq id 34 then ef4_L17 N s K else bif Nat.beq id 50 then ef4_L25 N s K else bif Nat.beq id 62 then ef4_L31 N s K else none
theorem tf4_L6_s (N n : Nat) (K : Out → St → Option Rs) (uses1 : List Int) (n0 : Int) (e : Int) (i : Int) (p : Pm.Pool) : loopN (fun σ K => execL (tbl C4) (L4 N) Bf4_L6 σ K) mf4_L6 xf4_L6 K (n + 1) (stOf mf4_L6 ⟨[.sl false .u8 uses1, .int .i64 n0, .int .i64 e, .int .i64 i], [.ptr 6 0], [some (enc .pool p)]⟩) = f4_L6_s N (fun t4 => K .ret (stOf ⟨[4], [], [], [], []⟩ ⟨[.bool t4], [], []⟩)) (fun uses n0 e p => K (.exit 0) (stOf ⟨[1, 5, 7], [6], [6], [], [(.cell 6 1, .frame), (.tmp 1, .u8)]⟩ ⟨[.sl false .u8 uses, .int .i64 n0, .int .i64 e], [.ptr 6 0], [some (enc .pool p)]⟩)) (fun uses1 n0 e i p => loopN (fun σ K => execL (tbl C4) (L4 N) Bf4_L6 σ K) mf4_L6 xf4_L6 K n (stOf mf4_L6 ⟨[.sl false .u8 uses1, .int .i64 n0, .int .i64 e, .int .i64 i], [.ptr 6 0], [some (enc .pool p)]⟩)) uses1 n0 e i p := by kernel_rfl
theorem tf4_L6 (N : Nat) (K : Out → St → Option Rs) : ∀ (n : Nat) (uses1 : List Int) (n0 : Int) (e : Int) (i : Int) (p : Pm.Pool), loopN (fun σ K => execL (tbl C4) (L4 N) Bf4_L6 σ K) mf4_L6 xf4_L6 K n (stOf mf4_L6 ⟨[.sl false .u8 uses1, .int .i64 n0, .int .i64 e, .int .i64 i], [.ptr 6 0], [some (enc .pool p)]⟩) = f4_L6 N (fun t4 => K .ret (stOf ⟨[4], [], [], [], []⟩ ⟨[.bool t4], [], []⟩)) (fun uses n0 e p => K (.exit 0) (stOf ⟨[1, 5, 7], [6], [6], [], [(.cell 6 1, .frame), (.tmp 1, .u8)]⟩ ⟨[.sl false .u8 uses, .int .i64 n0, .int .i64 e], [.ptr 6 0], [some (enc .pool p)]⟩)) n uses1 n0 e i p := by
  intro n
  induction n with
  | zero => intros; rfl
  | succ n ih =>
    intro uses1 n0 e i p
    rw [tf4_L6_s]
    simp only [f4_L6, ih]
theorem pf4_L6 (N : Nat) : PartOK (tbl C4) (L4 N) (12, true, mf4_L6, xf4_L6, Bf4_L6) := by
  intro s K r h
  have h : ef4_L6 N s K = some r := h
  unfold ef4_L6 at h
  split at h
  case h_2 => cases h
  simp only [Option.bind_eq_some_iff] at h
  obtain ⟨p', h_p, h⟩ := h
  have h_p := decX_ok h_p
  subst h_p
  exact ⟨N, (tf4_L6 N K N _ _ _ _ _).trans h⟩
theorem tf4_L17_s (N n : Nat) (K : Out → St → Option Rs) (n0 : Int) (marked : List Bool) (t75 : List Int) (t76 : Int) (t77 : Int) (p : Pm.Pool) : loopN (fun σ K => execL (tbl C4) (L4 N) Bf4_L17 σ K) mf4_L17 xf4_L17 K (n + 1) (stOf mf4_L17 ⟨[.int .i64 n0, .sl false .bool marked, .sl false .u8 t75, .int .i64 t76, .int .i64 t77], [.ptr 6 0], [some (enc .pool p)]⟩) = f4_L17_s N (fun n0 marked p => K (.exit 2) (stOf ⟨[5, 13], [6], [6], [(.tmp 13, 4)], [(.cell 6 1, .frame), (.tmp 13, .bool)]⟩ ⟨[.int .i64 n0, .sl false .bool marked], [.ptr 6 0], [some (enc .pool p)]⟩)) (fun n0 marked t75 t76 t77 p => loopN (fun σ K => execL (tbl C4) (L4 N) Bf4_L17 σ K) mf4_L17 xf4_L17 K n (stOf mf4_L17 ⟨[.int .i64 n0, .sl false .bool marked, .sl false .u8 t75, .int .i64 t76, .int .i64 t77], [.ptr 6 0], [some (enc .pool p)]⟩)) n0 marked t75 t76 t77 p := by kernel_rfl
theorem tf4_L17 (N : Nat) (K : Out → St → Option Rs) : ∀ (n : Nat) (n0 : Int) (marked : List Bool) (t75 : List Int) (t76 : Int) (t77 : Int) (p : Pm.Pool), loopN (fun σ K => execL (tbl C4) (L4 N) Bf4_L17 σ K) mf4_L17 xf4_L17 K n (stOf mf4_L17 ⟨[.int .i64 n0, .sl false .bool marked, .sl false .u8 t75, .int .i64 t76, .int .i64 t77], [.ptr 6 0], [some (enc .pool p)]⟩) = f4_L17 N (fun n0 marked p => K (.exit 2) (stOf ⟨[5, 13], [6], [6], [(.tmp 13, 4)], [(.cell 6 1, .frame), (.tmp 13, .bool)]⟩ ⟨[.int .i64 n0, .sl false .bool marked], [.ptr 6 0], [some (enc .pool p)]⟩)) n n0 marked t75 t76 t77 p := by
  intro n
  induction n with
  | zero => intros; rfl
  | succ n ih =>
    intro n0 marked t75 t76 t77 p
    rw [tf4_L17_s]
    simp only [f4_L17, ih]
theorem pf4_L17 (N : Nat) : PartOK (tbl C4) (L4 N) (34, true, mf4_L17, xf4_L17, Bf4_L17) := by
  intro s K r h
  have h : ef4_L17 N s K = some r := h
  unfold ef4_L17 at h
  split at h
  case h_2 => cases h
  simp only [Option.bind_eq_some_iff] at h
  obtain ⟨p', h_p, h⟩ := h
  have h_p := decX_ok h_p
  subst h_p
  exact ⟨N, (tf4_L17 N K N _ _ _ _ _ _).trans h⟩
theorem tf4_L25_s (N n : Nat) (K : Out → St → Option Rs) (n0 : Int) (id0 : Int) (f : Int) (marked : List Bool) (all : Bool) (i : Int) (q : Pm.Pool) : loopN (fun σ K => execL (tbl C4) (L4 N) Bf4_L25 σ K) mf4_L25 xf4_L25 K (n + 1) (stOf mf4_L25 ⟨[.int .i64 n0, .int .i64 id0, .int .i64 f, .sl false .bool marked, .bool all, .int .i64 i], [.ptr 16 0], [some (enc .pool q)]⟩) = f4_L25_s N (fun n0 id0 f marked all q => K (.exit 4) (stOf ⟨[5, 11, 12, 13, 17], [16], [16], [(.tmp 13, 4)], [(.cell 16 1, .frame), (.tmp 13, .bool)]⟩ ⟨[.int .i64 n0, .int .i64 id0, .int .i64 f, .sl false .bool marked, .bool all], [.ptr 16 0], [some (enc .pool q)]⟩)) (fun n0 id0 f marked all i q => loopN (fun σ K => execL (tbl C4) (L4 N) Bf4_L25 σ K) mf4_L25 xf4_L25 K n (stOf mf4_L25 ⟨[.int .i64 n0, .int .i64 id0, .int .i64 f, .sl false .bool marked, .bool all, .int .i64 i], [.ptr 16 0], [some (enc .pool q)]⟩)) n0 id0 f marked all i q := by kernel_rfl
theorem tf4_L25 (N : Nat) (K : Out → St → Option Rs) : ∀ (n : Nat) (n0 : Int) (id0 : Int) (f : Int) (marked : List Bool) (all : Bool) (i : Int) (q : Pm.Pool), loopN (fun σ K => execL (tbl C4) (L4 N) Bf4_L25 σ K) mf4_L25 xf4_L25 K n (stOf mf4_L25 ⟨[.int .i64 n0, .int .i64 id0, .int .i64 f, .sl false .bool marked, .bool all, .int .i64 i], [.ptr 16 0], [some (enc .pool q)]⟩) = f4_L25 N (fun n0 id0 f marked all q => K (.exit 4) (stOf ⟨[5, 11, 12, 13, 17], [16], [16], [(.tmp 13, 4)], [(.cell 16 1, .frame), (.tmp 13, .bool)]⟩ ⟨[.int .i64 n0, .int .i64 id0, .int .i64 f, .sl false .bool marked, .bool all], [.ptr 16 0], [some (enc .pool q)]⟩)) n n0 id0 f marked all i q := by
  intro n
  induction n with
  | zero => intros; rfl
  | succ n ih =>
    intro n0 id0 f marked all i q
    rw [tf4_L25_s]
    simp only [f4_L25, ih]
theorem pf4_L25 (N : Nat) : PartOK (tbl C4) (L4 N) (50, true, mf4_L25, xf4_L25, Bf4_L25) := by
  intro s K r h
  have h : ef4_L25 N s K = some r := h
  unfold ef4_L25 at h
  split at h
  case h_2 => cases h
  simp only [Option.bind_eq_some_iff] at h
  obtain ⟨q', h_q, h⟩ := h
  have h_q := decX_ok h_q
  subst h_q
  exact ⟨N, (tf4_L25 N K N _ _ _ _ _ _ _).trans h⟩
theorem tf4_L31_s (N n : Nat) (K : Out → St → Option Rs) (id0 : Int) (marked : List Bool) (i : Int) (q : Pm.Pool) : loopN (fun σ K => execL (tbl C4) (L4 N) Bf4_L31 σ K) mf4_L31 xf4_L31 K (n + 1) (stOf mf4_L31 ⟨[.int .i64 id0, .sl false .bool marked, .int .i64 i], [.ptr 16 0], [some (enc .pool q)]⟩) = f4_L31_s N (fun t4 => K .ret (stOf ⟨[4], [], [], [], []⟩ ⟨[.bool t4], [], []⟩)) (fun id0 q => K (.exit 6) (stOf ⟨[11], [16], [16], [], [(.cell 16 1, .frame)]⟩ ⟨[.int .i64 id0], [.ptr 16 0], [some (enc .pool q)]⟩)) (fun id0 marked i q => loopN (fun σ K => execL (tbl C4) (L4 N) Bf4_L31 σ K) mf4_L31 xf4_L31 K n (stOf mf4_L31 ⟨[.int .i64 id0, .sl false .bool marked, .int .i64 i], [.ptr 16 0], [some (enc .pool q)]⟩)) id0 marked i q := by kernel_rfl
theorem tf4_L31 (N : Nat) (K : Out → St → Option Rs) : ∀ (n : Nat) (id0 : Int) (marked : List Bool) (i : Int) (q : Pm.Pool), loopN (fun σ K => execL (tbl C4) (L4 N) Bf4_L31 σ K) mf4_L31 xf4_L31 K n (stOf mf4_L31 ⟨[.int .i64 id0, .sl false .bool marked, .int .i64 i], [.ptr 16 0], [some (enc .pool q)]⟩) = f4_L31 N (fun t4 => K .ret (stOf ⟨[4], [], [], [], []⟩ ⟨[.bool t4], [], []⟩)) (fun id0 q => K (.exit 6) (stOf ⟨[11], [16], [16], [], [(.cell 16 1, .frame)]⟩ ⟨[.int .i64 id0], [.ptr 16 0], [some (enc .pool q)]⟩)) n id0 marked i q := by
  intro n
  induction n with
  | zero => intros; rfl
  | succ n ih =>
    intro id0 marked i q
    rw [tf4_L31_s]
    simp only [f4_L31, ih]
theorem pf4_L31 (N : Nat) : PartOK (tbl C4) (L4 N) (62, true, mf4_L31, xf4_L31, Bf4_L31) := by
  intro s K r h
  have h : ef4_L31 N s K = some r := h
  unfold ef4_L31 at h
  split at h
  case h_2 => cases h
  simp only [Option.bind_eq_some_iff] at h
  obtain ⟨q', h_q, h⟩ := h
  have h_q := decX_ok h_q
  subst h_q
  exact ⟨N, (tf4_L31 N K N _ _ _ _).trans h⟩
theorem q4 : partsF F4 = [(12, true, mf4_L6, xf4_L6, Bf4_L6), (34, true, mf4_L17, xf4_L17, Bf4_L17), (50, true, mf4_L25, xf4_L25, Bf4_L25), (62, true, mf4_L31, xf4_L31, Bf4_L31)] := by kernel_rfl
theorem l4 (N : Nat) : LOKs (tbl C4) (L4 N) F4 := loks q4 (all_cons (pf4_L6 N) (all_cons (pf4_L17 N) (all_cons (pf4_L25 N) (all_cons (pf4_L31 N) all_nil))))
theorem b4 (N : Nat) (size : Int) (uses : List Int) : bodyN (tbl C4) (L4 N) F4 [.any] [] [.val (.int .u8 size), .val (.sl false .u8 uses)] [] = f4 N size uses (fun o0 => some (.val (.bool o0), [])) := by kernel_rfl
def e4 : List PV → List (List AV) → Option (Ck × Rs)
  | [.val (.int .u8 size), .val (.sl _ cuses uses)], [] => (castSl .u8 cuses uses).map fun uses => (.chk (goLawPC size uses), (.val (.bool (goTruePC size uses)), []))
  | _, _ => none

end Go.Ab

namespace Go.Ab
open Go

variable {R : Type}

theorem dfltI : (default : Int) = 0 := rfl
theorem ble_iff {a b : Nat} : Nat.ble a b = true ↔ a ≤ b := by rw [Nat.ble_eq]
theorem blt_iff {a b : Nat} : Nat.blt a b = true ↔ a < b := by simp [Nat.blt_eq]
theorem getD_at {α : Type} {l : List α} {d : α} {i : Nat} (h : i < l.length) : l.getD i d = l[i] := by
  rw [List.getD_eq_getElem?_getD, List.getElem?_eq_getElem h]; rfl
theorem drop_at {α : Type} {l : List α} (d : α) {i : Nat} (h : i < l.length) : l.drop i = l.getD i d :: l.drop (i + 1) := by
  rw [getD_at h]; exact List.drop_eq_getElem_cons h

theorem sp89 {K : Pm.Tab16 → Option R} : f89 big K = K goRem := by kernel_rfl

theorem and15 (x : BitVec (IntKind.bits .u32)) : 0 ≤ W32 ((x &&& BitVec.ofInt (IntKind.bits .u32) 15).toNat : Int) ∧ W32 ((x &&& BitVec.ofInt (IntKind.bits .u32) 15).toNat : Int) < 16 := by
  have h : (x &&& BitVec.ofInt (IntKind.bits .u32) 15).toNat ≤ 15 := by
    rw [BitVec.toNat_and]
    exact Nat.le_trans Nat.and_le_right (by decide)
  rw [W32_id (by omega) (by omega)]
  omega

theorem f74_L4_ok {s : List UInt8} (hm : s.length ≤ 268435456) {N : Nat} {k0 : Int → Option R} : ∀ (m i n : Nat) (r : Int), s.length - i ≤ m → m < n →
    f74_L4 N k0 n s r s.length i goRem = k0 ((s.drop i).foldl (sumStep goRem) r) := by
  intro m
  induction m with
  | zero =>
    intro i n r h1 h2
    obtain ⟨n, rfl⟩ : ∃ n', n = n' + 1 := ⟨n - 1, by omega⟩
    rw [List.drop_of_length_le (by omega)]
    simp only [f74_L4, f74_L4_s, show ¬ ((i : Int) < (s.length : Int)) by omega, decide_false, cond_false, List.foldl_nil]
  | succ m ih =>
    intro i n r h1 h2
    obtain ⟨n, rfl⟩ : ∃ n', n = n' + 1 := ⟨n - 1, by omega⟩
    by_cases hi : i < s.length
    · have e2 : W ((i : Int) + 1) = ((i + 1 : Nat) : Int) := by rw [W_id (by omega) (by omega)]; omega
      rw [drop_at 0 hi]
      simp only [f74_L4, f74_L4_s, show (i : Int) < (s.length : Int) by omega, decide_true, cond_true, Int.toNat_natCast, blt_iff.2 hi, show (0 : Int) ≤ (i : Int) by omega, Bool.true_and, e2, (and15 _).1, (and15 _).2, Bool.and_self, List.foldl_cons]
      exact ih (i + 1) n _ (by omega) (by omega)
    · rw [List.drop_of_length_le (by omega)]
      simp only [f74_L4, f74_L4_s, show ¬ ((i : Int) < (s.length : Int)) by omega, decide_false, cond_false, List.foldl_nil]

theorem sp74 {s : List UInt8} {K : Int → Option R} (hc : goSumC s = true) : f74 big s K = K (goSum s) := by
  have hm : s.length ≤ 268435456 := ble_iff.1 hc
  unfold f74
  exact f74_L4_ok hm s.length 0 big 4294967295 (by omega) (by simp [big]; omega)

theorem sp81 {n : Int} {K : Bool → Option R} : f81 big n K = K (goNamed n) := by
  unfold f81 goNamed
  by_cases h : n ≥ 0
  · simp only [h, decide_true, cond_true, show 0 ≤ n from h, Bool.true_and]
  · simp only [h, decide_false, cond_false, show ¬ 0 ≤ n from h, Bool.false_and]

theorem sp69 {p : Pm.Page} {K : Bool → Option R} : f69 big p K = K (goPlaced p) := by
  unfold f69 goPlaced
  cases goNamed p.id with
  | false => rfl
  | true =>
    by_cases h : p.lsn ≥ 0
    · simp only [h, decide_true, cond_true, show 0 ≤ p.lsn from h, Bool.true_and]
    · simp only [h, decide_false, cond_true, cond_false, show ¬ 0 ≤ p.lsn from h, Bool.false_and, Bool.and_false]

theorem sets_at (x : Pm.Slots) {k : Nat} (hk : k < 16) : x.sets.getD k false = (x.list.getD k default).set := by
  match k, hk with
  | 0, _ | 1, _ | 2, _ | 3, _ | 4, _ | 5, _ | 6, _ | 7, _ | 8, _ | 9, _ | 10, _ | 11, _ | 12, _ | 13, _ | 14, _ | 15, _ => rfl
  | k + 16, h => exact absurd h (by omega)
theorem datas_at (x : Pm.Slots) {k : Nat} (hk : k < 16) : x.datas.getD k [] = (x.list.getD k default).data := by
  match k, hk with
  | 0, _ | 1, _ | 2, _ | 3, _ | 4, _ | 5, _ | 6, _ | 7, _ | 8, _ | 9, _ | 10, _ | 11, _ | 12, _ | 13, _ | 14, _ | 15, _ => rfl
  | k + 16, h => exact absurd h (by omega)

theorem f70_L2_ok {x : Pm.Slots} {p : Pm.Page} {N : Nat} {k0 : Bool → Option R} {k1 : Option R} : ∀ (m i n : Nat), 16 - i ≤ m → m < n →
    f70_L2 N k0 k1 n x i p = bif (x.list.drop i).all (cellOk p.lsn) then k1 else k0 false := by
  have hl : x.list.length = 16 := rfl
  intro m
  induction m with
  | zero =>
    intro i n h1 h2
    obtain ⟨n, rfl⟩ : ∃ n', n = n' + 1 := ⟨n - 1, by omega⟩
    rw [List.drop_of_length_le (by omega)]
    simp only [f70_L2, f70_L2_s, show ¬ ((i : Int) < 16) by omega, decide_false, cond_false, List.all_nil, cond_true]
  | succ m ih =>
    intro i n h1 h2
    obtain ⟨n, rfl⟩ : ∃ n', n = n' + 1 := ⟨n - 1, by omega⟩
    by_cases hi : i < 16
    · have e2 : W ((i : Int) + 1) = ((i + 1 : Nat) : Int) := by rw [W_id (by omega) (by omega)]; omega
      rw [drop_at default (by omega : i < x.list.length)]
      simp only [f70_L2, f70_L2_s, show (i : Int) < 16 by omega, decide_true, cond_true, Int.toNat_natCast, show (0 : Int) ≤ (i : Int) by omega, Bool.and_self, e2, sets_at x hi, datas_at x hi, List.all_cons, ih (i + 1) n (by omega) (by omega)]
      generalize x.list.getD i default = c
      generalize (x.list.drop (i + 1)).all (cellOk p.lsn) = b
      unfold cellOk
      by_cases c1 : (c.data.length : Int) > 12
      · have : Nat.ble c.data.length 12 = false := by
          rw [Bool.eq_false_iff]; intro h; have := ble_iff.1 h; omega
        simp only [c1, decide_true, Bool.not_true, cond_false, this, Bool.false_and]
      · have : Nat.ble c.data.length 12 = true := ble_iff.2 (by omega)
        simp only [c1, decide_false, Bool.not_false, cond_true, this, Bool.true_and]
        cases c.set <;> cases (p.lsn == 0) <;> by_cases h3 : c.data = [] <;> cases b <;> simp [h3]
    · rw [List.drop_of_length_le (by omega)]
      simp only [f70_L2, f70_L2_s, show ¬ ((i : Int) < 16) by omega, decide_false, cond_false, List.all_nil, cond_true]

theorem sp70 {p : Pm.Page} {K : Bool → Option R} : f70 big p K = K (goCells p) := by
  unfold f70
  refine (f70_L2_ok (x := p.cells) (p := p) 16 0 big (by omega) (by simp [big])).trans ?_
  unfold goCells
  rw [List.drop_zero]
  cases p.cells.list.all (cellOk p.lsn) <;> rfl

theorem sp55 {p : Pm.Page} {K : Bool → Option R} : f55 big p K = K (goPageV p) := by
  unfold f55 goPageV
  cases goPlaced p <;> rfl

end Go.Ab

namespace Go.Ab
open Go

variable {R : Type}

theorem bytesFrom_length (n : Int) : ∀ m i, (bytesFrom n m i).length = m
  | 0, _ => rfl
  | m + 1, i => by simp [bytesFrom, bytesFrom_length n m]
theorem goPut_len (s : List UInt8) (n size : Int) : (goPut s n size).length ≤ s.length + 8 := by
  unfold goPut
  split
  · omega
  · rw [List.length_append, bytesFrom_length]; omega
theorem goRep_len (n : Int) : (goRep [0] n).length = n.toNat := by
  unfold goRep; simp

theorem goPutC_ok {s : List UInt8} (n size : Int) (h : s.length ≤ 2000000) : goPutC s n size = true := by
  unfold goPutC; rw [ble_iff]; omega
theorem goRepC_ok {n : Int} (h : 0 ≤ n) (h2 : n ≤ 1000000) : goRepC [0] n = true := by
  unfold goRepC; simp only [Bool.and_eq_true, decide_eq_true_iff, ble_iff]; simp; omega

theorem sp72 {b : Pm.Builder} {c : Pm.Cell} {K : Pm.Builder → Option R} (hc : goCellC b c = true) : f72 big b c K = K (goCell b c) := by
  simp only [goCellC, Bool.and_eq_true, ble_iff] at hc
  obtain ⟨h1, h2⟩ := hc
  have e : W (12 - (c.data.length : Int)) = 12 - (c.data.length : Int) := W_id (by omega) (by omega)
  have hr := goRep_len (12 - (c.data.length : Int))
  have key : ∀ n : Int, (bif goPutC b.s n 1 then
      bif Nat.ble ((goPut b.s n 1).length + c.data.length) most then
      bif goRepC [0] (12 - (c.data.length : Int)) then
      bif Nat.ble ((goPut b.s n 1 ++ c.data).length + (goRep [0] (12 - (c.data.length : Int))).length) most then
      K (Pm.Builder.mk ((goPut b.s n 1 ++ c.data) ++ goRep [0] (12 - (c.data.length : Int))))
      else none else none else none else none) = K ⟨goPut b.s n 1 ++ c.data ++ goRep [0] (12 - (c.data.length : Int))⟩ := by
    intro n
    have hp := goPut_len b.s n 1
    rw [goPutC_ok n 1 (by omega), goRepC_ok (by omega) (by omega), ble_iff.2 (by simp only [most]; omega), ble_iff.2 (by simp only [most, List.length_append]; omega)]
    rfl
  unfold f72 goCell
  rw [e]
  cases c.set with
  | true => exact key _
  | false => exact key _

theorem cell_mk (c : Pm.Cell) : Pm.Cell.mk c.set c.data = c := rfl

theorem goCell_len (b : Pm.Builder) (c : Pm.Cell) (h : c.data.length ≤ 12) : (goCell b c).s.length ≤ b.s.length + 20 := by
  unfold goCell
  have hp := goPut_len b.s (if c.set then (c.data.length : Int) else 255) 1
  simp only [List.length_append, goRep_len]
  omega

theorem f49_L8_ok {x : Pm.Slots} {p : Pm.Page} (hx : ∀ c ∈ x.list, c.data.length ≤ 12) {N : Nat} {k0 : Pm.Page → Pm.Builder → Option R} : ∀ (m i n : Nat) (b : Pm.Builder), 16 - i ≤ m → m < n → b.s.length ≤ 100 + 20 * i →
    f49_L8 N k0 n x i p b = k0 p ((x.list.drop i).foldl goCell b) := by
  have hl : x.list.length = 16 := rfl
  intro m
  induction m with
  | zero =>
    intro i n b h1 h2 h3
    obtain ⟨n, rfl⟩ : ∃ n', n = n' + 1 := ⟨n - 1, by omega⟩
    rw [List.drop_of_length_le (by omega)]
    simp only [f49_L8, f49_L8_s, show ¬ ((i : Int) < 16) by omega, decide_false, cond_false, List.foldl_nil]
  | succ m ih =>
    intro i n b h1 h2 h3
    obtain ⟨n, rfl⟩ : ∃ n', n = n' + 1 := ⟨n - 1, by omega⟩
    by_cases hi : i < 16
    · have e2 : W ((i : Int) + 1) = ((i + 1 : Nat) : Int) := by rw [W_id (by omega) (by omega)]; omega
      have hc : (x.list.getD i default).data.length ≤ 12 := by
        rw [getD_at (by omega : i < x.list.length)]; exact hx _ (List.getElem_mem _)
      have hC : goCellC b (x.list.getD i default) = true := by
        simp only [goCellC, Bool.and_eq_true, ble_iff]; omega
      rw [drop_at default (by omega : i < x.list.length)]
      simp only [f49_L8, f49_L8_s, show (i : Int) < 16 by omega, decide_true, cond_true, Int.toNat_natCast, show (0 : Int) ≤ (i : Int) by omega, Bool.and_self, e2, sets_at x hi, datas_at x hi, cell_mk, hC, List.foldl_cons]
      exact ih (i + 1) n _ (by omega) (by omega) (by have := goCell_len b _ hc; omega)
    · rw [List.drop_of_length_le (by omega)]
      simp only [f49_L8, f49_L8_s, show ¬ ((i : Int) < 16) by omega, decide_false, cond_false, List.foldl_nil]

theorem foldl_cell_len : ∀ (l : List Pm.Cell) (b : Pm.Builder), (∀ c ∈ l, c.data.length ≤ 12) → (l.foldl goCell b).s.length = b.s.length + 13 * l.length
  | [], b, _ => rfl
  | c :: l, b, h => by
    rw [List.foldl_cons, foldl_cell_len l _ (fun c hc => h c (by simp [hc]))]
    have h1 := h c (by simp)
    have e : (goCell b c).s.length = b.s.length + 13 := by
      unfold goCell
      simp only [List.length_append, goRep_len, goPut]
      rw [if_neg (by omega), List.length_append, bytesFrom_length]
      simp; omega
    rw [e]; simp; omega

theorem enc_tail {b : List UInt8} (hb : b.length = 220) (lsn : Int) {K : List UInt8 → Int → Option R} :
    (bif goRepC [0] (W (244 - (b.length : Int))) then
      let r6 := goRep [0] (W (244 - (b.length : Int)))
      bif Nat.ble (b.length + r6.length) most then
      bif goSumC (b ++ r6) then
      let r7 := goSum (b ++ r6)
      bif goPutC (b ++ r6) (W r7) 4 then
      let r8 := goPut (b ++ r6) (W r7) 4
      bif goPutC r8 lsn 8 then
      let r9 := goPut r8 lsn 8
      K r9 0
      else none
      else none
      else none
      else none
      else none) = K (goPut (goPut (b ++ goRep [0] (244 - (b.length : Int))) (W (goSum (b ++ goRep [0] (244 - (b.length : Int))))) 4) lsn 8) 0 := by
  have e : W (244 - (b.length : Int)) = 244 - (b.length : Int) := W_id (by omega) (by omega)
  have hr := goRep_len (244 - (b.length : Int))
  simp only [e]
  generalize goRep [0] (244 - (b.length : Int)) = r6 at *
  have h6 : r6.length = 24 := by omega
  have hlen : (b ++ r6).length = 244 := by rw [List.length_append]; omega
  have c1 : goRepC [0] (244 - (b.length : Int)) = true := goRepC_ok (by omega) (by omega)
  have c2 : Nat.ble (b.length + r6.length) most = true := by rw [hb, h6]; rfl
  have c3 : goSumC (b ++ r6) = true := by unfold goSumC; rw [hlen]; rfl
  generalize b ++ r6 = s at *
  have c4 : goPutC s (W (goSum s)) 4 = true := goPutC_ok _ 4 (by omega)
  have h8 := goPut_len s (W (goSum s)) 4
  have c5 : goPutC (goPut s (W (goSum s)) 4) lsn 8 = true := goPutC_ok _ 8 (by omega)
  rw [c1, c2, c3, c4, c5]
  rfl

theorem sp49' {N : Nat} (hN : 100 ≤ N) {p : Pm.Page} {K : List UInt8 → Int → Option R} : f49 N p K = K (goEnc p).1 (goEnc p).2 := by
  unfold f49 goEnc
  cases goPlaced p with
  | false => rfl
  | true =>
    cases hcs : goCells p with
    | false => rfl
    | true =>
      simp only [Bool.not_true, cond_false]
      have hx : ∀ c ∈ p.cells.list, c.data.length ≤ 12 := by
        intro c hc
        have h1 := List.all_eq_true.1 hcs c hc
        simp only [cellOk, Bool.and_eq_true, ble_iff] at h1
        exact h1.1
      have e3 : (goPut [] p.lsn 8).length = 8 := by
        unfold goPut
        rw [if_neg (by omega)]
        simp [bytesFrom_length]
      have e4 : (goPut (goPut [] p.lsn 8) p.id 4).length = 12 := by
        rw [goPut, if_neg (by omega), List.length_append, bytesFrom_length, e3]; rfl
      have c1 : goPutC [] p.lsn 8 = true := goPutC_ok p.lsn 8 (Nat.zero_le _)
      have c2 : goPutC (goPut [] p.lsn 8) p.id 4 = true := goPutC_ok p.id 4 (by omega)
      rw [c1, c2]
      simp only [cond_true]
      refine (f49_L8_ok (p := p) hx 16 0 N _ (by omega) (by omega) (by simp only; omega)).trans ?_
      have hb := foldl_cell_len p.cells.list ⟨goPut (goPut [] p.lsn 8) p.id 4⟩ hx
      have hl : p.cells.list.length = 16 := rfl
      rw [hl] at hb
      simp only [e4] at hb
      unfold encS
      rw [List.drop_zero]
      generalize p.cells.list.foldl goCell ⟨goPut (goPut [] p.lsn 8) p.id 4⟩ = b at *
      exact enc_tail hb p.lsn

theorem sp49 {p : Pm.Page} {K : List UInt8 → Int → Option R} : f49 big p K = K (goEnc p).1 (goEnc p).2 := sp49' (by simp [big])

theorem sp76 {f : Pm.Frame} {x : Int} {K : Bool → Int → Option R} : f76 big f x K = K (goIdIs f x).1 (goIdIs f x).2 := rfl

theorem f75_L2_ok {l : List Pm.Frame} {id : Int} (hm : l.length ≤ 268435456) {N : Nat} {k0 : Int → Int → Option R} {k1 : Int → Option R} : ∀ (m i n : Nat), l.length - i ≤ m → m < n →
    f75_L2 N k0 k1 n l l.length i id = if findF (l.drop i) id i = -1 then k1 id else k0 (findF (l.drop i) id i) id := by
  intro m
  induction m with
  | zero =>
    intro i n h1 h2
    obtain ⟨n, rfl⟩ : ∃ n', n = n' + 1 := ⟨n - 1, by omega⟩
    rw [List.drop_of_length_le (by omega)]
    simp only [f75_L2, f75_L2_s, show ¬ ((i : Int) < (l.length : Int)) by omega, decide_false, cond_false, findF, if_true]
  | succ m ih =>
    intro i n h1 h2
    obtain ⟨n, rfl⟩ : ∃ n', n = n' + 1 := ⟨n - 1, by omega⟩
    by_cases hi : i < l.length
    · have e2 : W ((i : Int) + 1) = ((i + 1 : Nat) : Int) := by rw [W_id (by omega) (by omega)]; omega
      rw [drop_at default hi]
      simp only [f75_L2, f75_L2_s, show (i : Int) < (l.length : Int) by omega, decide_true, cond_true, Int.toNat_natCast, blt_iff.2 hi, show (0 : Int) ≤ (i : Int) by omega, Bool.true_and, e2, goIdIs, findF]
      by_cases c : (l.getD i default).page.id = id
      · simp only [c, beq_self_eq_true, cond_true, if_true, show ¬ ((i : Int) = -1) by omega, if_false]
      · simp only [show ((l.getD i default).page.id == id) = false by simpa using c, cond_false, c, if_false]
        have := ih (i + 1) n (by omega) (by omega)
        rw [this, show ((i + 1 : Nat) : Int) = (i : Int) + 1 by omega]
    · rw [List.drop_of_length_le (by omega)]
      simp only [f75_L2, f75_L2_s, show ¬ ((i : Int) < (l.length : Int)) by omega, decide_false, cond_false, findF, if_true]

theorem sp75 {l : List Pm.Frame} {id : Int} {K : Int → Int → Option R} (hc : goIndexC l id = true) : f75 big l id K = K (goIndex l id).1 (goIndex l id).2 := by
  have hm : l.length ≤ 268435456 := ble_iff.1 hc
  unfold f75
  refine (f75_L2_ok hm l.length 0 big (by omega) (by simp [big]; omega)).trans ?_
  rw [List.drop_zero]
  unfold goIndex
  simp only [Int.natCast_zero]
  split
  · rename_i h; rw [h]
  · rfl

theorem sp50 {p : Pm.Pool} {id : Int} {K : Int → Option R} (hc : goFindC p id = true) : f50 big p id K = K (goFind p id) := by
  have h : goIndexC p.frames id = true := hc
  unfold f50
  rw [h]; rfl

theorem sp53 {l : List Pm.Frame} {i : Int} {x : Pm.Frame} {K : List Pm.Frame → Option R} (hc : goWithC l i x = true) : f53 big l i x K = K (goWith l i x) := by
  simp only [goWithC, Bool.and_eq_true, decide_eq_true_iff] at hc
  obtain ⟨h1, h2, h3⟩ := hc
  unfold f53 goWith
  rw [h3]
  simp only [cond_true, h1, decide_true, Bool.true_and, blt_iff.2 (show i.toNat < l.length by omega)]

theorem sp14 {n : Int} {K : Pm.Pool → Int → Option R} : f14 big n K = K (goPoolNew n).1 (goPoolNew n).2 := by
  unfold f14 goPoolNew
  by_cases h1 : n < 1
  · simp only [h1, decide_true, Bool.not_true, cond_false]; rw [if_neg (by omega)]
  by_cases h2 : n > 64
  · simp only [h1, h2, decide_true, decide_false, Bool.not_false, cond_true]; rw [if_neg (by omega)]
  simp only [h1, h2, decide_false, Bool.not_false, cond_true, cond_false]; rw [if_pos (by omega)]

theorem f22_L4_ok {l : List Pm.Frame} {p : Pm.Pool} (hm : p.frames.length ≤ 268435456) (hl : l.length ≤ 268435456) {N : Nat} {k0 : Bool → Option R} {k1 : Option R} : ∀ (m i n : Nat), l.length - i ≤ m → m < n →
    f22_L4 N k0 k1 n l l.length i p = bif framesOk p.frames i (l.drop i) then k1 else k0 false := by
  intro m
  induction m with
  | zero =>
    intro i n h1 h2
    obtain ⟨n, rfl⟩ : ∃ n', n = n' + 1 := ⟨n - 1, by omega⟩
    rw [List.drop_of_length_le (by omega)]
    simp only [f22_L4, f22_L4_s, show ¬ ((i : Int) < (l.length : Int)) by omega, decide_false, cond_false, framesOk, cond_true]
  | succ m ih =>
    intro i n h1 h2
    obtain ⟨n, rfl⟩ : ∃ n', n = n' + 1 := ⟨n - 1, by omega⟩
    by_cases hi : i < l.length
    · have e2 : W ((i : Int) + 1) = ((i + 1 : Nat) : Int) := by rw [W_id (by omega) (by omega)]; omega
      have hC : goFindC p (l.getD i default).page.id = true := ble_iff.2 (by simp only [most]; omega)
      rw [drop_at default hi]
      simp only [f22_L4, f22_L4_s, show (i : Int) < (l.length : Int) by omega, decide_true, cond_true, Int.toNat_natCast, blt_iff.2 hi, show (0 : Int) ≤ (i : Int) by omega, Bool.true_and, e2, framesOk, hC, goFind, ih (i + 1) n (by omega) (by omega)]
      rw [show ((i + 1 : Nat) : Int) = (i : Int) + 1 by omega]
      clear hC
      obtain ⟨f, hf⟩ : ∃ f, f = l.getD i default := ⟨_, rfl⟩
      simp only [← hf]
      generalize framesOk p.frames ((i : Int) + 1) (l.drop (i + 1)) = b
      cases goPageV f.page with
      | false => rfl
      | true =>
        simp only [Bool.not_true, Bool.not_false, cond_true, Bool.true_and]
        by_cases c : findF p.frames f.page.id 0 = (i : Int)
        · simp only [show (findF p.frames f.page.id 0 != (i : Int)) = false by simpa using c, cond_false, c, decide_true, Bool.true_and]
          unfold dirtyOk
          cases hd : f.dirty with
          | true =>
            simp only [cond_true, if_true, Bool.not_true, cond_false]
            by_cases c1 : f.rec_ < 1
            · simp only [c1, decide_true, Bool.not_true, cond_false]
              rw [decide_eq_false (by omega)]; simp
            · by_cases c2 : f.rec_ > f.page.lsn
              · simp only [c1, c2, decide_true, decide_false, Bool.not_true, Bool.not_false, cond_true, cond_false]
                rw [decide_eq_false (by omega)]; simp
              · simp only [c1, c2, decide_false, Bool.not_false, cond_true]
                rw [decide_eq_true (by omega)]; simp
          | false =>
            simp only [cond_false, Bool.false_eq_true, if_false, Bool.not_false, cond_true]
            by_cases c1 : f.rec_ = 0
            · simp [c1]
            · have hb : (f.rec_ != 0) = true := bne_iff_ne.2 c1
              simp [c1, hb]
        · simp only [show (findF p.frames f.page.id 0 != (i : Int)) = true by simpa using c, cond_true, c, decide_false, Bool.false_and, cond_false]
    · rw [List.drop_of_length_le (by omega)]
      simp only [f22_L4, f22_L4_s, show ¬ ((i : Int) < (l.length : Int)) by omega, decide_false, cond_false, framesOk, cond_true]

theorem sp22 {p : Pm.Pool} {K : Bool → Option R} : f22 big p K = K (goPoolV p) := by
  have no : ¬ (1 ≤ p.size ∧ p.size ≤ 64 ∧ (p.frames.length : Int) ≤ p.size ∧ 0 ≤ p.hand ∧ (p.hand < (p.frames.length : Int) ∨ p.hand < 1)) → goPoolV p = false := by
    intro h; unfold goPoolV; rw [decide_eq_false h]; rfl
  unfold f22
  by_cases h1 : p.size < 1
  · rw [no (by omega)]; simp only [h1, decide_true, Bool.not_true, cond_false]
  by_cases h2 : p.size > 64
  · rw [no (by omega)]; simp only [h1, h2, decide_true, decide_false, Bool.not_true, Bool.not_false, cond_false, cond_true]
  by_cases h3 : (p.frames.length : Int) > p.size
  · rw [no (by omega)]; simp only [h1, h2, h3, decide_true, decide_false, Bool.not_true, Bool.not_false, cond_false, cond_true]
  by_cases h4 : p.hand < 0
  · rw [no (by omega)]; simp only [h1, h2, h3, h4, decide_true, decide_false, Bool.not_true, Bool.not_false, cond_false, cond_true]
  simp only [h1, h2, h3, h4, decide_false, Bool.not_false, cond_true]
  by_cases h5 : p.hand ≥ if 1 < (p.frames.length : Int) then (p.frames.length : Int) else 1
  · have h5' := h5
    rw [no (by split at h5' <;> omega)]; simp only [h5, decide_true, cond_true]
  simp only [h5, decide_false, cond_false]
  refine (f22_L4_ok (p := p) (l := p.frames) (by omega) (by omega) 64 0 big (by omega) (by simp [big])).trans ?_
  unfold goPoolV
  rw [decide_eq_true (by split at h5 <;> omega), List.drop_zero, Bool.true_and]
  simp only [Int.natCast_zero]
  cases framesOk p.frames 0 p.frames <;> rfl

end Go.Ab

namespace Go.Ab
open Go

variable {R : Type}

theorem findF_spec : ∀ (l : List Pm.Frame) (id k : Int), 0 ≤ k → findF l id k = -1 ∨ (k ≤ findF l id k ∧ findF l id k < k + l.length)
  | [], _, _, _ => .inl rfl
  | f :: l, id, k, h => by
    simp only [findF]
    split
    · right; simp; omega
    · rcases findF_spec l id (k + 1) (by omega) with h1 | h1
      · exact .inl h1
      · right; simp; omega

theorem valid_len {p : Pm.Pool} (h : goPoolV p = true) : 1 ≤ p.size ∧ p.size ≤ 64 ∧ (p.frames.length : Int) ≤ p.size ∧ 0 ≤ p.hand ∧ (p.hand < (p.frames.length : Int) ∨ p.hand < 1) := by
  unfold goPoolV at h
  rw [Bool.and_eq_true, decide_eq_true_iff] at h
  exact h.1

theorem sp21 {p : Pm.Pool} {id : Int} {K : Int → Option R} : f21 big p id K = K (goPoolFind p id) := by
  unfold f21 goPoolFind
  cases hv : goPoolV p with
  | false => rfl
  | true =>
    have := valid_len hv
    have hc : goFindC p id = true := ble_iff.2 (by simp only [most]; omega)
    simp only [Bool.not_true, cond_false, hc, cond_true]

theorem poolFind_spec {p : Pm.Pool} {id : Int} (h : 0 ≤ goPoolFind p id) : goPoolV p = true ∧ goPoolFind p id = goFind p id ∧ goFind p id < p.frames.length := by
  unfold goPoolFind at *
  cases hv : goPoolV p with
  | false => rw [hv] at h; simp at h
  | true =>
    refine ⟨rfl, rfl, ?_⟩
    rw [hv] at h
    simp only [cond_true] at h
    unfold goFind at *
    rcases findF_spec p.frames id 0 (by omega) with h1 | h1 <;> omega

theorem sp17 {p : Pm.Pool} {id : Int} {K : Pm.Pool → Option R} : f17 big p id K = K (goUse p id) := by
  unfold f17 goUse
  by_cases h : goPoolFind p id ≥ 0
  · obtain ⟨hv, he, hlt⟩ := poolFind_spec h
    have hl := valid_len hv
    have h0 : 0 ≤ goPoolFind p id := h
    have hb : Nat.blt (goPoolFind p id).toNat p.frames.length = true := blt_iff.2 (by omega)
    have hc : ∀ x, goWithC p.frames (goPoolFind p id) x = true := by
      intro x
      simp only [goWithC, Bool.and_eq_true, decide_eq_true_iff, ble_iff, most]; omega
    simp only [h, decide_true, cond_true, h0, hb, Bool.true_and, hc, if_true, goWith]
  · simp only [h, decide_false, cond_false, show ¬ 0 ≤ goPoolFind p id from h, if_false]

theorem sp15 {p : Pm.Pool} {x : Pm.Page} {K : Pm.Pool → Int → Option R} : f15 big p x K = K (goPoolPut p x).1 (goPoolPut p x).2 := by
  unfold f15 goPoolPut
  cases hv : goPoolV p with
  | false => rfl
  | true =>
    have hl := valid_len hv
    simp only [Bool.not_true, cond_false]
    by_cases h1 : (goEnc x).2 = 0
    · have hb : ((goEnc x).2 != 0) = false := by simpa using h1
      have hc : goFindC p x.id = true := ble_iff.2 (by simp only [most]; omega)
      simp only [hb, cond_false, hc, cond_true]
      simp only [h1, ne_eq, not_true_eq_false, if_false]
      by_cases h2 : goFind p x.id ≥ 0
      · simp only [h2, decide_true, cond_true, show 0 ≤ goFind p x.id from h2, if_true]
      · simp only [h2, decide_false, cond_false, show ¬ 0 ≤ goFind p x.id from h2, if_false]
        by_cases h3 : (p.frames.length : Int) = p.size
        · simp only [h3, beq_self_eq_true, cond_true, if_true]
        · have hb3 : ((p.frames.length : Int) == p.size) = false := by simpa using h3
          simp only [hb3, cond_false, h3, if_false, ble_iff.2 (show p.frames.length ≤ most by simp only [most]; omega), cond_true, ble_iff.2 (show p.frames.length + [Pm.Frame.mk x false 0 true].length ≤ most by simp only [most, List.length_singleton]; omega)]
    · have hb : ((goEnc x).2 != 0) = true := by simpa using h1
      simp only [hb, cond_true]
      simp only [h1, ne_eq, not_false_eq_true, if_true]

def usedN (l : List Pm.Frame) : Nat := l.countP fun f => f.used

theorem usedN_set {l : List Pm.Frame} {i : Nat} (hi : i < l.length) (hu : (l.getD i default).used = true) (f : Pm.Frame) (hf : f.used = false) : usedN (l.set i f) + 1 = usedN l := by
  unfold usedN
  have hpos : 0 < l.countP fun f => f.used := List.countP_pos_iff.2 ⟨l[i], List.getElem_mem hi, by rw [getD_at hi] at hu; exact hu⟩
  rw [List.countP_set hi]
  rw [getD_at hi] at hu
  simp only [hu, hf, if_true, Bool.false_eq_true, if_false]
  omega

theorem f16_L6_ok {t2 : Pm.Pool} {N : Nat} {k0 : Pm.Pool → Pm.Pool → Option R} : ∀ (m n : Nat) (p : Pm.Pool), usedN p.frames ≤ m → m < n → 0 ≤ p.hand → p.hand < (p.frames.length : Int) → p.frames.length ≤ 64 →
    f16_L6 N k0 n p t2 = k0 (sweep m p) t2 := by
  intro m
  induction m with
  | zero =>
    intro n p h1 h2 h3 h4 h5
    obtain ⟨n, rfl⟩ : ∃ n', n = n' + 1 := ⟨n - 1, by omega⟩
    have hi : p.hand.toNat < p.frames.length := by omega
    have hu : (p.frames.getD p.hand.toNat default).used = false := by
      cases h : (p.frames.getD p.hand.toNat default).used with
      | false => rfl
      | true => have := usedN_set hi h default rfl; omega
    simp only [f16_L6, f16_L6_s, h3, decide_true, Bool.true_and, blt_iff.2 hi, cond_true, hu, cond_false, sweep]
  | succ m ih =>
    intro n p h1 h2 h3 h4 h5
    obtain ⟨n, rfl⟩ : ∃ n', n = n' + 1 := ⟨n - 1, by omega⟩
    have hi : p.hand.toNat < p.frames.length := by omega
    have e : W (p.hand + 1) = p.hand + 1 := W_id (by omega) (by omega)
    cases hu : (p.frames.getD p.hand.toNat default).used with
    | false => simp only [f16_L6, f16_L6_s, h3, decide_true, Bool.true_and, blt_iff.2 hi, cond_true, hu, cond_false, sweep]
    | true =>
      simp only [f16_L6, f16_L6_s, h3, decide_true, Bool.true_and, blt_iff.2 hi, cond_true, hu, sweep, List.length_set, e, show ¬ ((p.frames.length : Int) = 0) by omega, decide_false, Bool.not_false]
      refine ih n _ ?_ (by omega) ?_ ?_ ?_
      · have := usedN_set hi hu ⟨(p.frames.getD p.hand.toNat default).page, (p.frames.getD p.hand.toNat default).dirty, (p.frames.getD p.hand.toNat default).rec_, false⟩ rfl
        show usedN (p.frames.set _ _) ≤ m
        omega
      · exact Int.tmod_nonneg _ (by omega)
      · simp only [List.length_set]; exact Int.tmod_lt_of_pos _ (by omega)
      · simp only [List.length_set]; exact h5

theorem sweep_len : ∀ (m : Nat) (p : Pm.Pool), (sweep m p).frames.length = p.frames.length ∧ (0 ≤ p.hand → p.hand < (p.frames.length : Int) → 0 ≤ (sweep m p).hand ∧ (sweep m p).hand < (p.frames.length : Int))
  | 0, p => ⟨rfl, fun h1 h2 => ⟨h1, h2⟩⟩
  | m + 1, p => by
    simp only [sweep]
    cases (p.frames.getD p.hand.toNat default).used with
    | false => exact ⟨rfl, fun h1 h2 => ⟨h1, h2⟩⟩
    | true =>
      simp only [cond_true]
      obtain ⟨h1, h2⟩ := sweep_len m ⟨p.size, p.frames.set p.hand.toNat { p.frames.getD p.hand.toNat default with used := false }, (p.hand + 1).tmod p.frames.length⟩
      simp only [List.length_set] at h1 h2
      exact ⟨h1, fun h3 h4 => h2 (Int.tmod_nonneg _ (by omega)) (Int.tmod_lt_of_pos _ (by omega))⟩

theorem sp16 {p : Pm.Pool} {K : Pm.Pool → Int → Int → Option R} : f16 big p K = K (goVictim p).1 (goVictim p).2.1 (goVictim p).2.2 := by
  unfold f16 goVictim
  cases hv : goPoolV p with
  | false => rfl
  | true =>
    have hl := valid_len hv
    simp only [Bool.not_true, cond_false]
    by_cases h0 : p.frames.length = 0
    · have hb : ((p.frames.length : Int) == 0) = true := by simpa using h0
      simp only [hb, cond_true]
      simp only [h0, if_true]
    · have hb : ((p.frames.length : Int) == 0) = false := by simpa using h0
      simp only [hb, cond_false, h0, if_false, ble_iff.2 (show p.frames.length ≤ most by simp only [most]; omega), cond_true]
      have hle : usedN p.frames ≤ p.frames.length := List.countP_le_length
      rw [f16_L6_ok p.frames.length big p hle (by simp only [big]; omega) (by omega) (by omega) (by omega)]
      obtain ⟨h1, h2⟩ := sweep_len p.frames.length p
      obtain ⟨h3, h4⟩ := h2 (by omega) (by omega)
      simp only [h3, decide_true, Bool.true_and, blt_iff.2 (show (sweep p.frames.length p).hand.toNat < (sweep p.frames.length p).frames.length by omega), cond_true]

theorem f18_L4_ok {a b : Pm.Pool} (hm : a.frames.length ≤ 268435456) (he : a.frames.length = b.frames.length) {N : Nat} {k0 : Bool → Option R} {k1 : Option R} : ∀ (m i n : Nat), a.frames.length - i ≤ m → m < n →
    f18_L4 N k0 k1 n i a b = bif decide (a.frames.drop i = b.frames.drop i) then k1 else k0 false := by
  intro m
  induction m with
  | zero =>
    intro i n h1 h2
    obtain ⟨n, rfl⟩ : ∃ n', n = n' + 1 := ⟨n - 1, by omega⟩
    rw [List.drop_of_length_le (by omega), List.drop_of_length_le (by omega)]
    simp only [f18_L4, f18_L4_s, show ¬ ((i : Int) < (a.frames.length : Int)) by omega, decide_false, cond_false, decide_true, cond_true]
  | succ m ih =>
    intro i n h1 h2
    obtain ⟨n, rfl⟩ : ∃ n', n = n' + 1 := ⟨n - 1, by omega⟩
    by_cases hi : i < a.frames.length
    · have e2 : W ((i : Int) + 1) = ((i + 1 : Nat) : Int) := by rw [W_id (by omega) (by omega)]; omega
      have hb : i < b.frames.length := by omega
      rw [drop_at default hi, drop_at default hb]
      simp only [f18_L4, f18_L4_s, show (i : Int) < (a.frames.length : Int) by omega, decide_true, cond_true, Int.toNat_natCast, blt_iff.2 hi, blt_iff.2 hb, show (0 : Int) ≤ (i : Int) by omega, Bool.true_and, e2, ih (i + 1) n (by omega) (by omega)]
      by_cases c : a.frames.getD i default = b.frames.getD i default
      · rw [decide_eq_true c]
        simp only [Bool.not_true, cond_false, c, List.cons.injEq, true_and]
      · rw [decide_eq_false c]
        simp only [Bool.not_false, cond_true, c, List.cons.injEq, false_and, decide_false, cond_false]
    · rw [List.drop_of_length_le (by omega), List.drop_of_length_le (by omega)]
      simp only [f18_L4, f18_L4_s, show ¬ ((i : Int) < (a.frames.length : Int)) by omega, decide_false, cond_false, decide_true, cond_true]

theorem sp18 {a b : Pm.Pool} {K : Bool → Option R} (hc : goSameC a b = true) : f18 big a b K = K (goSame a b) := by
  have hm : a.frames.length ≤ 268435456 := ble_iff.1 hc
  unfold f18 goSame
  by_cases h1 : a.size = b.size
  case neg =>
    have hb : (a.size != b.size) = true := by simpa using h1
    rw [decide_eq_false (fun h => h1 h.1)]
    simp only [hb, Bool.not_true, cond_false]
  have hb1 : (a.size != b.size) = false := by simpa using h1
  by_cases h2 : a.hand = b.hand
  case neg =>
    have hb : (a.hand != b.hand) = true := by simpa using h2
    rw [decide_eq_false (fun h => h2 h.2.1)]
    simp only [hb1, hb, Bool.not_true, Bool.not_false, cond_true, cond_false]
  have hb2 : (a.hand != b.hand) = false := by simpa using h2
  by_cases h3 : a.frames.length = b.frames.length
  case neg =>
    have hb : ((a.frames.length : Int) != (b.frames.length : Int)) = true := by simp; omega
    rw [decide_eq_false (fun h => h3 (by rw [h.2.2]))]
    simp only [hb1, hb2, hb, Bool.not_false, cond_true]
  have hb3 : ((a.frames.length : Int) != (b.frames.length : Int)) = false := by simp; omega
  simp only [hb1, hb2, hb3, Bool.not_false, cond_true, cond_false]
  refine (f18_L4_ok hm h3 a.frames.length 0 big (by omega) (by simp only [big]; omega)).trans ?_
  rw [List.drop_zero, List.drop_zero]
  by_cases h4 : a.frames = b.frames
  · rw [decide_eq_true h4, decide_eq_true ⟨h1, h2, h4⟩]; rfl
  · rw [decide_eq_false h4, decide_eq_false (fun h => h4 h.2.2)]; rfl

end Go.Ab

namespace Go.Ab
open Go

variable {R : Type}

theorem sp13 {K : Bool → Option R} : f13 big K = K goAwake10 := by kernel_rfl

/-- Frames of the pages from i on, unwritten, used or not. -/
def fr : Nat → List Bool → List Pm.Frame
  | _, [] => []
  | i, b :: u => ⟨⟨i, 0, default⟩, false, 0, b⟩ :: fr (i + 1) u
def mkP (n : Int) (u : List Bool) (h : Nat) : Pm.Pool := ⟨n, fr 0 u, h⟩

theorem fr_len : ∀ (i : Nat) (u : List Bool), (fr i u).length = u.length
  | _, [] => rfl
  | i, b :: u => by simp [fr, fr_len (i + 1) u]
theorem fr_get : ∀ (i : Nat) (u : List Bool) (k : Nat), k < u.length → (fr i u).getD k default = ⟨⟨((i + k : Nat) : Int), 0, default⟩, false, 0, u.getD k false⟩
  | _, [], k, h => by simp at h
  | i, b :: u, 0, _ => rfl
  | i, b :: u, k + 1, h => by
    have := fr_get (i + 1) u k (by simpa using h)
    simp only [fr, List.getD_cons_succ]
    rw [this, show i + 1 + k = i + (k + 1) by omega]
theorem fr_set : ∀ (i : Nat) (u : List Bool) (k : Nat) (b : Bool), k < u.length → (fr i u).set k ⟨⟨((i + k : Nat) : Int), 0, default⟩, false, 0, b⟩ = fr i (u.set k b)
  | _, [], k, _, h => by simp at h
  | i, c :: u, 0, b, _ => rfl
  | i, c :: u, k + 1, b, h => by
    have := fr_set (i + 1) u k b (by simpa using h)
    simp only [fr, List.set_cons_succ]
    rw [← this, show i + 1 + k = i + (k + 1) by omega]
theorem fr_app : ∀ (i : Nat) (u : List Bool) (b : Bool), fr i u ++ [⟨⟨((i + u.length : Nat) : Int), 0, default⟩, false, 0, b⟩] = fr i (u ++ [b])
  | i, [], b => rfl
  | i, c :: u, b => by
    have := fr_app (i + 1) u b
    simp only [fr, List.cons_append, List.length_cons]
    rw [← this, show i + 1 + u.length = i + (u.length + 1) by omega]
theorem find_fr : ∀ (i : Nat) (u : List Bool) (k j : Int), findF (fr i u) k j = if (i : Int) ≤ k ∧ k < (i : Int) + u.length then j + (k - i) else -1
  | i, [], k, j => by
    simp only [fr, findF]
    rw [if_neg (by simp only [List.length_nil]; omega)]
  | i, b :: u, k, j => by
    simp only [fr, findF]
    rw [find_fr (i + 1) u k (j + 1)]
    by_cases c : (i : Int) = k
    · rw [if_pos c, if_pos (by simp only [List.length_cons]; omega)]
      all_goals omega
    · rw [if_neg c]
      by_cases d : (i : Int) ≤ k ∧ k < (i : Int) + ((b :: u).length : Nat)
      · have d' := d
        simp at d'
        rw [if_pos d, if_pos (by simp; omega)]; try omega
      · rw [if_neg d]
        rw [if_neg (by intro h; apply d; simp at h ⊢; omega)]

theorem pageV_fr (i : Int) (h0 : 0 ≤ i) (h1 : i < 64) : goPageV ⟨i, 0, default⟩ = true := by
  unfold goPageV goPlaced goNamed
  simp only [h0, h1, decide_true, Bool.true_and]
  rfl
theorem framesOk_fr (all : List Bool) : ∀ (i : Nat) (u : List Bool), i + u.length ≤ all.length → all.length ≤ 64 → framesOk (fr 0 all) i (fr i u) = true
  | _, [], _, _ => rfl
  | i, b :: u, h, h2 => by
    simp only [List.length_cons] at h
    simp only [fr, framesOk, find_fr]
    rw [pageV_fr i (by omega) (by omega), if_pos (by simp; omega)]
    have := framesOk_fr all (i + 1) u (by omega) h2
    rw [show ((i : Int) + 1) = ((i + 1 : Nat) : Int) by omega, this]
    simp [dirtyOk]
theorem valid_mk {n : Int} {u : List Bool} {h : Nat} (h1 : 1 ≤ n) (h2 : n ≤ 64) (h3 : (u.length : Int) ≤ n) (h4 : h < u.length ∨ h = 0) : goPoolV (mkP n u h) = true := by
  unfold goPoolV mkP
  simp only [fr_len]
  rw [decide_eq_true (by omega), Bool.true_and]
  exact framesOk_fr u 0 u (by omega) (by omega)

theorem enc_fr (i : Int) (h0 : 0 ≤ i) (h1 : i < 64) : (goEnc ⟨i, 0, default⟩).2 = 0 := by
  have h := pageV_fr i h0 h1
  unfold goPageV at h
  rw [Bool.and_eq_true] at h
  unfold goEnc
  rw [h.1, h.2]; rfl

theorem put_mk {n : Int} {u : List Bool} (h1 : 1 ≤ n) (h2 : n ≤ 64) (h3 : (u.length : Int) < n) : goPoolPut (mkP n u 0) ⟨(u.length : Int), 0, default⟩ = (mkP n (u ++ [true]) 0, 0) := by
  unfold goPoolPut
  rw [valid_mk h1 h2 (by omega) (.inr rfl)]
  have e : goFind (mkP n u 0) (u.length : Int) = -1 := by
    unfold goFind mkP; simp only; rw [find_fr, if_neg (by simp)]
  have he := enc_fr (u.length : Int) (by omega) (by omega)
  simp only [Bool.not_true, cond_false, he, ne_eq, not_true_eq_false, if_false, e]
  rw [if_neg (by omega), if_neg (by simp only [mkP, fr_len]; omega)]
  simp only [mkP]
  have := fr_app 0 u true
  rw [Nat.zero_add] at this
  rw [this]

theorem use_mk {n : Int} {u : List Bool} {h : Nat} {k : Nat} (h1 : 1 ≤ n) (h2 : n ≤ 64) (h3 : (u.length : Int) ≤ n) (h4 : h < u.length ∨ h = 0) (hk : k < u.length) : goUse (mkP n u h) (k : Int) = mkP n (u.set k true) h := by
  have hf : goPoolFind (mkP n u h) (k : Int) = (k : Int) := by
    unfold goPoolFind
    rw [valid_mk h1 h2 h3 h4]
    simp only [cond_true, goFind, mkP]
    rw [find_fr, if_pos (by simp; omega)]; simp
  unfold goUse
  simp only [hf]
  rw [if_pos (by omega)]
  simp only [mkP, Int.toNat_natCast]
  rw [fr_get 0 u k hk]
  have := fr_set 0 u k true hk
  rw [Nat.zero_add] at this ⊢
  rw [this]

/-- The sweep, on the marks alone. -/
def sw : Nat → List Bool → Nat → List Bool × Nat
  | 0, u, h => (u, h)
  | m + 1, u, h => bif u.getD h false then sw m (u.set h false) ((h + 1) % u.length) else (u, h)
theorem sw_ok {n : Int} : ∀ (m : Nat) (u : List Bool) (h : Nat), h < u.length → sweep m (mkP n u h) = mkP n (sw m u h).1 (sw m u h).2
  | 0, _, _, _ => rfl
  | m + 1, u, h, hh => by
    have hg := fr_get 0 u h hh
    have hs := fr_set 0 u h false hh
    rw [Nat.zero_add] at hg hs
    simp only [sweep, sw, mkP, Int.toNat_natCast, hg, fr_len]
    cases u.getD h false with
    | false => rfl
    | true =>
      simp only [cond_true, hs]
      have e : ((h : Int) + 1).tmod (u.length : Int) = (((h + 1) % u.length : Nat) : Int) := by
        rw [Int.tmod_eq_emod_of_nonneg (by omega)]; simp
      rw [e]
      have := sw_ok (n := n) m (u.set h false) ((h + 1) % u.length) (by rw [List.length_set]; exact Nat.mod_lt _ (by omega))
      exact this
theorem sw_len : ∀ (m : Nat) (u : List Bool) (h : Nat), h < u.length → (sw m u h).1.length = u.length ∧ (sw m u h).2 < u.length
  | 0, _, _, hh => ⟨rfl, hh⟩
  | m + 1, u, h, hh => by
    simp only [sw]
    cases u.getD h false with
    | false => exact ⟨rfl, hh⟩
    | true =>
      have := sw_len m (u.set h false) ((h + 1) % u.length) (by rw [List.length_set]; exact Nat.mod_lt _ (by omega))
      simpa using this

theorem victim_mk {n : Int} {u : List Bool} {h : Nat} (h1 : 1 ≤ n) (h2 : n ≤ 64) (h3 : (u.length : Int) ≤ n) (h4 : h < u.length) :
    goVictim (mkP n u h) = (mkP n (sw u.length u h).1 (sw u.length u h).2, ((sw u.length u h).2 : Int), 0) := by
  unfold goVictim
  rw [valid_mk h1 h2 h3 (.inl h4)]
  have hl : (mkP n u h).frames.length = u.length := fr_len 0 u
  obtain ⟨e1, e2⟩ := sw_len u.length u h h4
  simp only [Bool.not_true, cond_false, hl]
  rw [if_neg (by omega), sw_ok _ _ _ h4]
  have hg := fr_get 0 (sw u.length u h).1 (sw u.length u h).2 (by omega)
  rw [Nat.zero_add] at hg
  simp only [mkP, Int.toNat_natCast, hg]

end Go.Ab

namespace Go.Ab
open Go

variable {R : Type}

def allB : Nat → List (List Bool)
  | 0 => [[]]
  | n + 1 => (allB n).flatMap fun u => [false :: u, true :: u]
theorem mem_allB : ∀ (u : List Bool), u ∈ allB u.length
  | [] => by simp [allB]
  | b :: u => by
    simp only [List.length_cons, allB, List.mem_flatMap]
    exact ⟨u, mem_allB u, by cases b <;> simp⟩
def chkU (u : List Bool) : Bool :=
  let q := sw u.length u 0
  let all := u.all id
  decide (q.2 < u.length) && ((all || !u.getD q.2 false) && ((!all || (q.2 == 0 && q.1 == List.replicate u.length false)) && ((List.range q.2).all (fun i => u.getD i false) && !q.1.getD q.2 false)))
theorem chk_all : ((List.range 10).all fun n => n == 0 || (allB n).all chkU) = true := by kernel_rfl

theorem chk_of {u : List Bool} (h1 : 1 ≤ u.length) (h2 : u.length ≤ 9) : chkU u = true := by
  have h := List.all_eq_true.1 chk_all u.length (List.mem_range.2 (by omega))
  rw [Bool.or_eq_true] at h
  rcases h with h | h
  · have := eq_of_beq h; omega
  · exact List.all_eq_true.1 h u (mem_allB u)

structure Swept (u : List Bool) : Prop where
  lt : (sw u.length u 0).2 < u.length
  some : u.all id = true ∨ u.getD (sw u.length u 0).2 false = false
  all : u.all id = true → (sw u.length u 0).2 = 0 ∧ (sw u.length u 0).1 = List.replicate u.length false
  pre : ∀ i, i < (sw u.length u 0).2 → u.getD i false = true
  stop : (sw u.length u 0).1.getD (sw u.length u 0).2 false = false

theorem swept {u : List Bool} (h1 : 1 ≤ u.length) (h2 : u.length ≤ 9) : Swept u := by
  have h := chk_of h1 h2
  unfold chkU at h
  simp only [Bool.and_eq_true, Bool.or_eq_true, decide_eq_true_iff, Bool.not_eq_true', List.all_eq_true, List.mem_range, beq_iff_eq] at h
  obtain ⟨a1, a2, a3, a4, a5⟩ := h
  refine ⟨a1, ?_, ?_, a4, a5⟩
  · rcases a2 with a | a
    · left; rw [List.all_eq_true]; exact a
    · right; exact a
  · intro ha
    rcases a3 with a | a
    · rw [ha] at a; cases a
    · exact a

theorem f4_L6_ok {uses : List Int} {n e : Int} (h1 : 1 ≤ n) (h2 : n ≤ 64) {N : Nat} {k0 : Bool → Option R} {k1 : List Int → Int → Int → Pm.Pool → Option R} : ∀ (m i k : Nat), n.toNat - i ≤ m → m < k → (i : Int) ≤ n →
    f4_L6 N k0 k1 k uses n e i (mkP n (List.replicate i true) 0) = k1 uses n e (mkP n (List.replicate n.toNat true) 0) := by
  intro m
  induction m with
  | zero =>
    intro i k a1 a2 a3
    obtain ⟨k, rfl⟩ : ∃ k', k = k' + 1 := ⟨k - 1, by omega⟩
    have e : n.toNat = i := by omega
    simp only [f4_L6, f4_L6_s, show ¬ ((i : Int) < n) by omega, decide_false, cond_false, e]
  | succ m ih =>
    intro i k a1 a2 a3
    obtain ⟨k, rfl⟩ : ∃ k', k = k' + 1 := ⟨k - 1, by omega⟩
    by_cases hi : (i : Int) < n
    · have e2 : W ((i : Int) + 1) = ((i + 1 : Nat) : Int) := by rw [W_id (by omega) (by omega)]; omega
      have hp := put_mk (n := n) (u := List.replicate i true) h1 h2 (by simpa using hi)
      rw [List.length_replicate] at hp
      have hr : List.replicate i true ++ [true] = List.replicate (i + 1) true := by rw [List.replicate_succ']
      simp only [f4_L6, f4_L6_s, hi, decide_true, cond_true, hp, bne_self_eq_false, cond_false, e2, hr]
      exact ih (i + 1) k (by omega) (by omega) (by omega)
    · have e : n.toNat = i := by omega
      simp only [f4_L6, f4_L6_s, hi, decide_false, cond_false, e]

theorem f4_L17_ok {n : Int} {l : List Int} (h1 : 1 ≤ n) (h2 : n ≤ 64) (hl : ∀ x ∈ l, 0 ≤ x ∧ x ≤ 255) (hm : l.length ≤ 60) {N : Nat} {k0 : Int → List Bool → Pm.Pool → Option R} : ∀ (m i k : Nat) (u : List Bool), l.length - i ≤ m → m < k → (u.length : Int) = n →
    ∃ u' : List Bool, (u'.length : Int) = n ∧ f4_L17 N k0 k n u l l.length i (mkP n u 0) = k0 n u' (mkP n u' 0) := by
  intro m
  induction m with
  | zero =>
    intro i k u a1 a2 a3
    obtain ⟨k, rfl⟩ : ∃ k', k = k' + 1 := ⟨k - 1, by omega⟩
    refine ⟨u, a3, ?_⟩
    simp only [f4_L17, f4_L17_s, show ¬ ((i : Int) < (l.length : Int)) by omega, decide_false, cond_false]
  | succ m ih =>
    intro i k u a1 a2 a3
    obtain ⟨k, rfl⟩ : ∃ k', k = k' + 1 := ⟨k - 1, by omega⟩
    by_cases hi : i < l.length
    · have e2 : W ((i : Int) + 1) = ((i + 1 : Nat) : Int) := by rw [W_id (by omega) (by omega)]; omega
      have hx : 0 ≤ l.getD i 0 ∧ l.getD i 0 ≤ 255 := by rw [getD_at hi]; exact hl _ (List.getElem_mem hi)
      obtain ⟨j, hj⟩ : ∃ j : Nat, Int.tmod (W (l.getD i 0)) n = (j : Int) := by
        rw [W_id (by omega) (by omega), Int.tmod_eq_emod_of_nonneg hx.1]
        exact ⟨(l.getD i 0 % n).toNat, (Int.toNat_of_nonneg (Int.emod_nonneg _ (by omega))).symm⟩
      have hjn : (j : Int) < n := by rw [← hj]; exact Int.tmod_lt_of_pos _ (by omega)
      have hju : j < u.length := by omega
      obtain ⟨u', b1, b2⟩ := ih (i + 1) k (u.set j true) (by omega) (by omega) (by rw [List.length_set]; exact a3)
      refine ⟨u', b1, ?_⟩
      rw [← b2]
      simp only [f4_L17, f4_L17_s, show (i : Int) < (l.length : Int) by omega, decide_true, cond_true, Int.toNat_natCast, blt_iff.2 hi, show (0 : Int) ≤ (i : Int) by omega, Bool.true_and, dfltI, hj, show ¬ n = 0 by omega, decide_false, Bool.not_false, blt_iff.2 hju, show (0 : Int) ≤ (j : Int) by omega, e2,
        use_mk h1 h2 (show (u.length : Int) ≤ n by omega) (.inr rfl) hju]
    · refine ⟨u, a3, ?_⟩
      simp only [f4_L17, f4_L17_s, show ¬ ((i : Int) < (l.length : Int)) by omega, decide_false, cond_false]

theorem dfltB : (default : Bool) = false := rfl

theorem f4_L25_ok {n id f : Int} {u : List Bool} {q : Pm.Pool} (hn : (u.length : Int) = n) (h2 : n ≤ 64) {N : Nat} {k0 : Int → Int → Int → List Bool → Bool → Pm.Pool → Option R} : ∀ (m i k : Nat) (b : Bool), u.length - i ≤ m → m < k → 
    f4_L25 N k0 k n id f u b i q = k0 n id f u (b && (u.drop i).all (fun x => x)) q := by
  intro m
  induction m with
  | zero =>
    intro i k b a1 a2
    obtain ⟨k, rfl⟩ : ∃ k', k = k' + 1 := ⟨k - 1, by omega⟩
    rw [List.drop_of_length_le (by omega)]
    simp only [f4_L25, f4_L25_s, show ¬ ((i : Int) < n) by omega, decide_false, cond_false, List.all_nil, Bool.and_true]
  | succ m ih =>
    intro i k b a1 a2
    obtain ⟨k, rfl⟩ : ∃ k', k = k' + 1 := ⟨k - 1, by omega⟩
    by_cases hi : i < u.length
    · have e2 : W ((i : Int) + 1) = ((i + 1 : Nat) : Int) := by rw [W_id (by omega) (by omega)]; omega
      rw [drop_at false hi]
      cases b with
      | false =>
        simp only [f4_L25, f4_L25_s, show (i : Int) < n by omega, decide_true, cond_true, cond_false, e2]
        rw [ih (i + 1) k false (by omega) (by omega)]; rfl
      | true =>
        simp only [f4_L25, f4_L25_s, show (i : Int) < n by omega, decide_true, cond_true, e2, Int.toNat_natCast, blt_iff.2 hi, show (0 : Int) ≤ (i : Int) by omega, Bool.true_and, dfltB]
        rw [ih (i + 1) k _ (by omega) (by omega)]
        simp only [List.all_cons]
    · rw [List.drop_of_length_le (by omega)]
      simp only [f4_L25, f4_L25_s, show ¬ ((i : Int) < n) by omega, decide_false, cond_false, List.all_nil, Bool.and_true]

theorem f4_L31_ok {id : Nat} {u : List Bool} {q : Pm.Pool} (hid : id < u.length) (hl : u.length ≤ 64) (hp : ∀ i, i < id → u.getD i false = true) {N : Nat} {k0 : Bool → Option R} {k1 : Int → Pm.Pool → Option R} : ∀ (m i k : Nat), id - i ≤ m → m < k →
    f4_L31 N k0 k1 k id u i q = k1 id q := by
  intro m
  induction m with
  | zero =>
    intro i k a1 a2
    obtain ⟨k, rfl⟩ : ∃ k', k = k' + 1 := ⟨k - 1, by omega⟩
    simp only [f4_L31, f4_L31_s, show ¬ ((i : Int) < (id : Int)) by omega, decide_false, cond_false]
  | succ m ih =>
    intro i k a1 a2
    obtain ⟨k, rfl⟩ : ∃ k', k = k' + 1 := ⟨k - 1, by omega⟩
    by_cases hi : i < id
    · have e2 : W ((i : Int) + 1) = ((i + 1 : Nat) : Int) := by rw [W_id (by omega) (by omega)]; omega
      simp only [f4_L31, f4_L31_s, show (i : Int) < (id : Int) by omega, decide_true, cond_true, Int.toNat_natCast, blt_iff.2 (show i < u.length by omega), show (0 : Int) ≤ (i : Int) by omega, Bool.true_and, dfltB, hp i hi, Bool.not_true, cond_false, e2]
      exact ih (i + 1) k (by omega) (by omega)
    · simp only [f4_L31, f4_L31_s, show ¬ ((i : Int) < (id : Int)) by omega, decide_false, cond_false]

end Go.Ab

namespace Go.Ab
open Go

variable {R : Type}

theorem sw_stop {u : List Bool} {h : Nat} (hs : u.getD h false = false) : ∀ m, sw m u h = (u, h)
  | 0 => rfl
  | m + 1 => by simp only [sw, hs, cond_false]

theorem fin_ok {n : Int} {u : List Bool} {h : Nat} (h1 : 1 ≤ n) (h2 : n ≤ 64) (h3 : (u.length : Int) ≤ n) (h4 : h < u.length) (hs : u.getD h false = false) {K : Bool → Option R} :
    (let r7 := goVictim (mkP n u h)
     bif (r7.2.2 == 0) then
       bif (r7.2.1 == (h : Int)) then
         bif goSameC (mkP n u h) r7.1 then
         let r8 := goSame (mkP n u h) r7.1
         K r8
         else none
       else
         K false
     else
       K false) = K true := by
  have hc : goSameC (mkP n u h) (mkP n u h) = true := by
    unfold goSameC; rw [ble_iff]; simp only [mkP, fr_len, most]; omega
  have hq : goSame (mkP n u h) (mkP n u h) = true := by
    unfold goSame; exact decide_eq_true ⟨rfl, rfl, rfl⟩
  simp only [victim_mk h1 h2 h3 h4, sw_stop hs, beq_self_eq_true, cond_true, hc, hq]

theorem sp4' {N : Nat} (hN : 1000 ≤ N) {size : Int} {uses : List Int} {K : Bool → Option R} (hc : goLawPC size uses = true) : f4 N size uses K = K true := by
  simp only [goLawPC, Bool.and_eq_true, decide_eq_true_iff, List.all_eq_true] at hc
  obtain ⟨c0, c1, c2⟩ := hc
  have e : W (2 + Int.tmod (W size) 8) = 2 + size % 8 := by
    rw [W_id (x := size) (by omega) (by omega), Int.tmod_eq_emod_of_nonneg c0, W_id (by omega) (by omega)]
  unfold f4
  simp only [goAwake10, Bool.not_true, Bool.not_false, cond_true, e]
  by_cases hl : (uses.length : Int) > 60
  · simp only [hl, decide_true, cond_true]
  simp only [hl, decide_false, cond_false]
  generalize hn : 2 + size % 8 = n
  have n1 : 2 ≤ n := by omega
  have n2 : n ≤ 9 := by omega
  have hnew : goPoolNew n = (⟨n, [], 0⟩, 0) := by unfold goPoolNew; rw [if_pos (by omega)]
  simp only [hnew]
  refine (f4_L6_ok (n := n) (by omega) (by omega) n.toNat 0 N (by omega) (by omega) (by omega)).trans ?_
  have hrl : (List.replicate n.toNat true).length = n.toNat := List.length_replicate
  have hs0 := swept (u := List.replicate n.toNat true) (by omega) (by omega)
  have hall : (List.replicate n.toNat true).all id = true := by simp
  obtain ⟨z1, z2⟩ := hs0.all hall
  have hv0 := victim_mk (n := n) (u := List.replicate n.toNat true) (h := 0) (by omega) (by omega) (by omega) (by omega)
  rw [z1, z2, hrl] at hv0
  simp only [hv0, bne_self_eq_false, Bool.not_false, cond_true, Int.natCast_zero, cond_false, show (0 : Int) ≤ n by omega, Int.le_refl, show n ≤ (most : Int) by simp only [most]; omega, decide_true, Bool.and_self]
  obtain ⟨u, hu, hL⟩ := f4_L17_ok (R := R) (n := n) (l := uses) (by omega) (by omega) c2 (by omega) (N := N) (k0 := fun n01 marked p1 =>
                    let r6 := goVictim p1
                    f4_L25 N
                      (fun n02 id0 f marked1 all q =>
                        bif !(f != 0) then
                          bif !(decide (id0 < 0)) then
                            bif !(decide (id0 ≥ n02)) then
                              bif !all then
                                bif (decide (0 ≤ id0) && Nat.blt id0.toNat marked1.length) then
                                bif !(List.getD marked1 id0.toNat default) then
                                  bif all then
                                    bif (id0 != 0) then
                                      K false
                                    else
                                      f4_L31 N
                                        (fun t41 =>
                                          K t41)
                                        (fun id01 q1 =>
                                          let r7 := goVictim q1
                                          bif (r7.2.2 == 0) then
                                            bif (r7.2.1 == id01) then
                                              bif goSameC q1 r7.1 then
                                              let r8 := goSame q1 r7.1
                                              K r8
                                              else none
                                            else
                                              K false
                                          else
                                            K false)
                                        N id0 marked1 0 q
                                  else
                                    f4_L31 N
                                      (fun t42 =>
                                        K t42)
                                      (fun id02 q2 =>
                                        let r9 := goVictim q2
                                        bif (r9.2.2 == 0) then
                                          bif (r9.2.1 == id02) then
                                            bif goSameC q2 r9.1 then
                                            let r10 := goSame q2 r9.1
                                            K r10
                                            else none
                                          else
                                            K false
                                        else
                                          K false)
                                      N id0 marked1 0 q
                                else
                                  K false
                                else none
                              else
                                bif all then
                                  bif (id0 != 0) then
                                    K false
                                  else
                                    f4_L31 N
                                      (fun t43 =>
                                        K t43)
                                      (fun id03 q3 =>
                                        let r11 := goVictim q3
                                        bif (r11.2.2 == 0) then
                                          bif (r11.2.1 == id03) then
                                            bif goSameC q3 r11.1 then
                                            let r12 := goSame q3 r11.1
                                            K r12
                                            else none
                                          else
                                            K false
                                        else
                                          K false)
                                      N id0 marked1 0 q
                                else
                                  f4_L31 N
                                    (fun t44 =>
                                      K t44)
                                    (fun id04 q4 =>
                                      let r13 := goVictim q4
                                      bif (r13.2.2 == 0) then
                                        bif (r13.2.1 == id04) then
                                          bif goSameC q4 r13.1 then
                                          let r14 := goSame q4 r13.1
                                          K r14
                                          else none
                                        else
                                          K false
                                      else
                                        K false)
                                    N id0 marked1 0 q
                            else
                              K false
                          else
                            K false
                        else
                          K false)
                      N n01 r6.2.1 r6.2.2 marked true 0 r6.1) uses.length 0 N (List.replicate n.toNat false) (by omega) (by omega) (by rw [List.length_replicate]; omega)
  refine hL.trans ?_
  clear hL
  have hul : 1 ≤ u.length := by omega
  have hs := swept (u := u) hul (by omega)
  have hv := victim_mk (n := n) (u := u) (h := 0) (by omega) (by omega) (by omega) (by omega)
  obtain ⟨q1, q2⟩ := sw_len u.length u 0 (by omega)
  have hstop := hs.stop
  have hpre := hs.pre
  have hlt := hs.lt
  have hsome := hs.some
  have hallz := hs.all
  simp only [hv]
  generalize sw u.length u 0 = q at *
  refine (f4_L25_ok hu (by omega) u.length 0 N true (by omega) (by omega)).trans ?_
  simp only [bne_self_eq_false, Bool.not_false, cond_true, show ¬ ((q.2 : Int) < 0) by omega, decide_false, show ¬ ((q.2 : Int) ≥ n) by omega, Int.toNat_natCast, blt_iff.2 hlt, show (0 : Int) ≤ (q.2 : Int) by omega, decide_true, Bool.true_and, List.drop_zero, dfltB]
  have hfin := fin_ok (R := R) (n := n) (u := q.1) (h := q.2) (by omega) (by omega) (by omega) (by omega) hstop (K := K)
  have hL31 : ∀ (k0 : Bool → Option R) (k1 : Int → Pm.Pool → Option R), f4_L31 N k0 k1 N q.2 u 0 (mkP n q.1 q.2) = k1 q.2 (mkP n q.1 q.2) := fun k0 k1 => f4_L31_ok hlt (by omega) hpre q.2 0 N (by omega) (by omega)
  cases ha : u.all (fun x => x) with
  | true =>
    have hz := hallz ha
    have hb : ((q.2 : Int) != 0) = false := by rw [hz.1]; rfl
    simp only [Bool.not_true, cond_false, cond_true, hb, hL31]
    exact hfin
  | false =>
    have hm : u.getD q.2 false = false := by
      rcases hsome with h | h
      · have : u.all (fun x => x) = true := h
        rw [ha] at this; cases this
      · exact h
    simp only [Bool.not_false, cond_true, hm, cond_false, hL31]
    exact hfin

theorem sp4 {size : Int} {uses : List Int} {K : Bool → Option R} (hc : goLawPC size uses = true) : f4 big size uses K = K (goTruePC size uses) := sp4' (by simp [big]) hc

end Go.Ab

namespace Go.Ab
open Go

variable {R : Type}

theorem sp19 {p : Pm.Pool} {id : Int} {K : Pm.Pool → Int → Option R} : f19 big p id K = K (goDrop p id).1 (goDrop p id).2 := by
  unfold f19 goDrop
  cases hv : goPoolV p with
  | false => rfl
  | true =>
    have hl := valid_len hv
    have hc : goFindC p id = true := ble_iff.2 (by simp only [most]; omega)
    simp only [Bool.not_true, cond_false, hc, cond_true]
    have hs : goFind p id = -1 ∨ (0 ≤ goFind p id ∧ goFind p id < 0 + p.frames.length) := findF_spec p.frames id 0 (by omega)
    generalize hi : goFind p id = i at hs ⊢
    by_cases h0 : i < 0
    · simp only [h0, decide_true, cond_true, if_true]
    have hi2 : i.toNat < p.frames.length := by omega
    have e : W (i + 1) = i + 1 := W_id (by omega) (by omega)
    have e2 : W (p.hand - 1) = p.hand - 1 := W_id (by omega) (by omega)
    have e3 : (i + 1).toNat = i.toNat + 1 := by omega
    have e4 : p.frames.eraseIdx i.toNat = List.take i.toNat p.frames ++ List.drop (i.toNat + 1) p.frames := List.eraseIdx_eq_take_drop_succ ..
    simp only [h0, decide_false, cond_false, if_false, show 0 ≤ i by omega, decide_true, Bool.true_and, blt_iff.2 hi2, cond_true]
    cases hd : (p.frames.getD i.toNat default).dirty with
    | true => simp only [cond_true]
    | false =>
      simp only [cond_false, e, e2, e3, e4, show i < i + 1 by omega, show i + 1 ≤ (p.frames.length : Int) by omega, decide_true, Bool.true_and, ble_iff.2 (show p.frames.length ≤ most by simp only [most]; omega), cond_true]
      generalize List.take i.toNat p.frames ++ List.drop (i.toNat + 1) p.frames = l
      by_cases h1 : i < p.hand
      · simp only [h1, decide_true, cond_true, if_true]
        by_cases h2 : p.hand - 1 ≥ (l.length : Int)
        · simp only [h2, decide_true, cond_true, if_true]
        · simp only [h2, decide_false, cond_false, if_false]
      · simp only [h1, decide_false, cond_false, if_false]
        by_cases h2 : p.hand ≥ (l.length : Int)
        · simp only [h2, decide_true, cond_true, if_true]
        · simp only [h2, decide_false, cond_false, if_false]

theorem sp20 {p : Pm.Pool} {id : Int} {K : Pm.Page → Bool → Option R} : f20 big p id K = K (goGet p id).1 (goGet p id).2 := by
  unfold f20 goGet
  by_cases h : goPoolFind p id ≥ 0
  · obtain ⟨hv, he, hlt⟩ := poolFind_spec h
    have h0 : 0 ≤ goPoolFind p id := h
    have hb : Nat.blt (goPoolFind p id).toNat p.frames.length = true := blt_iff.2 (by omega)
    simp only [h, decide_true, cond_true, h0, hb, Bool.true_and, if_true]
  · simp only [h, decide_false, cond_false, show ¬ 0 ≤ goPoolFind p id from h, if_false]

def limB (n k : Int) : Bool :=
  let p := mkP n (List.replicate n.toNat true) 0
  let r4 := goPoolPut p ⟨n, 0, default⟩
  let r5 := goPoolPut p ⟨k, 0, default⟩
  let r6 := goDrop p k
  let r7 := goGet r6.1 k
  let r8 := goPoolPut r6.1 ⟨n, 0, default⟩
  let r9 := goDrop r6.1 k
  (r4.2 == 21) && ((r5.2 == 25) && ((r6.2 == 0) && (!r7.2 && ((r8.2 == 0) && (((r8.1.frames.length : Int) == n) && ((goPoolFind r8.1 n == W (n - 1)) && ((r9.2 == 18) && goPoolV r8.1)))))))

theorem limB_all : ((List.range 10).all fun n => (List.range (n + 1)).all fun k => limB ((n + 1 : Nat) : Int) (k : Int)) = true := by kernel_rfl

theorem f5_L6_ok {d n e : Int} (h1 : 1 ≤ n) (h2 : n ≤ 64) {N : Nat} {k0 : Bool → Option R} {k1 : Int → Int → Int → Pm.Pool → Option R} : ∀ (m i k : Nat), n.toNat - i ≤ m → m < k → (i : Int) ≤ n →
    f5_L6 N k0 k1 k d n e i (mkP n (List.replicate i true) 0) = k1 d n e (mkP n (List.replicate n.toNat true) 0) := by
  intro m
  induction m with
  | zero =>
    intro i k a1 a2 a3
    obtain ⟨k, rfl⟩ : ∃ k', k = k' + 1 := ⟨k - 1, by omega⟩
    have e : n.toNat = i := by omega
    simp only [f5_L6, f5_L6_s, show ¬ ((i : Int) < n) by omega, decide_false, cond_false, e]
  | succ m ih =>
    intro i k a1 a2 a3
    obtain ⟨k, rfl⟩ : ∃ k', k = k' + 1 := ⟨k - 1, by omega⟩
    by_cases hi : (i : Int) < n
    · have e2 : W ((i : Int) + 1) = ((i + 1 : Nat) : Int) := by rw [W_id (by omega) (by omega)]; omega
      have hp := put_mk (n := n) (u := List.replicate i true) h1 h2 (by simpa using hi)
      rw [List.length_replicate] at hp
      have hr : List.replicate i true ++ [true] = List.replicate (i + 1) true := by rw [List.replicate_succ']
      simp only [f5_L6, f5_L6_s, hi, decide_true, cond_true, hp, bne_self_eq_false, cond_false, e2, hr]
      exact ih (i + 1) k (by omega) (by omega) (by omega)
    · have e : n.toNat = i := by omega
      simp only [f5_L6, f5_L6_s, hi, decide_false, cond_false, e]

theorem sp5' {N : Nat} (hN : 1000 ≤ N) {size d : Int} {K : Bool → Option R} (hc : goLawPL size d = true) : f5 N size d K = K true := by
  simp only [goLawPL, Bool.and_eq_true, decide_eq_true_iff] at hc
  obtain ⟨c0, c1, c2, c3⟩ := hc
  have e : W (1 + Int.tmod (W size) 10) = 1 + size % 10 := by
    rw [W_id (x := size) (by omega) (by omega), Int.tmod_eq_emod_of_nonneg c0, W_id (by omega) (by omega)]
  unfold f5
  simp only [goAwake10, Bool.not_true, cond_false, e]
  generalize hn : 1 + size % 10 = n
  have n1 : 1 ≤ n := by omega
  have n2 : n ≤ 10 := by omega
  have hnew : goPoolNew n = (⟨n, [], 0⟩, 0) := by unfold goPoolNew; rw [if_pos (by omega)]
  simp only [hnew]
  refine (f5_L6_ok (n := n) (by omega) (by omega) n.toNat 0 N (by omega) (by omega) (by omega)).trans ?_
  obtain ⟨k, hk⟩ : ∃ k : Nat, Int.tmod (W d) n = (k : Int) := by
    rw [W_id (by omega) (by omega), Int.tmod_eq_emod_of_nonneg c2]
    exact ⟨(d % n).toNat, (Int.toNat_of_nonneg (Int.emod_nonneg _ (by omega))).symm⟩
  have hkn : (k : Int) < n := by rw [← hk]; exact Int.tmod_lt_of_pos _ (by omega)
  have hL : limB n k = true := by
    have h := List.all_eq_true.1 limB_all (n.toNat - 1) (List.mem_range.2 (by omega))
    have h := List.all_eq_true.1 h k (List.mem_range.2 (by omega))
    rw [show (((n.toNat - 1 + 1 : Nat)) : Int) = n by omega] at h
    exact h
  simp only [limB, Bool.and_eq_true] at hL
  obtain ⟨l1, l2, l3, l4, l5, l6, l7, l8, l9⟩ := hL
  simp only [hk, show ¬ n = 0 by omega, decide_false, Bool.not_false, cond_true, beq_self_eq_true, l1, l2, l3, l4, l5, l6, l7, l8, l9]

theorem sp5 {size d : Int} {K : Bool → Option R} (hc : goLawPL size d = true) : f5 big size d K = K (goTruePL size d) := sp5' (by simp [big]) hc

end Go.Ab
