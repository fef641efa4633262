/- pagemendlaw25.ArchiverParts -/
import Derived.Test.YtmkfncnbedmdjaaAbsC
import Derived.Test.YtmkfncnbedmdjaaAbsA
import Derived.Test.YtmkfncnbedmdjaaAbsL
import Derived.Test.YtmkfncnbedmdjaaProg
import Derived.KernelRfl
import Derived.WalkKit

namespace Go.Ab
open Go

/- What the functions compute, in plain Lean. -/
def goNaN (_ : Int) : Bool := false
def goLess (x y : Int) : Bool := decide (x < y)
def goSearchC (x : List Int) (_ : Int) : Bool := decide (x.Pairwise (· < ·)) && Nat.ble x.length most
def cntLt (x : List Int) (t : Int) : Nat := x.countP fun y => decide (y < t)
def goSearch (x : List Int) (t : Int) : Int × Bool := ((cntLt x t : Int), decide (t ∈ x))
def goPartC (a : Pm.Archive) (i : Int) : Bool := decide (0 ≤ i) && (decide (i < (a.bounds.length : Int)) && Nat.ble a.bounds.length most)
def goPart (a : Pm.Archive) (i : Int) : Int × Int := (a.bounds.getD i.toNat 0, if i + 1 < (a.bounds.length : Int) then W (a.bounds.getD (i.toNat + 1) 0 - 1) else W (a.pages - 1))
def filesOk : Int → Int → List Pm.File → Bool
  | _, _, [] => true
  | last, s, f :: r => decide (last < f.id) && (decide (f.id < s) && filesOk f.id s r)
def goValidA (a : Pm.Archive) : Bool :=
  decide (1 ≤ a.pages ∧ a.pages ≤ 64 ∧ 1 ≤ a.bounds.length ∧ a.bounds.length ≤ 16 ∧ a.bounds.getD 0 0 = 0 ∧ a.bounds.getD (a.bounds.length - 1) 0 < a.pages ∧ a.bounds.Pairwise (· < ·) ∧
    1 ≤ a.next ∧ a.next ≤ 1099511627777 ∧ 1 ≤ a.serial ∧ a.serial ≤ 1073741825 ∧ a.files.length ≤ 256) && filesOk 0 a.serial a.files
def goNewAC (_ : Int) (b : List Int) : Bool := Nat.ble b.length most
def goNewA (p : Int) (b : List Int) : Pm.Archive × Int := bif goValidA ⟨b, p, [], 1, 1⟩ then (⟨b, p, [], 1, 1⟩, 0) else (default, 54)
def goPartA (a : Pm.Archive) (page : Int) : Int × Int × Bool :=
  bif goValidA a && (decide (0 ≤ page) && decide (page < a.pages)) then
    let r := goSearch a.bounds page
    let p := goPart a (bif r.2 then r.1 else r.1 - 1)
    (p.1, p.2, true)
  else (0, 0, false)
def goCodesC (_ : List Int) (m : Int) : Bool := decide (0 ≤ m)
def goCodes (l : List Int) (m : Int) : Pm.Codes := ⟨l.take m.toNat, 0⟩
def okc (c : Pm.Codes) : Bool := decide (0 ≤ c.at_) && Nat.ble c.list.length most
def goNextSC (c : Pm.Codes) (n : Int) : Bool := okc c && decide (n ≤ 256)
def goNextS (c : Pm.Codes) (n : Int) : Int × Pm.Codes :=
  if c.at_ ≥ (c.list.length : Int) ∨ n < 1 then (0, c) else ((W (c.list.getD c.at_.toNat 0)).tmod n, ⟨c.list, c.at_ + 1⟩)
def goNextC (c : Pm.Codes) (_ : Int) : Bool := okc c
def goNext (c : Pm.Codes) (n : Int) : Int × Pm.Codes :=
  if n ≤ 256 then goNextS c n else if c.at_ ≥ (c.list.length : Int) then (0, c) else
    let r := goNextS ⟨c.list, c.at_ + 1⟩ 256
    ((W (W (256 * W (c.list.getD c.at_.toNat 0)) + r.1)).tmod n, r.2)
def goBoundsC (c : Pm.Codes) (p : Int) : Bool := okc c && decide (p ≤ 1073741824)
def bndLoop : Nat → Int → List Int → Pm.Codes → List Int × Pm.Codes
  | 0, _, l, c => (l, c)
  | m + 1, i, l, c =>
    let r := goNext c 3
    bndLoop m (i + 1) (if r.1 = 0 ∧ l.length < 16 then l ++ [i] else l) r.2
def goBounds (c : Pm.Codes) (p : Int) : List Int × Pm.Codes := bndLoop (p - 1).toNat 1 [0] c
def goAwake : Bool := true
def goLaw25C (_ : List Int) (p : Int) : Bool := decide (0 ≤ p) && decide (p ≤ 255)
def goTrue2 (_ : List Int) (_ : Int) : Bool := true

end Go.Ab

namespace Go.Ab
open Go Go.Proofs

def codes : List (TypeId × EC) := [(3, .int), (4, .bool), (5, .u8), (9, .str), (26, .ints), (27, .files), (29, .archive), (30, .int), (39, .pool), (44, .cell), (45, .slots), (47, .page), (66, .dirty), (78, .codes), (86, .frame), (101, .file), (108, .builder), (111, .u32)]

/- cmp.isNaN[int] -/
def f79 {R : Type} (N : Nat) (x : Int) (K : Bool → Option R) : Option R :=
  K (x != x)
def A79 : Ann := { w := [], iw := [], m := [], l := [], j := [], c := codes }
noncomputable def F79 : SF := (slimF Try.prog A79 79).getD ⟨0, .nop, []⟩
theorem hF79 : slimF Try.prog A79 79 = some F79 := by kernel_rfl
def C79 : Ents := []
def L79 (_ : Nat) : LoopT := fun _ _ _ => none
theorem q79 : partsF F79 = [] := by kernel_rfl
theorem l79 (N : Nat) : LOKs (tbl C79) (L79 N) F79 := loks q79 (all_nil)
theorem b79 (N : Nat) (x : Int) : bodyN (tbl C79) (L79 N) F79 [.any] [] [.val (.int .i64 x)] [] = f79 N x (fun o0 => some (.val (.bool o0), [])) := by kernel_rfl
def e79 : List PV → List (List AV) → Option (Ck × Rs)
  | [.val (.int .i64 x)], [] => some (.ok, (.val (.bool (goNaN x)), []))
  | _, _ => none

/- slices.isNaN[int] -/
def f68 {R : Type} (N : Nat) (x : Int) (K : Bool → Option R) : Option R :=
  K (x != x)
def A68 : Ann := { w := [], iw := [], m := [], l := [], j := [], c := codes }
noncomputable def F68 : SF := (slimF Try.prog A68 68).getD ⟨0, .nop, []⟩
theorem hF68 : slimF Try.prog A68 68 = some F68 := by kernel_rfl
def C68 : Ents := []
def L68 (_ : Nat) : LoopT := fun _ _ _ => none
theorem q68 : partsF F68 = [] := by kernel_rfl
theorem l68 (N : Nat) : LOKs (tbl C68) (L68 N) F68 := loks q68 (all_nil)
theorem b68 (N : Nat) (x : Int) : bodyN (tbl C68) (L68 N) F68 [.any] [] [.val (.int .i64 x)] [] = f68 N x (fun o0 => some (.val (.bool o0), [])) := by kernel_rfl
def e68 : List PV → List (List AV) → Option (Ck × Rs)
  | [.val (.int .i64 x)], [] => some (.ok, (.val (.bool (goNaN x)), []))
  | _, _ => none

/- cmp.Less[int] -/
def f67 {R : Type} (N : Nat) (x : Int) (y : Int) (K : Bool → Option R) : Option R :=
  let r1 := goNaN x
  bif r1 then
    let r2 := goNaN y
    bif !(!r2) then
      K (decide (x < y))
    else
      K true
  else
    K (decide (x < y))
def A67 : Ann := { w := [], iw := [], m := [], l := [], j := [], c := codes }
noncomputable def F67 : SF := (slimF Try.prog A67 67).getD ⟨0, .nop, []⟩
theorem hF67 : slimF Try.prog A67 67 = some F67 := by kernel_rfl
def C67 : Ents := [(79, e79)]
def L67 (_ : Nat) : LoopT := fun _ _ _ => none
theorem q67 : partsF F67 = [] := by kernel_rfl
theorem l67 (N : Nat) : LOKs (tbl C67) (L67 N) F67 := loks q67 (all_nil)
theorem b67 (N : Nat) (x : Int) (y : Int) : bodyN (tbl C67) (L67 N) F67 [.any] [] [.val (.int .i64 x), .val (.int .i64 y)] [] = f67 N x y (fun o0 => some (.val (.bool o0), [])) := by kernel_rfl
def e67 : List PV → List (List AV) → Option (Ck × Rs)
  | [.val (.int .i64 x), .val (.int .i64 y)], [] => some (.ok, (.val (.bool (goLess x y)), []))
  | _, _ => none

/- slices.BinarySearch[[]int,int] -/
def f47_L3_s {R : Type} (N : Nat) (k0 : List Int → Int → Int → Int → Option R) (rec : List Int → Int → Int → Int → Int → Option R) (x1 : List Int) (target1 : Int) (n0 : Int) (i : Int) (j : Int) : Option R :=
  bif decide (i < j) then
    bif (decide (0 ≤ W (Int.fdiv (WU (W (i + j))) 2)) && Nat.blt ((W (Int.fdiv (WU (W (i + j))) 2)).toNat) x1.length) then
    let r1 := goLess (List.getD x1 ((W (Int.fdiv (WU (W (i + j))) 2)).toNat) default) target1
    bif r1 then
      rec x1 target1 n0 (W ((W (Int.fdiv (WU (W (i + j))) 2)) + 1)) j
    else
      rec x1 target1 n0 i (W (Int.fdiv (WU (W (i + j))) 2))
    else none
  else
    k0 x1 target1 n0 i
def f47_L3 {R : Type} (N : Nat) (k0 : List Int → Int → Int → Int → Option R) : Nat → List Int → Int → Int → Int → Int → Option R
  | 0, _, _, _, _, _ => none
  | n + 1, x1, target1, n0, i, j => f47_L3_s N k0 (f47_L3 N k0 n) x1 target1 n0 i j
def f47 {R : Type} (N : Nat) (x : List Int) (target : Int) (K : Int → Bool → Option R) : Option R :=
  f47_L3 N
    (fun x1 target1 n0 i =>
      bif decide (i < n0) then
        bif (decide (0 ≤ i) && Nat.blt i.toNat x1.length) then
        bif !(List.getD x1 i.toNat default == target1) then
          bif (decide (0 ≤ i) && Nat.blt i.toNat x1.length) then
          let r2 := goNaN (List.getD x1 i.toNat default)
          bif r2 then
            let r3 := goNaN target1
            K i r3
          else
            K i false
          else none
        else
          K i true
        else none
      else
        K i false)
    N x target (x.length : Int) 0 (x.length : Int)
def mf47_L3 : Mark := ⟨[0, 1, 6, 7, 8], [], [], [], [(.tmp 0, .int)]⟩
def xf47_L3 : List (Nat × Mark) := [(2, ⟨[0, 1, 6, 7], [], [], [], [(.tmp 0, .int)]⟩)]
def A47 : Ann := { w := [], iw := [], m := [], l := [(3, (mf47_L3, xf47_L3))], j := [], c := codes }
noncomputable def F47 : SF := (slimF Try.prog A47 47).getD ⟨0, .nop, []⟩
theorem hF47 : slimF Try.prog A47 47 = some F47 := by kernel_rfl
def C47 : Ents := [(67, e67), (68, e68)]
noncomputable def Bf47_L3 : SC := subOf 6 (partsF F47)
def ef47_L3 (N : Nat) (s : Snap) (K : Out → St → Option Rs) : Option Rs :=
  match s with
  | ⟨[.sl false .int x1, .int .i64 target1, .int .i64 n0, .int .i64 i, .int .i64 j], [], []⟩ => f47_L3 N (fun x target n0 i => K (.exit 0) (stOf ⟨[0, 1, 6, 7], [], [], [], [(.tmp 0, .int)]⟩ ⟨[.sl false .int x, .int .i64 target, .int .i64 n0, .int .i64 i], [], []⟩)) N x1 target1 n0 i j
  | _ => none
def L47 (N : Nat) : LoopT := fun id s K => bif Nat.beq id 6 then ef47_L3 N s K else none
theorem tf47_L3_s (N n : Nat) (K : Out → St → Option Rs) (x1 : List Int) (target1 : Int) (n0 : Int) (i : Int) (j : Int) : loopN (fun σ K => execL (tbl C47) (L47 N) Bf47_L3 σ K) mf47_L3 xf47_L3 K (n + 1) (stOf mf47_L3 ⟨[.sl false .int x1, .int .i64 target1, .int .i64 n0, .int .i64 i, .int .i64 j], [], []⟩) = f47_L3_s N (fun x target n0 i => K (.exit 0) (stOf ⟨[0, 1, 6, 7], [], [], [], [(.tmp 0, .int)]⟩ ⟨[.sl false .int x, .int .i64 target, .int .i64 n0, .int .i64 i], [], []⟩)) (fun x1 target1 n0 i j => loopN (fun σ K => execL (tbl C47) (L47 N) Bf47_L3 σ K) mf47_L3 xf47_L3 K n (stOf mf47_L3 ⟨[.sl false .int x1, .int .i64 target1, .int .i64 n0, .int .i64 i, .int .i64 j], [], []⟩)) x1 target1 n0 i j := by kernel_rfl
theorem tf47_L3 (N : Nat) (K : Out → St → Option Rs) : ∀ (n : Nat) (x1 : List Int) (target1 : Int) (n0 : Int) (i : Int) (j : Int), loopN (fun σ K => execL (tbl C47) (L47 N) Bf47_L3 σ K) mf47_L3 xf47_L3 K n (stOf mf47_L3 ⟨[.sl false .int x1, .int .i64 target1, .int .i64 n0, .int .i64 i, .int .i64 j], [], []⟩) = f47_L3 N (fun x target n0 i => K (.exit 0) (stOf ⟨[0, 1, 6, 7], [], [], [], [(.tmp 0, .int)]⟩ ⟨[.sl false .int x, .int .i64 target, .int .i64 n0, .int .i64 i], [], []⟩)) n x1 target1 n0 i j := by
  intro n
  induction n with
  | zero => intros; rfl
  | succ n ih =>
    intro x1 target1 n0 i j
    rw [tf47_L3_s]
    simp only [f47_L3, ih]
theorem pf47_L3 (N : Nat) : PartOK (tbl C47) (L47 N) (6, true, mf47_L3, xf47_L3, Bf47_L3) := by
  intro s K r h
  have h : ef47_L3 N s K = some r := h
  unfold ef47_L3 at h
  split at h
  case h_2 => cases h
  exact ⟨N, (tf47_L3 N K N _ _ _ _ _).trans h⟩
theorem q47 : partsF F47 = [(6, true, mf47_L3, xf47_L3, Bf47_L3)] := by kernel_rfl
theorem l47 (N : Nat) : LOKs (tbl C47) (L47 N) F47 := loks q47 (all_cons (pf47_L3 N) all_nil)
theorem b47 (N : Nat) (x : List Int) (target : Int) : bodyN (tbl C47) (L47 N) F47 [.any, .any] [] [.val (.sl false .int x), .val (.int .i64 target)] [] = f47 N x target (fun o0 o1 => some (.val (.tup [.int .i64 o0, .bool o1]), [])) := by kernel_rfl
def e47 : List PV → List (List AV) → Option (Ck × Rs)
  | [.val (.sl _ cx x), .val (.int .i64 target)], [] => (castSl .int cx x).map fun x => (.chk (goSearchC x target), (.val (.tup [.int .i64 ((goSearch x target).1), .bool ((goSearch x target).2)]), []))
  | _, _ => none

/- archiver.part -/
def f48 {R : Type} (N : Nat) (a : Pm.Archive) (i : Int) (K : Int → Int → Option R) : Option R :=
  bif decide (W (i + 1) < (a.bounds.length : Int)) then
    bif (decide (0 ≤ i) && Nat.blt i.toNat a.bounds.length) then
    bif (decide (0 ≤ W (i + 1)) && Nat.blt ((W (i + 1)).toNat) a.bounds.length) then
    K (List.getD a.bounds i.toNat default) (W ((List.getD a.bounds ((W (i + 1)).toNat) default) - 1))
    else none
    else none
  else
    bif (decide (0 ≤ i) && Nat.blt i.toNat a.bounds.length) then
    K (List.getD a.bounds i.toNat default) (W (a.pages - 1))
    else none
def A48 : Ann := { w := [], iw := [], m := [], l := [], j := [], c := codes }
noncomputable def F48 : SF := (slimF Try.prog A48 48).getD ⟨0, .nop, []⟩
theorem hF48 : slimF Try.prog A48 48 = some F48 := by kernel_rfl
def C48 : Ents := []
def L48 (_ : Nat) : LoopT := fun _ _ _ => none
theorem q48 : partsF F48 = [] := by kernel_rfl
theorem l48 (N : Nat) : LOKs (tbl C48) (L48 N) F48 := loks q48 (all_nil)
theorem b48 (N : Nat) (a : Pm.Archive) (i : Int) : bodyN (tbl C48) (L48 N) F48 [.any, .any] [] [.val (.agg (enc .archive a)), .val (.int .i64 i)] [] = f48 N a i (fun o0 o1 => some (.val (.tup [.int .i64 o0, .int .i64 o1]), [])) := by kernel_rfl
def e48 : List PV → List (List AV) → Option (Ck × Rs)
  | [.val (.agg a), .val (.int .i64 i)], [] => (dec .archive a).map fun a => (.chk (goPartC a i), (.val (.tup [.int .i64 ((goPart a i).1), .int .i64 ((goPart a i).2)]), []))
  | _, _ => none

/- archiver.Valid -/
def f46_L5_s {R : Type} (N : Nat) (k0 : Bool → Option R) (k1 : Pm.Archive → Option R) (rec : Int → Int → Pm.Archive → Option R) (n0 : Int) (i : Int) (a1 : Pm.Archive) : Option R :=
  bif decide (i < n0) then
    bif (decide (0 ≤ W (i - 1)) && Nat.blt ((W (i - 1)).toNat) a1.bounds.length) then
    bif (decide (0 ≤ i) && Nat.blt i.toNat a1.bounds.length) then
    bif decide (List.getD a1.bounds ((W (i - 1)).toNat) default ≥ List.getD a1.bounds i.toNat default) then
      k0 false
    else
      rec n0 (W (i + 1)) a1
    else none
    else none
  else
    k1 a1
def f46_L5 {R : Type} (N : Nat) (k0 : Bool → Option R) (k1 : Pm.Archive → Option R) : Nat → Int → Int → Pm.Archive → Option R
  | 0, _, _, _ => none
  | n + 1, n0, i, a1 => f46_L5_s N k0 k1 (f46_L5 N k0 k1 n) n0 i a1
def f46_L13_s {R : Type} (N : Nat) (k0 : Bool → Option R) (k1 : Option R) (rec : Int → List Pm.File → Int → Int → Pm.Archive → Option R) (last : Int) (t87 : List Pm.File) (t88 : Int) (t89 : Int) (a1 : Pm.Archive) : Option R :=
  bif decide (t89 < t88) then
    bif (decide (0 ≤ t89) && Nat.blt t89.toNat t87.length) then
    bif !(decide ((List.getD t87 t89.toNat default).id ≤ last)) then
      bif decide ((List.getD t87 t89.toNat default).id ≥ a1.serial) then
        k0 false
      else
        rec ((List.getD t87 t89.toNat default).id) t87 t88 (W (t89 + 1)) a1
    else
      k0 false
    else none
  else
    k1
def f46_L13 {R : Type} (N : Nat) (k0 : Bool → Option R) (k1 : Option R) : Nat → Int → List Pm.File → Int → Int → Pm.Archive → Option R
  | 0, _, _, _, _, _ => none
  | n + 1, last, t87, t88, t89, a1 => f46_L13_s N k0 k1 (f46_L13 N k0 k1 n) last t87 t88 t89 a1
def f46 {R : Type} (N : Nat) (a : Pm.Archive) (K : Bool → Option R) : Option R :=
  bif !(decide (a.pages < 1)) then
    bif !(decide (a.pages > 64)) then
      bif !(decide ((a.bounds.length : Int) < 1)) then
        bif !(decide ((a.bounds.length : Int) > 16)) then
          bif Nat.blt 0 a.bounds.length then
          bif !(List.getD a.bounds 0 default != 0) then
            bif (decide (0 ≤ W ((a.bounds.length : Int) - 1)) && Nat.blt ((W ((a.bounds.length : Int) - 1)).toNat) a.bounds.length) then
            bif decide (List.getD a.bounds ((W ((a.bounds.length : Int) - 1)).toNat) default ≥ a.pages) then
              K false
            else
              f46_L5 N
                (fun t2 =>
                  K t2)
                (fun a1 =>
                  bif !(decide (a1.next < 1)) then
                    bif !(decide (a1.next > 1099511627777)) then
                      bif !(decide (a1.serial < 1)) then
                        bif !(decide (a1.serial > 1073741825)) then
                          bif decide ((a1.files.length : Int) > 256) then
                            K false
                          else
                            f46_L13 N
                              (fun t21 =>
                                K t21)
                              (
                                K true)
                              N 0 a1.files (a1.files.length : Int) 0 a1
                        else
                          K false
                      else
                        K false
                    else
                      K false
                  else
                    K false)
                N (a.bounds.length : Int) 1 a
            else none
          else
            K false
          else none
        else
          K false
      else
        K false
    else
      K false
  else
    K false
def mf46_L5 : Mark := ⟨[3, 4], [1], [1], [], [(.cell 1 0, .int), (.cell 1 2, .file)]⟩
def xf46_L5 : List (Nat × Mark) := [(1, ⟨[2], [], [], [], []⟩), (2, ⟨[], [1], [1], [], [(.cell 1 0, .int), (.cell 1 2, .file)]⟩)]
def mf46_L13 : Mark := ⟨[5, 87, 88, 89], [1], [1], [], [(.cell 1 0, .int), (.cell 1 2, .file), (.tmp 87, .file)]⟩
def xf46_L13 : List (Nat × Mark) := [(1, ⟨[2], [], [], [], []⟩), (4, ⟨[], [], [], [], []⟩)]
def A46 : Ann := { w := [], iw := [], m := [], l := [(5, (mf46_L5, xf46_L5)), (13, (mf46_L13, xf46_L13))], j := [], c := codes }
noncomputable def F46 : SF := (slimF Try.prog A46 46).getD ⟨0, .nop, []⟩
theorem hF46 : slimF Try.prog A46 46 = some F46 := by kernel_rfl
def C46 : Ents := []
noncomputable def Bf46_L5 : SC := subOf 10 (partsF F46)
noncomputable def Bf46_L13 : SC := subOf 26 (partsF F46)
def ef46_L5 (N : Nat) (s : Snap) (K : Out → St → Option Rs) : Option Rs :=
  match s with
  | ⟨[.int .i64 n0, .int .i64 i], [.ptr 1 0], [some [.sl false .int a1_0, .int .i64 a1_1, .sl false .file a1_2, .int .i64 a1_3, .int .i64 a1_4]]⟩ => f46_L5 N (fun t2 => K .ret (stOf ⟨[2], [], [], [], []⟩ ⟨[.bool t2], [], []⟩)) (fun a => K (.exit 0) (stOf ⟨[], [1], [1], [], [(.cell 1 0, .int), (.cell 1 2, .file)]⟩ ⟨[], [.ptr 1 0], [some [.sl false .int a.bounds, .int .i64 a.pages, .sl false .file a.files, .int .i64 a.next, .int .i64 a.serial]]⟩)) N n0 i (Pm.Archive.mk a1_0 a1_1 a1_2 a1_3 a1_4)
  | _ => none
def ef46_L13 (N : Nat) (s : Snap) (K : Out → St → Option Rs) : Option Rs :=
  match s with
  | ⟨[.int .i64 last, .sl false .file t87, .int .i64 t88, .int .i64 t89], [.ptr 1 0], [some [.sl false .int a1_0, .int .i64 a1_1, .sl false .file a1_2, .int .i64 a1_3, .int .i64 a1_4]]⟩ => f46_L13 N (fun t2 => K .ret (stOf ⟨[2], [], [], [], []⟩ ⟨[.bool t2], [], []⟩)) (K (.exit 2) (stOf ⟨[], [], [], [], []⟩ ⟨[], [], []⟩)) N last t87 t88 t89 (Pm.Archive.mk a1_0 a1_1 a1_2 a1_3 a1_4)
  | _ => none
def L46 (N : Nat) : LoopT := fun id s K => bif Nat.beq id 10 then ef46_L5 N s K else bif Nat.beq id 26 then ef46_L13 N s K else none
theorem tf46_L5_s (N n : Nat) (K : Out → St → Option Rs) (n0 : Int) (i : Int) (a1 : Pm.Archive) : loopN (fun σ K => execL (tbl C46) (L46 N) Bf46_L5 σ K) mf46_L5 xf46_L5 K (n + 1) (stOf mf46_L5 ⟨[.int .i64 n0, .int .i64 i], [.ptr 1 0], [some [.sl false .int a1.bounds, .int .i64 a1.pages, .sl false .file a1.files, .int .i64 a1.next, .int .i64 a1.serial]]⟩) = f46_L5_s N (fun t2 => K .ret (stOf ⟨[2], [], [], [], []⟩ ⟨[.bool t2], [], []⟩)) (fun a => K (.exit 0) (stOf ⟨[], [1], [1], [], [(.cell 1 0, .int), (.cell 1 2, .file)]⟩ ⟨[], [.ptr 1 0], [some [.sl false .int a.bounds, .int .i64 a.pages, .sl false .file a.files, .int .i64 a.next, .int .i64 a.serial]]⟩)) (fun n0 i a1 => loopN (fun σ K => execL (tbl C46) (L46 N) Bf46_L5 σ K) mf46_L5 xf46_L5 K n (stOf mf46_L5 ⟨[.int .i64 n0, .int .i64 i], [.ptr 1 0], [some [.sl false .int a1.bounds, .int .i64 a1.pages, .sl false .file a1.files, .int .i64 a1.next, .int .i64 a1.serial]]⟩)) n0 i a1 := by kernel_rfl
theorem tf46_L5 (N : Nat) (K : Out → St → Option Rs) : ∀ (n : Nat) (n0 : Int) (i : Int) (a1 : Pm.Archive), loopN (fun σ K => execL (tbl C46) (L46 N) Bf46_L5 σ K) mf46_L5 xf46_L5 K n (stOf mf46_L5 ⟨[.int .i64 n0, .int .i64 i], [.ptr 1 0], [some [.sl false .int a1.bounds, .int .i64 a1.pages, .sl false .file a1.files, .int .i64 a1.next, .int .i64 a1.serial]]⟩) = f46_L5 N (fun t2 => K .ret (stOf ⟨[2], [], [], [], []⟩ ⟨[.bool t2], [], []⟩)) (fun a => K (.exit 0) (stOf ⟨[], [1], [1], [], [(.cell 1 0, .int), (.cell 1 2, .file)]⟩ ⟨[], [.ptr 1 0], [some [.sl false .int a.bounds, .int .i64 a.pages, .sl false .file a.files, .int .i64 a.next, .int .i64 a.serial]]⟩)) n n0 i a1 := by
  intro n
  induction n with
  | zero => intros; rfl
  | succ n ih =>
    intro n0 i a1
    rw [tf46_L5_s]
    simp only [f46_L5, ih]
theorem pf46_L5 (N : Nat) : PartOK (tbl C46) (L46 N) (10, true, mf46_L5, xf46_L5, Bf46_L5) := by
  intro s K r h
  have h : ef46_L5 N s K = some r := h
  unfold ef46_L5 at h
  split at h
  case h_2 => cases h
  exact ⟨N, (tf46_L5 N K N _ _ _).trans h⟩
theorem tf46_L13_s (N n : Nat) (K : Out → St → Option Rs) (last : Int) (t87 : List Pm.File) (t88 : Int) (t89 : Int) (a1 : Pm.Archive) : loopN (fun σ K => execL (tbl C46) (L46 N) Bf46_L13 σ K) mf46_L13 xf46_L13 K (n + 1) (stOf mf46_L13 ⟨[.int .i64 last, .sl false .file t87, .int .i64 t88, .int .i64 t89], [.ptr 1 0], [some [.sl false .int a1.bounds, .int .i64 a1.pages, .sl false .file a1.files, .int .i64 a1.next, .int .i64 a1.serial]]⟩) = f46_L13_s N (fun t2 => K .ret (stOf ⟨[2], [], [], [], []⟩ ⟨[.bool t2], [], []⟩)) (K (.exit 2) (stOf ⟨[], [], [], [], []⟩ ⟨[], [], []⟩)) (fun last t87 t88 t89 a1 => loopN (fun σ K => execL (tbl C46) (L46 N) Bf46_L13 σ K) mf46_L13 xf46_L13 K n (stOf mf46_L13 ⟨[.int .i64 last, .sl false .file t87, .int .i64 t88, .int .i64 t89], [.ptr 1 0], [some [.sl false .int a1.bounds, .int .i64 a1.pages, .sl false .file a1.files, .int .i64 a1.next, .int .i64 a1.serial]]⟩)) last t87 t88 t89 a1 := by kernel_rfl
theorem tf46_L13 (N : Nat) (K : Out → St → Option Rs) : ∀ (n : Nat) (last : Int) (t87 : List Pm.File) (t88 : Int) (t89 : Int) (a1 : Pm.Archive), loopN (fun σ K => execL (tbl C46) (L46 N) Bf46_L13 σ K) mf46_L13 xf46_L13 K n (stOf mf46_L13 ⟨[.int .i64 last, .sl false .file t87, .int .i64 t88, .int .i64 t89], [.ptr 1 0], [some [.sl false .int a1.bounds, .int .i64 a1.pages, .sl false .file a1.files, .int .i64 a1.next, .int .i64 a1.serial]]⟩) = f46_L13 N (fun t2 => K .ret (stOf ⟨[2], [], [], [], []⟩ ⟨[.bool t2], [], []⟩)) (K (.exit 2) (stOf ⟨[], [], [], [], []⟩ ⟨[], [], []⟩)) n last t87 t88 t89 a1 := by
  intro n
  induction n with
  | zero => intros; rfl
  | succ n ih =>
    intro last t87 t88 t89 a1
    rw [tf46_L13_s]
    simp only [f46_L13, ih]
theorem pf46_L13 (N : Nat) : PartOK (tbl C46) (L46 N) (26, true, mf46_L13, xf46_L13, Bf46_L13) := by
  intro s K r h
  have h : ef46_L13 N s K = some r := h
  unfold ef46_L13 at h
  split at h
  case h_2 => cases h
  exact ⟨N, (tf46_L13 N K N _ _ _ _ _).trans h⟩
theorem q46 : partsF F46 = [(10, true, mf46_L5, xf46_L5, Bf46_L5), (26, true, mf46_L13, xf46_L13, Bf46_L13)] := by kernel_rfl
theorem l46 (N : Nat) : LOKs (tbl C46) (L46 N) F46 := loks q46 (all_cons (pf46_L5 N) (all_cons (pf46_L13 N) all_nil))
theorem b46 (N : Nat) (a : Pm.Archive) : bodyN (tbl C46) (L46 N) F46 [.any] [] [.val (.agg (enc .archive a))] [] = f46 N a (fun o0 => some (.val (.bool o0), [])) := by kernel_rfl
def e46 : List PV → List (List AV) → Option (Ck × Rs)
  | [.val (.agg a)], [] => (dec .archive a).map fun a => (.ok, (.val (.bool (goValidA a)), []))
  | _, _ => none

/- archiver.New -/
def f10 {R : Type} (N : Nat) (pages : Int) (bounds : List Int) (K : Pm.Archive → Int → Option R) : Option R :=
  bif Nat.ble bounds.length most then
  let r1 := goValidA (Pm.Archive.mk bounds pages [] 1 1)
  bif !r1 then
    K default 54
  else
    K (Pm.Archive.mk bounds pages [] 1 1) 0
  else none
def A10 : Ann := { w := [], iw := [], m := [], l := [], j := [], c := codes }
noncomputable def F10 : SF := (slimF Try.prog A10 10).getD ⟨0, .nop, []⟩
theorem hF10 : slimF Try.prog A10 10 = some F10 := by kernel_rfl
def C10 : Ents := [(46, e46)]
def L10 (_ : Nat) : LoopT := fun _ _ _ => none
theorem q10 : partsF F10 = [] := by kernel_rfl
theorem l10 (N : Nat) : LOKs (tbl C10) (L10 N) F10 := loks q10 (all_nil)
theorem b10 (N : Nat) (pages : Int) (bounds : List Int) : bodyN (tbl C10) (L10 N) F10 [.el .archive, .any] [] [.val (.int .i64 pages), .val (.sl false .int bounds)] [] = f10 N pages bounds (fun o0 o1 => some (.val (.tup [.agg (enc .archive o0), .int .i64 o1]), [])) := by kernel_rfl
def e10 : List PV → List (List AV) → Option (Ck × Rs)
  | [.val (.int .i64 pages), .val (.sl _ cbounds bounds)], [] => (castSl .int cbounds bounds).map fun bounds => (.chk (goNewAC pages bounds), (.val (.tup [.agg (enc .archive (goNewA pages bounds).1), .int .i64 ((goNewA pages bounds).2)]), []))
  | _, _ => none

/- archiver.Part -/
def f12 {R : Type} (N : Nat) (a : Pm.Archive) (page : Int) (K : Int → Int → Bool → Option R) : Option R :=
  let r1 := goValidA a
  bif !(!r1) then
    bif !(decide (page < 0)) then
      bif decide (page ≥ a.pages) then
        K 0 0 false
      else
        bif goSearchC a.bounds page then
        let r2 := goSearch a.bounds page
        bif !r2.2 then
          bif goPartC a (W (r2.1 - 1)) then
          let r3 := goPart a (W (r2.1 - 1))
          K r3.1 r3.2 true
          else none
        else
          bif goPartC a r2.1 then
          let r4 := goPart a r2.1
          K r4.1 r4.2 true
          else none
        else none
    else
      K 0 0 false
  else
    K 0 0 false
def A12 : Ann := { w := [], iw := [], m := [], l := [], j := [], c := codes }
noncomputable def F12 : SF := (slimF Try.prog A12 12).getD ⟨0, .nop, []⟩
theorem hF12 : slimF Try.prog A12 12 = some F12 := by kernel_rfl
def C12 : Ents := [(46, e46), (47, e47), (48, e48)]
def L12 (_ : Nat) : LoopT := fun _ _ _ => none
theorem q12 : partsF F12 = [] := by kernel_rfl
theorem l12 (N : Nat) : LOKs (tbl C12) (L12 N) F12 := loks q12 (all_nil)
theorem b12 (N : Nat) (a : Pm.Archive) (page : Int) : bodyN (tbl C12) (L12 N) F12 [.any, .any, .any] [] [.val (.agg (enc .archive a)), .val (.int .i64 page)] [] = f12 N a page (fun o0 o1 o2 => some (.val (.tup [.int .i64 o0, .int .i64 o1, .bool o2]), [])) := by kernel_rfl
def e12 : List PV → List (List AV) → Option (Ck × Rs)
  | [.val (.agg a), .val (.int .i64 page)], [] => (dec .archive a).map fun a => (.ok, (.val (.tup [.int .i64 ((goPartA a page).1), .int .i64 ((goPartA a page).2.1), .bool ((goPartA a page).2.2)]), []))
  | _, _ => none

/- pagemenddraw.New -/
def f9 {R : Type} (N : Nat) (l : List Int) (most0 : Int) (K : Pm.Codes → Option R) : Option R :=
  bif decide ((l.length : Int) > most0) then
    bif (decide (0 ≤ most0) && decide (most0 ≤ (l.length : Int))) then
    K (Pm.Codes.mk (List.take most0.toNat l) 0)
    else none
  else
    K (Pm.Codes.mk l 0)
def A9 : Ann := { w := [], iw := [], m := [], l := [], j := [], c := codes }
noncomputable def F9 : SF := (slimF Try.prog A9 9).getD ⟨0, .nop, []⟩
theorem hF9 : slimF Try.prog A9 9 = some F9 := by kernel_rfl
def C9 : Ents := []
def L9 (_ : Nat) : LoopT := fun _ _ _ => none
theorem q9 : partsF F9 = [] := by kernel_rfl
theorem l9 (N : Nat) : LOKs (tbl C9) (L9 N) F9 := loks q9 (all_nil)
theorem b9 (N : Nat) (l : List Int) (most0 : Int) : bodyN (tbl C9) (L9 N) F9 [] [.codes] [.val (.sl false .u8 l), .val (.int .i64 most0)] [] = f9 N l most0 (fun o0 => some (.ptr 0 0, [enc .codes o0])) := by kernel_rfl
def e9 : List PV → List (List AV) → Option (Ck × Rs)
  | [.val (.sl _ cl l), .val (.int .i64 most0)], [] => (castSl .u8 cl l).map fun l => (.chk (goCodesC l most0), (.ptr 0 0, [enc .codes (goCodes l most0)]))
  | _, _ => none

/- (*pagemenddraw.Codes).Next -/
def f24a {R : Type} (N : Nat) (c : Pm.Codes) (n0 : Int) (K : Int → Pm.Codes → Option R) : Option R :=
  bif !(decide (c.at_ ≥ (c.list.length : Int))) then
    bif decide (n0 < 1) then
      K 0 c
    else
      bif (decide (0 ≤ c.at_) && Nat.blt c.at_.toNat c.list.length) then
      bif decide (n0 > 256) then
        none
      else
        bif !(decide (n0 = 0)) then
        K (Int.tmod (W (List.getD c.list c.at_.toNat default)) n0) (Pm.Codes.mk c.list (W (c.at_ + 1)))
        else none
      else none
  else
    K 0 c
def A24a : Ann := { w := [], iw := [], m := [], l := [], j := [], c := codes }
noncomputable def F24a : SF := (slimF Try.prog A24a 24).getD ⟨0, .nop, []⟩
theorem hF24a : slimF Try.prog A24a 24 = some F24a := by kernel_rfl
def C24a : Ents := []
def L24a (_ : Nat) : LoopT := fun _ _ _ => none
theorem q24a : partsF F24a = [] := by kernel_rfl
theorem l24a (N : Nat) : LOKs (tbl C24a) (L24a N) F24a := loks q24a (all_nil)
theorem b24a (N : Nat) (c : Pm.Codes) (n0 : Int) : bodyN (tbl C24a) (L24a N) F24a [.any] [.codes] [.ptr 1000000 0, .val (.int .i64 n0)] [enc .codes c] = f24a N c n0 (fun o0 o1 => some (.val (.int .i64 o0), [enc .codes o1])) := by kernel_rfl
def e24a : List PV → List (List AV) → Option (Ck × Rs)
  | [.ptr 1000000 0, .val (.int .i64 n0)], [c] => (dec .codes c).map fun c => (.chk (goNextSC c n0), (.val (.int .i64 ((goNextS c n0).1)), [enc .codes ((goNextS c n0).2)]))
  | _, _ => none

/- (*pagemenddraw.Codes).Next -/
def f24 {R : Type} (N : Nat) (c : Pm.Codes) (n0 : Int) (K : Int → Pm.Codes → Option R) : Option R :=
  bif !(decide (c.at_ ≥ (c.list.length : Int))) then
    bif decide (n0 < 1) then
      K 0 c
    else
      bif (decide (0 ≤ c.at_) && Nat.blt c.at_.toNat c.list.length) then
      bif decide (n0 > 256) then
        bif goNextSC (Pm.Codes.mk c.list (W (c.at_ + 1))) 256 then
        let r1 := goNextS (Pm.Codes.mk c.list (W (c.at_ + 1))) 256
        bif !(decide (n0 = 0)) then
        K (Int.tmod (W ((W (256 * (W (List.getD c.list c.at_.toNat default)))) + r1.1)) n0) r1.2
        else none
        else none
      else
        bif !(decide (n0 = 0)) then
        K (Int.tmod (W (List.getD c.list c.at_.toNat default)) n0) (Pm.Codes.mk c.list (W (c.at_ + 1)))
        else none
      else none
  else
    K 0 c
def A24 : Ann := { w := [], iw := [], m := [], l := [], j := [], c := codes }
noncomputable def F24 : SF := (slimF Try.prog A24 24).getD ⟨0, .nop, []⟩
theorem hF24 : slimF Try.prog A24 24 = some F24 := by kernel_rfl
def C24 : Ents := [(24, e24a)]
def L24 (_ : Nat) : LoopT := fun _ _ _ => none
theorem q24 : partsF F24 = [] := by kernel_rfl
theorem l24 (N : Nat) : LOKs (tbl C24) (L24 N) F24 := loks q24 (all_nil)
theorem b24 (N : Nat) (c : Pm.Codes) (n0 : Int) : bodyN (tbl C24) (L24 N) F24 [.any] [.codes] [.ptr 1000000 0, .val (.int .i64 n0)] [enc .codes c] = f24 N c n0 (fun o0 o1 => some (.val (.int .i64 o0), [enc .codes o1])) := by kernel_rfl
def e24 : List PV → List (List AV) → Option (Ck × Rs)
  | [.ptr 1000000 0, .val (.int .i64 n0)], [c] => (dec .codes c).map fun c => (.chk (goNextC c n0), (.val (.int .i64 ((goNext c n0).1)), [enc .codes ((goNext c n0).2)]))
  | _, _ => none

/- pagemendmake.Bounds -/
def f11_L3_s {R : Type} (N : Nat) (k0 : List Int → Pm.Codes → Option R) (rec : Int → List Int → Int → Pm.Codes → Option R) (pages1 : Int) (l : List Int) (i : Int) (c1 : Pm.Codes) : Option R :=
  bif decide (i < pages1) then
    bif goNextC c1 3 then
    let r1 := goNext c1 3
    bif (r1.1 == 0) then
      bif decide ((l.length : Int) < 16) then
        bif Nat.ble (l.length + [i].length) most then
        rec pages1 (l ++ [i]) (W (i + 1)) r1.2
        else none
      else
        rec pages1 l (W (i + 1)) r1.2
    else
      rec pages1 l (W (i + 1)) r1.2
    else none
  else
    k0 l c1
def f11_L3 {R : Type} (N : Nat) (k0 : List Int → Pm.Codes → Option R) : Nat → Int → List Int → Int → Pm.Codes → Option R
  | 0, _, _, _, _ => none
  | n + 1, pages1, l, i, c1 => f11_L3_s N k0 (f11_L3 N k0 n) pages1 l i c1
def f11 {R : Type} (N : Nat) (c : Pm.Codes) (pages : Int) (K : (List Int) → Pm.Codes → Option R) : Option R :=
  f11_L3 N
    (fun l c1 =>
      K l c1)
    N pages [0] 1 c
def mf11_L3 : Mark := ⟨[1, 5, 6], [0], [1000000], [(.tmp 5, 3)], [(.cell 1000000 0, .u8), (.tmp 5, .int)]⟩
def xf11_L3 : List (Nat × Mark) := [(2, ⟨[5], [], [1000000], [(.tmp 5, 3)], [(.cell 1000000 0, .u8), (.tmp 5, .int)]⟩)]
def A11 : Ann := { w := [], iw := [], m := [], l := [(3, (mf11_L3, xf11_L3))], j := [], c := codes }
noncomputable def F11 : SF := (slimF Try.prog A11 11).getD ⟨0, .nop, []⟩
theorem hF11 : slimF Try.prog A11 11 = some F11 := by kernel_rfl
def C11 : Ents := [(24, e24)]
noncomputable def Bf11_L3 : SC := subOf 6 (partsF F11)
def ef11_L3 (N : Nat) (s : Snap) (K : Out → St → Option Rs) : Option Rs :=
  match s with
  | ⟨[.int .i64 pages1, .sl false .int l, .int .i64 i], [.ptr 1000000 0], [some [.sl false .u8 c1_0, .int .i64 c1_1]]⟩ => f11_L3 N (fun l c => K (.exit 0) (stOf ⟨[5], [], [1000000], [(.tmp 5, 3)], [(.cell 1000000 0, .u8), (.tmp 5, .int)]⟩ ⟨[.sl false .int l], [], [some [.sl false .u8 c.list, .int .i64 c.at_]]⟩)) N pages1 l i (Pm.Codes.mk c1_0 c1_1)
  | _ => none
def L11 (N : Nat) : LoopT := fun id s K => bif Nat.beq id 6 then ef11_L3 N s K else none
theorem tf11_L3_s (N n : Nat) (K : Out → St → Option Rs) (pages1 : Int) (l : List Int) (i : Int) (c1 : Pm.Codes) : loopN (fun σ K => execL (tbl C11) (L11 N) Bf11_L3 σ K) mf11_L3 xf11_L3 K (n + 1) (stOf mf11_L3 ⟨[.int .i64 pages1, .sl false .int l, .int .i64 i], [.ptr 1000000 0], [some [.sl false .u8 c1.list, .int .i64 c1.at_]]⟩) = f11_L3_s N (fun l c => K (.exit 0) (stOf ⟨[5], [], [1000000], [(.tmp 5, 3)], [(.cell 1000000 0, .u8), (.tmp 5, .int)]⟩ ⟨[.sl false .int l], [], [some [.sl false .u8 c.list, .int .i64 c.at_]]⟩)) (fun pages1 l i c1 => loopN (fun σ K => execL (tbl C11) (L11 N) Bf11_L3 σ K) mf11_L3 xf11_L3 K n (stOf mf11_L3 ⟨[.int .i64 pages1, .sl false .int l, .int .i64 i], [.ptr 1000000 0], [some [.sl false .u8 c1.list, .int .i64 c1.at_]]⟩)) pages1 l i c1 := by kernel_rfl
theorem tf11_L3 (N : Nat) (K : Out → St → Option Rs) : ∀ (n : Nat) (pages1 : Int) (l : List Int) (i : Int) (c1 : Pm.Codes), loopN (fun σ K => execL (tbl C11) (L11 N) Bf11_L3 σ K) mf11_L3 xf11_L3 K n (stOf mf11_L3 ⟨[.int .i64 pages1, .sl false .int l, .int .i64 i], [.ptr 1000000 0], [some [.sl false .u8 c1.list, .int .i64 c1.at_]]⟩) = f11_L3 N (fun l c => K (.exit 0) (stOf ⟨[5], [], [1000000], [(.tmp 5, 3)], [(.cell 1000000 0, .u8), (.tmp 5, .int)]⟩ ⟨[.sl false .int l], [], [some [.sl false .u8 c.list, .int .i64 c.at_]]⟩)) n pages1 l i c1 := by
  intro n
  induction n with
  | zero => intros; rfl
  | succ n ih =>
    intro pages1 l i c1
    rw [tf11_L3_s]
    simp only [f11_L3, ih]
theorem pf11_L3 (N : Nat) : PartOK (tbl C11) (L11 N) (6, true, mf11_L3, xf11_L3, Bf11_L3) := by
  intro s K r h
  have h : ef11_L3 N s K = some r := h
  unfold ef11_L3 at h
  split at h
  case h_2 => cases h
  exact ⟨N, (tf11_L3 N K N _ _ _ _).trans h⟩
theorem q11 : partsF F11 = [(6, true, mf11_L3, xf11_L3, Bf11_L3)] := by kernel_rfl
theorem l11 (N : Nat) : LOKs (tbl C11) (L11 N) F11 := loks q11 (all_cons (pf11_L3 N) all_nil)
theorem b11 (N : Nat) (c : Pm.Codes) (pages : Int) : bodyN (tbl C11) (L11 N) F11 [.sl .int] [.codes] [.ptr 1000000 0, .val (.int .i64 pages)] [enc .codes c] = f11 N c pages (fun o0 o1 => some (.val (.sl false .int o0), [enc .codes o1])) := by kernel_rfl
def e11 : List PV → List (List AV) → Option (Ck × Rs)
  | [.ptr 1000000 0, .val (.int .i64 pages)], [c] => (dec .codes c).map fun c => (.chk (goBoundsC c pages), (.val (.sl false .int ((goBounds c pages).1)), [enc .codes ((goBounds c pages).2)]))
  | _, _ => none

/- pagemendlaw25.awake -/
def f8 {R : Type} (N : Nat) (K : Bool → Option R) : Option R :=
  bif goNewAC 8 [0, 4] then
  let r1 := goNewA 8 [0, 4]
  let r2 := goPartA r1.1 3
  bif (r1.2 == 0) then
    bif (r1.1.next == 1) then
      bif r2.2.2 then
        K (r2.2.1 == 3)
      else
        K false
    else
      K false
  else
    K false
  else none
def A8 : Ann := { w := [], iw := [], m := [], l := [], j := [], c := codes }
noncomputable def F8 : SF := (slimF Try.prog A8 8).getD ⟨0, .nop, []⟩
theorem hF8 : slimF Try.prog A8 8 = some F8 := by kernel_rfl
def C8 : Ents := [(10, e10), (12, e12)]
def L8 (_ : Nat) : LoopT := fun _ _ _ => none
theorem q8 : partsF F8 = [] := by kernel_rfl
theorem l8 (N : Nat) : LOKs (tbl C8) (L8 N) F8 := loks q8 (all_nil)
theorem b8 (N : Nat) : bodyN (tbl C8) (L8 N) F8 [.any] [] [] [] = f8 N  (fun o0 => some (.val (.bool o0), [])) := by kernel_rfl
def e8 : List PV → List (List AV) → Option (Ck × Rs)
  | [], [] => some (.ok, (.val (.bool (goAwake)), []))
  | _, _ => none

def f3_L12_s {R : Type} (N : Nat) (k0 : Bool → Option R) (k1 : Int → Int → Int → Int → Pm.Archive → Option R) (rec : Int → Int → Int → Int → Int → Int → Pm.Archive → Option R) (n0 : Int) (e : Int) (parts : Int) (low : Int) (high : Int) (id0 : Int) (a : Pm.Archive) : Option R :=
  bif decide (id0 ≤ high) then
    let r6 := goPartA a id0
    bif !(!r6.2.2) then
      bif !(r6.1 != low) then
        bif (r6.2.1 != high) then
          k0 false
        else
          rec n0 e parts low high (W (id0 + 1)) a
      else
        k0 false
    else
      k0 false
  else
    k1 n0 e parts high a
def f3_L12 {R : Type} (N : Nat) (k0 : Bool → Option R) (k1 : Int → Int → Int → Int → Pm.Archive → Option R) : Nat → Int → Int → Int → Int → Int → Int → Pm.Archive → Option R
  | 0, _, _, _, _, _, _, _ => none
  | n + 1, n0, e, parts, low, high, id0, a => f3_L12_s N k0 k1 (f3_L12 N k0 k1 n) n0 e parts low high id0 a
def f3_L7_s {R : Type} (N : Nat) (k0 : Bool → Option R) (k1 : Int → Int → Int → Int → Pm.Archive → Option R) (rec : Int → Int → Int → Int → Pm.Archive → Option R) (n0 : Int) (e : Int) (next : Int) (parts : Int) (a : Pm.Archive) : Option R :=
  bif decide (next < n0) then
    bif decide (parts ≤ n0) then
      let r5 := goPartA a next
      bif !(!r5.2.2) then
        bif !(r5.1 != next) then
          bif decide (r5.2.1 < r5.1) then
            k0 false
          else
            f3_L12 N
              (fun t4 =>
                k0 t4)
              (fun n0 e parts high a =>
                rec n0 e (W (high + 1)) (W (parts + 1)) a)
              N n0 e parts r5.1 r5.2.1 r5.1 a
        else
          k0 false
      else
        k0 false
    else
      k1 n0 e next parts a
  else
    k1 n0 e next parts a
def f3_L7 {R : Type} (N : Nat) (k0 : Bool → Option R) (k1 : Int → Int → Int → Int → Pm.Archive → Option R) : Nat → Int → Int → Int → Int → Pm.Archive → Option R
  | 0, _, _, _, _, _ => none
  | n + 1, n0, e, next, parts, a => f3_L7_s N k0 k1 (f3_L7 N k0 k1 n) n0 e next parts a
def f3 {R : Type} (N : Nat) (codes : List Int) (pages : Int) (K : Bool → Option R) : Option R :=
  let r1 := goAwake
  bif !r1 then
    K false
  else
    bif goCodesC codes 200 then
    let r2 := goCodes codes 200
    bif goBoundsC r2 (W (1 + (Int.tmod (W pages) 64))) then
    let r3 := goBounds r2 (W (1 + (Int.tmod (W pages) 64)))
    bif goNewAC (W (1 + (Int.tmod (W pages) 64))) r3.1 then
    let r4 := goNewA (W (1 + (Int.tmod (W pages) 64))) r3.1
    f3_L7 N
      (fun t41 =>
        K t41)
      (fun n01 e1 next parts1 a1 =>
        let r7 := goPartA a1 n01
        bif (e1 == 0) then
          bif (next == n01) then
            bif (parts1 == (a1.bounds.length : Int)) then
              K (!r7.2.2)
            else
              K false
          else
            K false
        else
          K false)
      N (W (1 + (Int.tmod (W pages) 64))) r4.2 0 0 r4.1
    else none
    else none
    else none
def mf3_L12 : Mark := ⟨[6, 8, 10, 11, 12, 14], [7], [7], [], [(.cell 7 0, .int), (.cell 7 2, .file)]⟩
def xf3_L12 : List (Nat × Mark) := [(1, ⟨[4], [], [], [], []⟩), (4, ⟨[6, 8, 10, 12], [7], [7], [], [(.cell 7 0, .int), (.cell 7 2, .file)]⟩)]
def mf3_L7 : Mark := ⟨[6, 8, 9, 10], [7], [7], [], [(.cell 7 0, .int), (.cell 7 2, .file)]⟩
def xf3_L7 : List (Nat × Mark) := [(1, ⟨[4], [], [], [], []⟩), (2, ⟨[6, 8, 9, 10], [7], [7], [], [(.cell 7 0, .int), (.cell 7 2, .file)]⟩)]
def A3 : Ann := { w := [], iw := [], m := [], l := [(12, (mf3_L12, xf3_L12)), (7, (mf3_L7, xf3_L7))], j := [], c := codes }
noncomputable def F3 : SF := (slimF Try.prog A3 3).getD ⟨0, .nop, []⟩
theorem hF3 : slimF Try.prog A3 3 = some F3 := by kernel_rfl
def C3 : Ents := [(8, e8), (9, e9), (11, e11), (10, e10), (12, e12)]
noncomputable def Bf3_L12 : SC := subOf 24 (partsF F3)
noncomputable def Bf3_L7 : SC := subOf 14 (partsF F3)
def ef3_L12 (N : Nat) (s : Snap) (K : Out → St → Option Rs) : Option Rs :=
  match s with
  | ⟨[.int .i64 n0, .int .i64 e, .int .i64 parts, .int .i64 low, .int .i64 high, .int .i64 id0], [.ptr 7 0], [some [.sl false .int a_0, .int .i64 a_1, .sl false .file a_2, .int .i64 a_3, .int .i64 a_4]]⟩ => f3_L12 N (fun t4 => K .ret (stOf ⟨[4], [], [], [], []⟩ ⟨[.bool t4], [], []⟩)) (fun n0 e parts high a => K (.exit 2) (stOf ⟨[6, 8, 10, 12], [7], [7], [], [(.cell 7 0, .int), (.cell 7 2, .file)]⟩ ⟨[.int .i64 n0, .int .i64 e, .int .i64 parts, .int .i64 high], [.ptr 7 0], [some [.sl false .int a.bounds, .int .i64 a.pages, .sl false .file a.files, .int .i64 a.next, .int .i64 a.serial]]⟩)) N n0 e parts low high id0 (Pm.Archive.mk a_0 a_1 a_2 a_3 a_4)
  | _ => none
def ef3_L7 (N : Nat) (s : Snap) (K : Out → St → Option Rs) : Option Rs :=
  match s with
  | ⟨[.int .i64 n0, .int .i64 e, .int .i64 next, .int .i64 parts], [.ptr 7 0], [some [.sl false .int a_0, .int .i64 a_1, .sl false .file a_2, .int .i64 a_3, .int .i64 a_4]]⟩ => f3_L7 N (fun t4 => K .ret (stOf ⟨[4], [], [], [], []⟩ ⟨[.bool t4], [], []⟩)) (fun n0 e next parts a => K (.exit 0) (stOf ⟨[6, 8, 9, 10], [7], [7], [], [(.cell 7 0, .int), (.cell 7 2, .file)]⟩ ⟨[.int .i64 n0, .int .i64 e, .int .i64 next, .int .i64 parts], [.ptr 7 0], [some [.sl false .int a.bounds, .int .i64 a.pages, .sl false .file a.files, .int .i64 a.next, .int .i64 a.serial]]⟩)) N n0 e next parts (Pm.Archive.mk a_0 a_1 a_2 a_3 a_4)
  | _ => none
def L3 (N : Nat) : LoopT := fun id s K => bif Nat.beq id 24 then ef3_L12 N s K else bif Nat.beq id 14 then ef3_L7 N s K else none
theorem tf3_L12_s (N n : Nat) (K : Out → St → Option Rs) (n0 : Int) (e : Int) (parts : Int) (low : Int) (high : Int) (id0 : Int) (a : Pm.Archive) : loopN (fun σ K => execL (tbl C3) (L3 N) Bf3_L12 σ K) mf3_L12 xf3_L12 K (n + 1) (stOf mf3_L12 ⟨[.int .i64 n0, .int .i64 e, .int .i64 parts, .int .i64 low, .int .i64 high, .int .i64 id0], [.ptr 7 0], [some [.sl false .int a.bounds, .int .i64 a.pages, .sl false .file a.files, .int .i64 a.next, .int .i64 a.serial]]⟩) = f3_L12_s N (fun t4 => K .ret (stOf ⟨[4], [], [], [], []⟩ ⟨[.bool t4], [], []⟩)) (fun n0 e parts high a => K (.exit 2) (stOf ⟨[6, 8, 10, 12], [7], [7], [], [(.cell 7 0, .int), (.cell 7 2, .file)]⟩ ⟨[.int .i64 n0, .int .i64 e, .int .i64 parts, .int .i64 high], [.ptr 7 0], [some [.sl false .int a.bounds, .int .i64 a.pages, .sl false .file a.files, .int .i64 a.next, .int .i64 a.serial]]⟩)) (fun n0 e parts low high id0 a => loopN (fun σ K => execL (tbl C3) (L3 N) Bf3_L12 σ K) mf3_L12 xf3_L12 K n (stOf mf3_L12 ⟨[.int .i64 n0, .int .i64 e, .int .i64 parts, .int .i64 low, .int .i64 high, .int .i64 id0], [.ptr 7 0], [some [.sl false .int a.bounds, .int .i64 a.pages, .sl false .file a.files, .int .i64 a.next, .int .i64 a.serial]]⟩)) n0 e parts low high id0 a := by kernel_rfl
theorem tf3_L12 (N : Nat) (K : Out → St → Option Rs) : ∀ (n : Nat) (n0 : Int) (e : Int) (parts : Int) (low : Int) (high : Int) (id0 : Int) (a : Pm.Archive), loopN (fun σ K => execL (tbl C3) (L3 N) Bf3_L12 σ K) mf3_L12 xf3_L12 K n (stOf mf3_L12 ⟨[.int .i64 n0, .int .i64 e, .int .i64 parts, .int .i64 low, .int .i64 high, .int .i64 id0], [.ptr 7 0], [some [.sl false .int a.bounds, .int .i64 a.pages, .sl false .file a.files, .int .i64 a.next, .int .i64 a.serial]]⟩) = f3_L12 N (fun t4 => K .ret (stOf ⟨[4], [], [], [], []⟩ ⟨[.bool t4], [], []⟩)) (fun n0 e parts high a => K (.exit 2) (stOf ⟨[6, 8, 10, 12], [7], [7], [], [(.cell 7 0, .int), (.cell 7 2, .file)]⟩ ⟨[.int .i64 n0, .int .i64 e, .int .i64 parts, .int .i64 high], [.ptr 7 0], [some [.sl false .int a.bounds, .int .i64 a.pages, .sl false .file a.files, .int .i64 a.next, .int .i64 a.serial]]⟩)) n n0 e parts low high id0 a := by
  intro n
  induction n with
  | zero => intros; rfl
  | succ n ih =>
    intro n0 e parts low high id0 a
    rw [tf3_L12_s]
    simp only [f3_L12, ih]
theorem pf3_L12 (N : Nat) : PartOK (tbl C3) (L3 N) (24, true, mf3_L12, xf3_L12, Bf3_L12) := by
  intro s K r h
  have h : ef3_L12 N s K = some r := h
  unfold ef3_L12 at h
  split at h
  case h_2 => cases h
  exact ⟨N, (tf3_L12 N K N _ _ _ _ _ _ _).trans h⟩
theorem tf3_L7_s (N n : Nat) (K : Out → St → Option Rs) (n0 : Int) (e : Int) (next : Int) (parts : Int) (a : Pm.Archive) : loopN (fun σ K => execL (tbl C3) (L3 N) Bf3_L7 σ K) mf3_L7 xf3_L7 K (n + 1) (stOf mf3_L7 ⟨[.int .i64 n0, .int .i64 e, .int .i64 next, .int .i64 parts], [.ptr 7 0], [some [.sl false .int a.bounds, .int .i64 a.pages, .sl false .file a.files, .int .i64 a.next, .int .i64 a.serial]]⟩) = f3_L7_s N (fun t4 => K .ret (stOf ⟨[4], [], [], [], []⟩ ⟨[.bool t4], [], []⟩)) (fun n0 e next parts a => K (.exit 0) (stOf ⟨[6, 8, 9, 10], [7], [7], [], [(.cell 7 0, .int), (.cell 7 2, .file)]⟩ ⟨[.int .i64 n0, .int .i64 e, .int .i64 next, .int .i64 parts], [.ptr 7 0], [some [.sl false .int a.bounds, .int .i64 a.pages, .sl false .file a.files, .int .i64 a.next, .int .i64 a.serial]]⟩)) (fun n0 e next parts a => loopN (fun σ K => execL (tbl C3) (L3 N) Bf3_L7 σ K) mf3_L7 xf3_L7 K n (stOf mf3_L7 ⟨[.int .i64 n0, .int .i64 e, .int .i64 next, .int .i64 parts], [.ptr 7 0], [some [.sl false .int a.bounds, .int .i64 a.pages, .sl false .file a.files, .int .i64 a.next, .int .i64 a.serial]]⟩)) n0 e next parts a := by kernel_rfl
theorem tf3_L7 (N : Nat) (K : Out → St → Option Rs) : ∀ (n : Nat) (n0 : Int) (e : Int) (next : Int) (parts : Int) (a : Pm.Archive), loopN (fun σ K => execL (tbl C3) (L3 N) Bf3_L7 σ K) mf3_L7 xf3_L7 K n (stOf mf3_L7 ⟨[.int .i64 n0, .int .i64 e, .int .i64 next, .int .i64 parts], [.ptr 7 0], [some [.sl false .int a.bounds, .int .i64 a.pages, .sl false .file a.files, .int .i64 a.next, .int .i64 a.serial]]⟩) = f3_L7 N (fun t4 => K .ret (stOf ⟨[4], [], [], [], []⟩ ⟨[.bool t4], [], []⟩)) (fun n0 e next parts a => K (.exit 0) (stOf ⟨[6, 8, 9, 10], [7], [7], [], [(.cell 7 0, .int), (.cell 7 2, .file)]⟩ ⟨[.int .i64 n0, .int .i64 e, .int .i64 next, .int .i64 parts], [.ptr 7 0], [some [.sl false .int a.bounds, .int .i64 a.pages, .sl false .file a.files, .int .i64 a.next, .int .i64 a.serial]]⟩)) n n0 e next parts a := by
  intro n
  induction n with
  | zero => intros; rfl
  | succ n ih =>
    intro n0 e next parts a
    rw [tf3_L7_s]
    simp only [f3_L7, ih]
theorem pf3_L7 (N : Nat) : PartOK (tbl C3) (L3 N) (14, true, mf3_L7, xf3_L7, Bf3_L7) := by
  intro s K r h
  have h : ef3_L7 N s K = some r := h
  unfold ef3_L7 at h
  split at h
  case h_2 => cases h
  exact ⟨N, (tf3_L7 N K N _ _ _ _ _).trans h⟩
theorem q3 : partsF F3 = [(14, true, mf3_L7, xf3_L7, Bf3_L7), (24, true, mf3_L12, xf3_L12, Bf3_L12)] := by kernel_rfl
theorem l3 (N : Nat) : LOKs (tbl C3) (L3 N) F3 := loks q3 (all_cons (pf3_L7 N) (all_cons (pf3_L12 N) all_nil))
theorem b3 (N : Nat) (codes : List Int) (pages : Int) : bodyN (tbl C3) (L3 N) F3 [.any] [] [.val (.sl false .u8 codes), .val (.int .u8 pages)] [] = f3 N codes pages (fun o0 => some (.val (.bool o0), [])) := by kernel_rfl
def e3 : List PV → List (List AV) → Option (Ck × Rs)
  | [.val (.sl _ ccodes codes), .val (.int .u8 pages)], [] => (castSl .u8 ccodes codes).map fun codes => (.chk (goLaw25C codes pages), (.val (.bool (goTrue2 codes pages)), []))
  | _, _ => none

end Go.Ab

namespace Go.Ab
open Go

variable {R : Type}

theorem dfltI : (default : Int) = 0 := rfl
theorem ble_iff {a b : Nat} : Nat.ble a b = true ↔ a ≤ b := by rw [Nat.ble_eq]
theorem blt_iff {a b : Nat} : Nat.blt a b = true ↔ a < b := by simp [Nat.blt_eq]

theorem sp79 {x : Int} {K : Bool → Option R} : f79 big x K = K (goNaN x) := by simp [f79, goNaN]
theorem sp68 {x : Int} {K : Bool → Option R} : f68 big x K = K (goNaN x) := by simp [f68, goNaN]
theorem sp67 {x y : Int} {K : Bool → Option R} : f67 big x y K = K (goLess x y) := by simp [f67, goNaN, goLess]

theorem mid_eq {i j : Nat} (h : i + j ≤ 1073741824) : W (Int.fdiv (WU (W ((i : Int) + (j : Int)))) 2) = (((i + j) / 2 : Nat) : Int) := by
  rw [W_id (x := (i : Int) + j) (by omega) (by omega), WU_id (by omega) (by omega), Int.fdiv_eq_ediv_of_nonneg _ (by decide), W_id (by omega) (by omega)]
  omega

theorem cnt_at {x : List Int} {t : Int} {i : Nat} (hi : i ≤ x.length) (h1 : ∀ k, k < i → x.getD k 0 < t) (h2 : ∀ k, i ≤ k → k < x.length → t ≤ x.getD k 0) : cntLt x t = i := by
  have e : x = x.take i ++ x.drop i := (List.take_append_drop i x).symm
  unfold cntLt
  rw [e, List.countP_append]
  have a1 : (x.take i).countP (fun y => decide (y < t)) = (x.take i).length := by
    rw [List.countP_eq_length]
    intro y hy
    obtain ⟨k, hk, rfl⟩ := List.mem_iff_getElem.1 hy
    have hk' : k < i := by simp at hk; omega
    have := h1 k hk'
    rw [List.getD_eq_getElem?_getD, List.getElem?_eq_getElem (by omega)] at this
    simpa using this
  have a2 : (x.drop i).countP (fun y => decide (y < t)) = 0 := by
    rw [List.countP_eq_zero]
    intro y hy
    obtain ⟨k, hk, rfl⟩ := List.mem_iff_getElem.1 hy
    have hk' : i + k < x.length := by simp at hk; omega
    have := h2 (i + k) (by omega) hk'
    rw [List.getD_eq_getElem?_getD, List.getElem?_eq_getElem hk'] at this
    simpa using this
  rw [a1, a2]; simp; omega

theorem sorted_get {x : List Int} (hs : x.Pairwise (· < ·)) {i j : Nat} (hij : i < j) (hj : j < x.length) : x.getD i 0 < x.getD j 0 := by
  rw [List.getD_eq_getElem?_getD, List.getD_eq_getElem?_getD, List.getElem?_eq_getElem hj, List.getElem?_eq_getElem (by omega)]
  exact List.pairwise_iff_getElem.1 hs i j (by omega) hj hij

theorem f47_L3_ok {x : List Int} {t n0 : Int} (hs : x.Pairwise (· < ·)) (hm : x.length ≤ 268435456) {N : Nat} {k0 : List Int → Int → Int → Int → Option R} :
    ∀ (m i j n : Nat), j - i ≤ m → m < n → i ≤ j → j ≤ x.length → (∀ k, k < i → x.getD k 0 < t) → (∀ k, j ≤ k → k < x.length → t ≤ x.getD k 0) →
      f47_L3 N k0 n x t n0 i j = k0 x t n0 (cntLt x t : Int) := by
  intro m
  induction m with
  | zero =>
    intro i j n h1 h2 h3 h4 h5 h6
    obtain ⟨n, rfl⟩ : ∃ n', n = n' + 1 := ⟨n - 1, by omega⟩
    have : i = j := by omega
    subst this
    simp only [f47_L3, f47_L3_s, show ¬ ((i : Int) < i) by omega, decide_false, cond_false, cnt_at h4 h5 h6]
  | succ m ih =>
    intro i j n h1 h2 h3 h4 h5 h6
    obtain ⟨n, rfl⟩ : ∃ n', n = n' + 1 := ⟨n - 1, by omega⟩
    by_cases hij : i = j
    · subst hij
      simp only [f47_L3, f47_L3_s, show ¬ ((i : Int) < i) by omega, decide_false, cond_false, cnt_at h4 h5 h6]
    · have hlt : (i : Int) < j := by omega
      have hmid := mid_eq (i := i) (j := j) (by omega)
      have hml : (i + j) / 2 < x.length := by omega
      simp only [f47_L3, f47_L3_s, hlt, decide_true, cond_true, hmid, dfltI, Int.toNat_natCast, goLess]
      rw [show Nat.blt ((i + j) / 2) x.length = true from blt_iff.2 hml]
      simp only [show (0 : Int) ≤ (((i + j) / 2 : Nat) : Int) by omega, decide_true, Bool.true_and, cond_true]
      by_cases hc : x.getD ((i + j) / 2) 0 < t
      · simp only [hc, decide_true, cond_true]
        rw [W_id (by omega) (by omega)]
        have e : (((i + j) / 2 : Nat) : Int) + 1 = (((i + j) / 2 + 1 : Nat) : Int) := by omega
        rw [e]
        refine ih _ j n (by omega) (by omega) (by omega) h4 ?_ h6
        intro k hk
        by_cases hk2 : k = (i + j) / 2
        · rw [hk2]; exact hc
        · have := sorted_get hs (i := k) (j := (i + j) / 2) (by omega) hml
          omega
      · simp only [hc, decide_false, cond_false]
        refine ih i _ n (by omega) (by omega) (by omega) (by omega) h5 ?_
        intro k hk hkl
        by_cases hk2 : k = (i + j) / 2
        · rw [hk2]; omega
        · have := sorted_get hs (i := (i + j) / 2) (j := k) (by omega) hkl
          omega

theorem mem_at {x : List Int} {t : Int} (hs : x.Pairwise (· < ·)) : decide (t ∈ x) = (decide (cntLt x t < x.length) && (x.getD (cntLt x t) 0 == t)) := by
  rw [Bool.eq_iff_iff, decide_eq_true_iff, Bool.and_eq_true, decide_eq_true_iff, beq_iff_eq]
  constructor
  · intro h
    obtain ⟨i, hi, rfl⟩ := List.mem_iff_getElem.1 h
    have e : x.getD i 0 = x[i] := by rw [List.getD_eq_getElem?_getD, List.getElem?_eq_getElem hi]; rfl
    have hc : cntLt x x[i] = i := by
      refine cnt_at (by omega) ?_ ?_
      · intro k hk; rw [← e]; exact sorted_get hs hk hi
      · intro k hk hkl
        rcases Nat.lt_or_ge i k with h2 | h2
        · rw [← e]; exact Int.le_of_lt (sorted_get hs h2 hkl)
        · have : k = i := by omega
          subst this; omega
    rw [hc]; exact ⟨hi, e⟩
  · rintro ⟨h1, h2⟩
    rw [List.getD_eq_getElem?_getD, List.getElem?_eq_getElem h1] at h2
    rw [← h2]; exact List.getElem_mem h1

theorem sp47 {x : List Int} {t : Int} {K : Int → Bool → Option R} (hc : goSearchC x t = true) : f47 big x t K = K (goSearch x t).1 (goSearch x t).2 := by
  simp only [goSearchC, Bool.and_eq_true, decide_eq_true_iff, ble_iff, most] at hc
  obtain ⟨hs, hm⟩ := hc
  unfold f47
  have := f47_L3_ok (t := t) (n0 := (x.length : Int)) hs hm (N := big) (k0 := fun x1 target1 n0 i => bif decide (i < n0) then
        bif (decide (0 ≤ i) && Nat.blt i.toNat x1.length) then
        bif !(List.getD x1 i.toNat default == target1) then
          bif (decide (0 ≤ i) && Nat.blt i.toNat x1.length) then
          let r2 := goNaN (List.getD x1 i.toNat default)
          bif r2 then
            let r3 := goNaN target1
            K i r3
          else
            K i false
          else none
        else
          K i true
        else none
      else
        K i false) x.length 0 x.length big (by omega) (by simp [big]; omega) (by omega) (Nat.le_refl _) (fun k hk => by omega) (fun k hk hk2 => by omega)
  simp only [Int.natCast_zero] at this
  refine this.trans ?_
  simp only [goSearch, mem_at hs, dfltI, Int.toNat_natCast, goNaN, cond_false]
  have hle : cntLt x t ≤ x.length := List.countP_le_length
  by_cases h1 : cntLt x t < x.length
  · simp only [show ((cntLt x t : Nat) : Int) < (x.length : Int) by omega, h1, decide_true, cond_true, blt_iff.2 h1, show (0 : Int) ≤ (cntLt x t : Int) by omega, Bool.true_and]
    cases hb : (x.getD (cntLt x t) 0 == t) <;> rfl
  · simp only [show ¬ ((cntLt x t : Nat) : Int) < (x.length : Int) by omega, h1, decide_false, cond_false, Bool.false_and]

end Go.Ab

namespace Go.Ab
open Go

variable {R : Type}

theorem sp48 {a : Pm.Archive} {i : Int} {K : Int → Int → Option R} (hc : goPartC a i = true) : f48 big a i K = K (goPart a i).1 (goPart a i).2 := by
  simp only [goPartC, Bool.and_eq_true, decide_eq_true_iff, ble_iff, most] at hc
  obtain ⟨h0, h1, h2⟩ := hc
  obtain ⟨k, rfl⟩ : ∃ k : Nat, i = k := ⟨i.toNat, by omega⟩
  have hk : k < a.bounds.length := by omega
  have e : W ((k : Int) + 1) = ((k + 1 : Nat) : Int) := by rw [W_id (by omega) (by omega)]; omega
  have e2 : ((k : Int) + 1 < (a.bounds.length : Int)) ↔ ((k + 1 : Nat) : Int) < (a.bounds.length : Int) := by omega
  simp only [f48, goPart, e, Int.toNat_natCast, dfltI, h0, decide_true, Bool.true_and, blt_iff.2 hk, cond_true, e2]
  by_cases h3 : ((k + 1 : Nat) : Int) < (a.bounds.length : Int)
  · have h4 : k + 1 < a.bounds.length := by omega
    simp only [h3, decide_true, cond_true, show (0 : Int) ≤ ((k + 1 : Nat) : Int) by omega, Bool.true_and, blt_iff.2 h4, if_true]
  · simp only [h3, decide_false, cond_false, if_false]

theorem pw_of_adj {x : List Int} (h : ∀ k, 1 ≤ k → k < x.length → x.getD (k - 1) 0 < x.getD k 0) : x.Pairwise (· < ·) := by
  have key : ∀ d i, i + d + 1 < x.length → x.getD i 0 < x.getD (i + d + 1) 0 := by
    intro d
    induction d with
    | zero => intro i hi; exact h (i + 1) (by omega) hi
    | succ d ih =>
      intro i hi
      have h1 := ih i (by omega)
      have h2 := h (i + (d + 1) + 1) (by omega) hi
      have e : i + (d + 1) + 1 - 1 = i + d + 1 := by omega
      rw [e] at h2
      omega
  rw [List.pairwise_iff_getElem]
  intro i j hi hj hij
  have := key (j - i - 1) i (by omega)
  have e : i + (j - i - 1) + 1 = j := by omega
  rw [e] at this
  rw [List.getD_eq_getElem?_getD, List.getD_eq_getElem?_getD, List.getElem?_eq_getElem hj, List.getElem?_eq_getElem hi] at this
  exact this

theorem f46_L5_ok {a : Pm.Archive} (hm : a.bounds.length ≤ 16) {N : Nat} {k0 : Bool → Option R} {k1 : Pm.Archive → Option R} :
    ∀ (m i n : Nat), a.bounds.length - i ≤ m → m < n → 1 ≤ i →
      ((∀ k, i ≤ k → k < a.bounds.length → a.bounds.getD (k - 1) 0 < a.bounds.getD k 0) → f46_L5 N k0 k1 n a.bounds.length i a = k1 a) ∧
      ((∃ k, i ≤ k ∧ k < a.bounds.length ∧ ¬ a.bounds.getD (k - 1) 0 < a.bounds.getD k 0) → f46_L5 N k0 k1 n a.bounds.length i a = k0 false) := by
  intro m
  induction m with
  | zero =>
    intro i n h1 h2 h3
    obtain ⟨n, rfl⟩ : ∃ n', n = n' + 1 := ⟨n - 1, by omega⟩
    constructor
    · intro _
      simp only [f46_L5, f46_L5_s, show ¬ ((i : Int) < (a.bounds.length : Int)) by omega, decide_false, cond_false]
    · rintro ⟨k, hk, hk2, _⟩; omega
  | succ m ih =>
    intro i n h1 h2 h3
    obtain ⟨n, rfl⟩ : ∃ n', n = n' + 1 := ⟨n - 1, by omega⟩
    by_cases hi : i < a.bounds.length
    · have e1 : W ((i : Int) - 1) = ((i - 1 : Nat) : Int) := by rw [W_id (by omega) (by omega)]; omega
      have e2 : W ((i : Int) + 1) = ((i + 1 : Nat) : Int) := by rw [W_id (by omega) (by omega)]; omega
      have hs : f46_L5 N k0 k1 (n + 1) a.bounds.length i a = bif decide (a.bounds.getD (i - 1) 0 ≥ a.bounds.getD i 0) then k0 false else f46_L5 N k0 k1 n a.bounds.length ((i + 1 : Nat) : Int) a := by
        simp only [f46_L5, f46_L5_s, show (i : Int) < (a.bounds.length : Int) by omega, decide_true, cond_true, e1, e2, Int.toNat_natCast, dfltI, blt_iff.2 hi, blt_iff.2 (show i - 1 < a.bounds.length by omega), show (0 : Int) ≤ ((i - 1 : Nat) : Int) by omega, show (0 : Int) ≤ (i : Int) by omega, Bool.true_and]
      have hih := ih (i + 1) n (by omega) (by omega) (by omega)
      by_cases hc : a.bounds.getD (i - 1) 0 < a.bounds.getD i 0
      · rw [hs, show decide (a.bounds.getD (i - 1) 0 ≥ a.bounds.getD i 0) = false from decide_eq_false (by omega), cond_false]
        constructor
        · intro h; exact hih.1 fun k hk => h k (by omega)
        · rintro ⟨k, hk, hk2, hk3⟩
          refine hih.2 ⟨k, ?_, hk2, hk3⟩
          rcases Nat.lt_or_ge i k with h | h
          · omega
          · have : k = i := by omega
            subst this; exact absurd hc hk3
      · rw [hs, show decide (a.bounds.getD (i - 1) 0 ≥ a.bounds.getD i 0) = true from decide_eq_true (by omega), cond_true]
        exact ⟨fun h => absurd (h i (Nat.le_refl _) hi) hc, fun _ => rfl⟩
    · constructor
      · intro _
        simp only [f46_L5, f46_L5_s, show ¬ ((i : Int) < (a.bounds.length : Int)) by omega, decide_false, cond_false]
      · rintro ⟨k, hk, hk2, _⟩; omega

theorem f46_L13_ok {a : Pm.Archive} {l : List Pm.File} (hm : l.length ≤ 256) {N : Nat} {k0 : Bool → Option R} {k1 : Option R} :
    ∀ (m i n : Nat) (last : Int), l.length - i ≤ m → m < n → f46_L13 N k0 k1 n last l l.length i a = bif filesOk last a.serial (l.drop i) then k1 else k0 false := by
  intro m
  induction m with
  | zero =>
    intro i n last h1 h2
    obtain ⟨n, rfl⟩ : ∃ n', n = n' + 1 := ⟨n - 1, by omega⟩
    rw [List.drop_of_length_le (by omega)]
    simp only [f46_L13, f46_L13_s, show ¬ ((i : Int) < (l.length : Int)) by omega, decide_false, cond_false, filesOk, cond_true]
  | succ m ih =>
    intro i n last h1 h2
    obtain ⟨n, rfl⟩ : ∃ n', n = n' + 1 := ⟨n - 1, by omega⟩
    by_cases hi : i < l.length
    · have e2 : W ((i : Int) + 1) = ((i + 1 : Nat) : Int) := by rw [W_id (by omega) (by omega)]; omega
      have hd : l.drop i = l.getD i default :: l.drop (i + 1) := by
        rw [List.drop_eq_getElem_cons hi, List.getD_eq_getElem?_getD, List.getElem?_eq_getElem hi]; rfl
      rw [hd]
      simp only [f46_L13, f46_L13_s, show (i : Int) < (l.length : Int) by omega, decide_true, cond_true, e2, Int.toNat_natCast, blt_iff.2 hi, show (0 : Int) ≤ (i : Int) by omega, Bool.true_and, filesOk]
      have hih := ih (i + 1) n (l.getD i default).id (by omega) (by omega)
      rw [hih]
      by_cases c1 : (l.getD i default).id ≤ last
      · simp only [c1, decide_true, Bool.not_true, cond_false, show ¬ last < (l.getD i default).id by omega, decide_false, Bool.false_and]
      · simp only [c1, decide_false, Bool.not_false, cond_true, show last < (l.getD i default).id by omega, decide_true, Bool.true_and]
        by_cases c2 : (l.getD i default).id ≥ a.serial
        · simp only [c2, decide_true, cond_true, show ¬ (l.getD i default).id < a.serial by omega, decide_false, Bool.false_and, cond_false]
        · simp only [c2, decide_false, cond_false, show (l.getD i default).id < a.serial by omega, decide_true, Bool.true_and]
    · rw [List.drop_of_length_le (by omega)]
      simp only [f46_L13, f46_L13_s, show ¬ ((i : Int) < (l.length : Int)) by omega, decide_false, cond_false, filesOk, cond_true]

theorem sp46 {a : Pm.Archive} {K : Bool → Option R} : f46 big a K = K (goValidA a) := by
  have no : ¬ (1 ≤ a.pages ∧ a.pages ≤ 64 ∧ 1 ≤ a.bounds.length ∧ a.bounds.length ≤ 16 ∧ a.bounds.getD 0 0 = 0 ∧ a.bounds.getD (a.bounds.length - 1) 0 < a.pages ∧ a.bounds.Pairwise (· < ·) ∧
    1 ≤ a.next ∧ a.next ≤ 1099511627777 ∧ 1 ≤ a.serial ∧ a.serial ≤ 1073741825 ∧ a.files.length ≤ 256) → goValidA a = false := by
    intro h; unfold goValidA; rw [decide_eq_false h]; rfl
  unfold f46
  by_cases h1 : a.pages < 1
  · rw [no (by omega)]; simp only [h1, decide_true, Bool.not_true, cond_false]
  by_cases h2 : a.pages > 64
  · rw [no (by omega)]; simp only [h1, h2, decide_true, decide_false, Bool.not_true, Bool.not_false, cond_false, cond_true]
  by_cases h3 : (a.bounds.length : Int) < 1
  · rw [no (by omega)]; simp only [h1, h2, h3, decide_true, decide_false, Bool.not_true, Bool.not_false, cond_false, cond_true]
  by_cases h4 : (a.bounds.length : Int) > 16
  · rw [no (by omega)]; simp only [h1, h2, h3, h4, decide_true, decide_false, Bool.not_true, Bool.not_false, cond_false, cond_true]
  simp only [h1, h2, h3, h4, decide_true, decide_false, Bool.not_true, Bool.not_false, cond_false, cond_true, dfltI]
  have hl : 0 < a.bounds.length := by omega
  have e1 : W ((a.bounds.length : Int) - 1) = ((a.bounds.length - 1 : Nat) : Int) := by rw [W_id (by omega) (by omega)]; omega
  simp only [blt_iff.2 hl, cond_true, e1, Int.toNat_natCast, blt_iff.2 (show a.bounds.length - 1 < a.bounds.length by omega), show (0 : Int) ≤ ((a.bounds.length - 1 : Nat) : Int) by omega, decide_true, Bool.true_and]
  by_cases h5 : a.bounds.getD 0 0 = 0
  case neg =>
    rw [no (fun h => h5 h.2.2.2.2.1)]
    rw [show (a.bounds.getD 0 0 != 0) = true from by simpa using h5]; rfl
  rw [show (!(a.bounds.getD 0 0 != 0)) = true from by simpa using h5, cond_true]
  by_cases h6 : a.bounds.getD (a.bounds.length - 1) 0 ≥ a.pages
  · rw [no (by omega)]; simp only [h6, decide_true, cond_true]
  simp only [h6, decide_false, cond_false]
  by_cases h7 : a.bounds.Pairwise (· < ·)
  case neg =>
    rw [no (fun h => h7 h.2.2.2.2.2.2.1)]
    refine (f46_L5_ok (a := a) (by omega) 16 1 big (by omega) (by simp [big]) (Nat.le_refl _)).2 ?_
    refine Classical.byContradiction fun hn => h7 (pw_of_adj fun k hk hk2 => ?_)
    exact Classical.byContradiction fun hk3 => hn ⟨k, hk, hk2, hk3⟩
  refine ((f46_L5_ok (a := a) (by omega) 16 1 big (by omega) (by simp [big]) (Nat.le_refl _)).1 (fun k hk hk2 => sorted_get h7 (by omega) hk2)).trans ?_
  by_cases h8 : a.next < 1
  · rw [no (by omega)]; simp only [h8, decide_true, Bool.not_true, cond_false]
  by_cases h9 : a.next > 1099511627777
  · rw [no (by omega)]; simp only [h8, h9, decide_true, decide_false, Bool.not_true, Bool.not_false, cond_false, cond_true]
  by_cases h10 : a.serial < 1
  · rw [no (by omega)]; simp only [h8, h9, h10, decide_true, decide_false, Bool.not_true, Bool.not_false, cond_false, cond_true]
  by_cases h11 : a.serial > 1073741825
  · rw [no (by omega)]; simp only [h8, h9, h10, h11, decide_true, decide_false, Bool.not_true, Bool.not_false, cond_false, cond_true]
  by_cases h12 : (a.files.length : Int) > 256
  · rw [no (by omega)]; simp only [h8, h9, h10, h11, h12, decide_true, decide_false, Bool.not_true, Bool.not_false, cond_false, cond_true]
  simp only [h8, h9, h10, h11, h12, decide_true, decide_false, Bool.not_true, Bool.not_false, cond_false, cond_true]
  have := f46_L13_ok (a := a) (l := a.files) (by omega) (N := big) (k0 := fun t => K t) (k1 := K true) 256 0 big 0 (by omega) (by simp [big])
  refine this.trans ?_
  unfold goValidA
  rw [decide_eq_true (show _ from ⟨by omega, by omega, by omega, by omega, h5, by omega, h7, by omega, by omega, by omega, by omega, by omega⟩)]
  simp only [List.drop_zero, Bool.true_and]
  cases filesOk 0 a.serial a.files <;> rfl

theorem sp10 {p : Int} {b : List Int} {K : Pm.Archive → Int → Option R} (hc : goNewAC p b = true) : f10 big p b K = K (goNewA p b).1 (goNewA p b).2 := by
  have hc : Nat.ble b.length most = true := hc
  simp only [f10, hc, cond_true, goNewA]
  cases goValidA (Pm.Archive.mk b p [] 1 1) <;> rfl

theorem sp12 {a : Pm.Archive} {page : Int} {K : Int → Int → Bool → Option R} : f12 big a page K = K (goPartA a page).1 (goPartA a page).2.1 (goPartA a page).2.2 := by
  unfold f12 goPartA
  cases hv : goValidA a with
  | false => rfl
  | true =>
    simp only [Bool.not_true, Bool.not_false, cond_true, Bool.true_and]
    by_cases h1 : page < 0
    · simp only [h1, decide_true, Bool.not_true, cond_false, show ¬ 0 ≤ page by omega, decide_false, Bool.false_and]
    by_cases h2 : page ≥ a.pages
    · simp only [h1, h2, decide_true, decide_false, Bool.not_false, cond_true, show ¬ page < a.pages by omega, Bool.and_false, cond_false]
    simp only [h1, h2, decide_false, Bool.not_false, cond_true, cond_false, show 0 ≤ page by omega, show page < a.pages by omega, decide_true, Bool.true_and]
    have hv2 := hv
    unfold goValidA at hv2
    rw [Bool.and_eq_true, decide_eq_true_iff] at hv2
    obtain ⟨⟨v1, v2, v3, v4, v5, v6, v7, _⟩, _⟩ := hv2
    have hsC : goSearchC a.bounds page = true := by
      simp only [goSearchC, Bool.and_eq_true, decide_eq_true_iff, ble_iff, most]; exact ⟨v7, by omega⟩
    have hpos : cntLt a.bounds page = 0 → decide (page ∈ a.bounds) = true := by
      intro h0
      rw [mem_at v7, h0, v5]
      have hall : ∀ y ∈ a.bounds, ¬ y < page := by
        have := List.countP_eq_zero.1 h0
        intro y hy; simpa using this y hy
      have hm0 : (0 : Int) ∈ a.bounds := by
        have e : a.bounds[0]'(by omega) = 0 := by
          rw [List.getD_eq_getElem?_getD, List.getElem?_eq_getElem (by omega)] at v5; exact v5
        rw [← e]; exact List.getElem_mem _
      have := hall 0 hm0
      simp only [Bool.and_eq_true, decide_eq_true_iff, beq_iff_eq]
      exact ⟨by omega, by omega⟩
    have hle : cntLt a.bounds page ≤ a.bounds.length := List.countP_le_length
    simp only [hsC, cond_true]
    cases hf : (goSearch a.bounds page).2 with
    | true =>
      have hf2 : decide (page ∈ a.bounds) = true := hf
      rw [mem_at v7, Bool.and_eq_true, decide_eq_true_iff] at hf2
      have hpc : goPartC a (goSearch a.bounds page).1 = true := by
        rw [show (goSearch a.bounds page).1 = (cntLt a.bounds page : Int) from rfl]
        simp only [goPartC, Bool.and_eq_true, decide_eq_true_iff, ble_iff, most]; omega
      simp only [Bool.not_true, cond_false, hpc, cond_true]
    | false =>
      have hne : cntLt a.bounds page ≠ 0 := fun h => by
        have h1 := hpos h
        have h2 : decide (page ∈ a.bounds) = false := hf
        rw [h1] at h2; cases h2
      have e : W ((goSearch a.bounds page).1 - 1) = (goSearch a.bounds page).1 - 1 := by
        simp only [goSearch]; rw [W_id (by omega) (by omega)]
      have hpc : goPartC a ((goSearch a.bounds page).1 - 1) = true := by
        rw [show (goSearch a.bounds page).1 = (cntLt a.bounds page : Int) from rfl]
        simp only [goPartC, Bool.and_eq_true, decide_eq_true_iff, ble_iff, most]; omega
      simp only [Bool.not_false, cond_true, e, hpc, cond_false]

theorem sp9 {l : List Int} {m : Int} {K : Pm.Codes → Option R} (hc : goCodesC l m = true) : f9 big l m K = K (goCodes l m) := by
  have hc : 0 ≤ m := of_decide_eq_true hc
  unfold f9 goCodes
  by_cases h : (l.length : Int) > m
  · simp only [h, decide_true, cond_true, hc, show m ≤ (l.length : Int) by omega, Bool.true_and]
  · simp only [h, decide_false, cond_false]
    rw [List.take_of_length_le (by omega)]

theorem sp24a {c : Pm.Codes} {n : Int} {K : Int → Pm.Codes → Option R} (hc : goNextSC c n = true) : f24a big c n K = K (goNextS c n).1 (goNextS c n).2 := by
  simp only [goNextSC, okc, Bool.and_eq_true, decide_eq_true_iff, ble_iff, most] at hc
  obtain ⟨⟨h0, h1⟩, h2⟩ := hc
  unfold f24a goNextS
  by_cases c1 : c.at_ ≥ (c.list.length : Int)
  · simp only [c1, decide_true, Bool.not_true, cond_false, true_or, if_true]
  by_cases c2 : n < 1
  · simp only [c1, c2, decide_true, decide_false, Bool.not_false, cond_true, or_true, if_true]
  have e : W (c.at_ + 1) = c.at_ + 1 := W_id (by omega) (by omega)
  simp only [c1, c2, decide_false, Bool.not_false, cond_true, cond_false, or_self, if_false, h0, decide_true, Bool.true_and, blt_iff.2 (show c.at_.toNat < c.list.length by omega), show ¬ n > 256 by omega, show ¬ n = 0 by omega, e, dfltI]

theorem sp24 {c : Pm.Codes} {n : Int} {K : Int → Pm.Codes → Option R} (hc : goNextC c n = true) : f24 big c n K = K (goNext c n).1 (goNext c n).2 := by
  by_cases c0 : n ≤ 256
  · have := sp24a (c := c) (n := n) (K := K) (by simp only [goNextSC, Bool.and_eq_true, decide_eq_true_iff]; exact ⟨hc, c0⟩)
    simp only [goNext, c0, if_true]
    rw [← this]
    unfold f24 f24a
    simp only [show ¬ n > 256 by omega, decide_false, cond_false]
  simp only [goNextC, okc, Bool.and_eq_true, decide_eq_true_iff, ble_iff, most] at hc
  obtain ⟨h0, h1⟩ := hc
  simp only [goNext, c0, if_false]
  unfold f24
  by_cases c1 : c.at_ ≥ (c.list.length : Int)
  · simp only [c1, decide_true, Bool.not_true, cond_false, if_true]
  have e : W (c.at_ + 1) = c.at_ + 1 := W_id (by omega) (by omega)
  have hn : goNextSC ⟨c.list, c.at_ + 1⟩ 256 = true := by
    simp only [goNextSC, okc, Bool.and_eq_true, decide_eq_true_iff, ble_iff, most]; omega
  simp only [c1, show ¬ n < 1 by omega, decide_false, Bool.not_false, cond_true, cond_false, if_false, h0, decide_true, Bool.true_and, blt_iff.2 (show c.at_.toNat < c.list.length by omega), show n > 256 by omega, show ¬ n = 0 by omega, e, dfltI, hn]

theorem goNext_ok {c : Pm.Codes} {n : Int} (h : okc c = true) : okc (goNext c n).2 = true ∧ (goNext c n).2.list = c.list := by
  have key : ∀ (c : Pm.Codes) n, okc c = true → okc (goNextS c n).2 = true ∧ (goNextS c n).2.list = c.list := by
    intro c n h
    unfold goNextS
    split
    · exact ⟨h, rfl⟩
    · simp only [okc, Bool.and_eq_true, decide_eq_true_iff, ble_iff] at h ⊢
      exact ⟨⟨by omega, h.2⟩, trivial⟩
  unfold goNext
  split
  · exact key c n h
  · split
    · exact ⟨h, rfl⟩
    · have h2 : okc ⟨c.list, c.at_ + 1⟩ = true := by
        simp only [okc, Bool.and_eq_true, decide_eq_true_iff, ble_iff] at h ⊢
        exact ⟨by omega, h.2⟩
      exact key ⟨c.list, c.at_ + 1⟩ 256 h2

theorem f11_L3_ok {p : Int} {N : Nat} {k0 : List Int → Pm.Codes → Option R} (hp : p ≤ 1073741824) : ∀ (m n : Nat) (i : Int) (l : List Int) (c : Pm.Codes), (p - i).toNat = m → m < n → 0 ≤ i → l.length ≤ 16 → okc c = true →
    f11_L3 N k0 n p l i c = k0 (bndLoop m i l c).1 (bndLoop m i l c).2 := by
  intro m
  induction m with
  | zero =>
    intro n i l c h1 h2 h3 h4 h5
    obtain ⟨n, rfl⟩ : ∃ n', n = n' + 1 := ⟨n - 1, by omega⟩
    simp only [f11_L3, f11_L3_s, show ¬ i < p by omega, decide_false, cond_false, bndLoop]
  | succ m ih =>
    intro n i l c h1 h2 h3 h4 h5
    obtain ⟨n, rfl⟩ : ∃ n', n = n' + 1 := ⟨n - 1, by omega⟩
    have e : W (i + 1) = i + 1 := W_id (by omega) (by omega)
    have hok := (goNext_ok (n := 3) h5).1
    simp only [f11_L3, f11_L3_s, show i < p by omega, decide_true, cond_true, show goNextC c 3 = true from h5, e, bndLoop]
    by_cases c1 : (goNext c 3).1 = 0
    · simp only [c1, beq_self_eq_true, cond_true, true_and]
      by_cases c2 : l.length < 16
      · simp only [show (l.length : Int) < 16 by omega, c2, decide_true, cond_true, if_true, ble_iff.2 (show l.length + [i].length ≤ most by simp [most]; omega)]
        exact ih n (i + 1) _ _ (by omega) (by omega) (by omega) (by simp; omega) hok
      · simp only [show ¬ (l.length : Int) < 16 by omega, c2, decide_false, cond_false, if_false]
        exact ih n (i + 1) _ _ (by omega) (by omega) (by omega) h4 hok
    · simp only [show ((goNext c 3).1 == 0) = false by simpa using c1, cond_false, c1, false_and, if_false]
      exact ih n (i + 1) _ _ (by omega) (by omega) (by omega) h4 hok

theorem sp11 {c : Pm.Codes} {p : Int} {K : List Int → Pm.Codes → Option R} (hc : goBoundsC c p = true) : f11 big c p K = K (goBounds c p).1 (goBounds c p).2 := by
  simp only [goBoundsC, Bool.and_eq_true, decide_eq_true_iff] at hc
  exact f11_L3_ok hc.2 (p - 1).toNat big 1 [0] c rfl (by simp [big]; omega) (by omega) (by simp) hc.1

theorem sp8 {K : Bool → Option R} : f8 big K = K goAwake := by rfl

end Go.Ab

namespace Go.Ab
open Go

variable {R : Type}

theorem bnd_ok : ∀ (m : Nat) (i : Int) (l : List Int) (c : Pm.Codes), l.Pairwise (· < ·) → l ≠ [] → l.getD 0 0 = 0 → (∀ y ∈ l, y < i) → l.length ≤ 16 →
    (bndLoop m i l c).1.Pairwise (· < ·) ∧ (bndLoop m i l c).1 ≠ [] ∧ (bndLoop m i l c).1.getD 0 0 = 0 ∧ (∀ y ∈ (bndLoop m i l c).1, y < i + m) ∧ (bndLoop m i l c).1.length ≤ 16 := by
  intro m
  induction m with
  | zero => intro i l c h1 h2 h3 h4 h5; exact ⟨h1, h2, h3, fun y hy => by have := h4 y hy; omega, h5⟩
  | succ m ih =>
    intro i l c h1 h2 h3 h4 h5
    simp only [bndLoop]
    have e : i + ((m + 1 : Nat) : Int) = (i + 1) + (m : Int) := by omega
    rw [e]
    split
    · rename_i hc
      refine ih (i + 1) (l ++ [i]) _ ?_ (by simp) ?_ ?_ (by simp; omega)
      · rw [List.pairwise_append]
        exact ⟨h1, List.pairwise_singleton _ _, fun a ha b hb => by simp at hb; subst hb; exact h4 a ha⟩
      · cases l with
        | nil => exact absurd rfl h2
        | cons y l => simpa using h3
      · intro y hy
        rcases List.mem_append.1 hy with hy | hy
        · have := h4 y hy; omega
        · simp at hy; omega
    · exact ih (i + 1) l _ h1 h2 h3 (fun y hy => by have := h4 y hy; omega) h5

theorem goBounds_ok {c : Pm.Codes} {p : Int} (hp : 1 ≤ p) (hp2 : p ≤ 64) : goValidA ⟨(goBounds c p).1, p, [], 1, 1⟩ = true := by
  obtain ⟨h1, h2, h3, h4, h5⟩ := bnd_ok (p - 1).toNat 1 [0] c (List.pairwise_singleton _ _) (by simp) rfl (fun y hy => by simp at hy; omega) (by simp)
  unfold goValidA goBounds
  have hl : 1 ≤ (bndLoop (p - 1).toNat 1 [0] c).1.length := by
    rcases Nat.eq_zero_or_pos (bndLoop (p - 1).toNat 1 [0] c).1.length with h | h
    · exact absurd (List.length_eq_zero_iff.1 h) h2
    · exact h
  have hlast : (bndLoop (p - 1).toNat 1 [0] c).1.getD ((bndLoop (p - 1).toNat 1 [0] c).1.length - 1) 0 < p := by
    rw [List.getD_eq_getElem?_getD, List.getElem?_eq_getElem (by omega)]
    have := h4 _ (List.getElem_mem (by omega : (bndLoop (p - 1).toNat 1 [0] c).1.length - 1 < (bndLoop (p - 1).toNat 1 [0] c).1.length))
    simp only [Option.getD_some]
    omega
  rw [decide_eq_true (show _ from ⟨hp, hp2, hl, h5, h3, hlast, h1, show (1 : Int) ≤ 1 by omega, show (1 : Int) ≤ 1099511627777 by omega, show (1 : Int) ≤ 1 by omega, show (1 : Int) ≤ 1073741825 by omega, by simp⟩)]
  rfl

/-- What a valid archive's bounds are. -/
structure VA (a : Pm.Archive) : Prop where
  v : goValidA a = true
  p1 : 1 ≤ a.pages
  p2 : a.pages ≤ 64
  l1 : 1 ≤ a.bounds.length
  l2 : a.bounds.length ≤ 16
  z : a.bounds.getD 0 0 = 0
  s : a.bounds.Pairwise (· < ·)
  r : ∀ k, k < a.bounds.length → 0 ≤ a.bounds.getD k 0 ∧ a.bounds.getD k 0 < a.pages

theorem va_of {a : Pm.Archive} (h : goValidA a = true) : VA a := by
  have hv := h
  unfold goValidA at h
  rw [Bool.and_eq_true, decide_eq_true_iff] at h
  obtain ⟨⟨v1, v2, v3, v4, v5, v6, v7, _⟩, _⟩ := h
  refine ⟨hv, v1, v2, v3, v4, v5, v7, fun k hk => ?_⟩
  constructor
  · rcases Nat.eq_zero_or_pos k with e | e
    · rw [e, v5]; omega
    · have := sorted_get v7 e hk; omega
  · rcases Nat.lt_or_ge k (a.bounds.length - 1) with e | e
    · have := sorted_get v7 e (by omega); omega
    · have : k = a.bounds.length - 1 := by omega
      rw [this]; exact v6

/-- Where the partition behind a partition begins. -/
def nx (a : Pm.Archive) (k : Nat) : Int := if k < a.bounds.length then a.bounds.getD k 0 else a.pages

theorem nx_r {a : Pm.Archive} (h : VA a) (k : Nat) : 0 ≤ nx a k ∧ nx a k ≤ a.pages := by
  unfold nx; split
  · rename_i hk; have := h.r k hk; omega
  · have := h.p1; omega
theorem nx_lt {a : Pm.Archive} (h : VA a) {k : Nat} (hk : k < a.bounds.length) : nx a k < nx a (k + 1) := by
  unfold nx
  rw [if_pos hk]
  split
  · rename_i h2; exact sorted_get h.s (by omega) h2
  · exact (h.r k hk).2

theorem part_at {a : Pm.Archive} (h : VA a) {k : Nat} (hk : k < a.bounds.length) : goPart a (k : Int) = (nx a k, nx a (k + 1) - 1) := by
  have h1 := nx_r h (k + 1)
  have hp := h.p2
  have e : goPart a (k : Int) = (a.bounds.getD k 0, W (nx a (k + 1) - 1)) := by
    simp only [goPart, Int.toNat_natCast, nx]
    by_cases c : k + 1 < a.bounds.length
    · rw [if_pos (by omega), if_pos c]
    · rw [if_neg (by omega), if_neg c]
  rw [e, W_id (by omega) (by omega), show nx a k = a.bounds.getD k 0 from if_pos hk]

theorem goPartA_at {a : Pm.Archive} (h : VA a) {k : Nat} (hk : k < a.bounds.length) {id : Int} (h1 : nx a k ≤ id) (h2 : id < nx a (k + 1)) : goPartA a id = (nx a k, nx a (k + 1) - 1, true) := by
  have hr := nx_r h k
  have hr2 := nx_r h (k + 1)
  have hb : nx a k = a.bounds.getD k 0 := if_pos hk
  have hge : ∀ j, k + 1 ≤ j → j < a.bounds.length → id < a.bounds.getD j 0 := by
    intro j hj hjl
    have e : nx a (k + 1) = a.bounds.getD (k + 1) 0 := if_pos (by omega)
    rcases Nat.lt_or_ge (k + 1) j with c | c
    · have := sorted_get h.s c hjl; omega
    · have : j = k + 1 := by omega
      subst this; omega
  unfold goPartA
  rw [h.v, show decide (0 ≤ id) = true from decide_eq_true (by omega), show decide (id < a.pages) = true from decide_eq_true (by omega)]
  simp only [Bool.and_self, cond_true, goSearch]
  by_cases c : nx a k = id
  · have hc : cntLt a.bounds id = k := by
      refine cnt_at (by omega) (fun j hj => ?_) (fun j hj hjl => ?_)
      · have := sorted_get h.s hj hk; omega
      · rcases Nat.lt_or_ge k j with d | d
        · have := hge j d hjl; omega
        · have : j = k := by omega
          subst this; omega
    have hm : decide (id ∈ a.bounds) = true := by
      rw [mem_at h.s, hc, Bool.and_eq_true, decide_eq_true_iff, beq_iff_eq]; exact ⟨hk, by omega⟩
    simp only [hm, cond_true, hc, part_at h hk]
  · have hc : cntLt a.bounds id = k + 1 := by
      refine cnt_at (by omega) (fun j hj => ?_) (fun j hj hjl => ?_)
      · rcases Nat.lt_or_ge j k with d | d
        · have := sorted_get h.s d hk; omega
        · have : j = k := by omega
          subst this; omega
      · have := hge j hj hjl; omega
    have hm : decide (id ∈ a.bounds) = false := by
      rw [mem_at h.s, hc]
      by_cases d : k + 1 < a.bounds.length
      · have := hge (k + 1) (Nat.le_refl _) d
        rw [show (a.bounds.getD (k + 1) 0 == id) = false from beq_eq_false_iff_ne.2 (by omega), Bool.and_false]
      · rw [decide_eq_false d, Bool.false_and]
    have e : ((k + 1 : Nat) : Int) - 1 = (k : Int) := by omega
    simp only [hm, cond_false, hc, e, part_at h hk]

theorem f3_L12_ok {a : Pm.Archive} (h : VA a) {k : Nat} (hk : k < a.bounds.length) {N : Nat} {k0 : Bool → Option R} {k1 : Int → Int → Int → Int → Pm.Archive → Option R} {p e parts : Int} :
    ∀ (m n : Nat) (id : Int), (nx a (k + 1) - id).toNat ≤ m → m < n → nx a k ≤ id → f3_L12 N k0 k1 n p e parts (nx a k) (nx a (k + 1) - 1) id a = k1 p e parts (nx a (k + 1) - 1) a := by
  have hr := nx_r h (k + 1)
  have hp := h.p2
  have hr0 := nx_r h k
  intro m
  induction m with
  | zero =>
    intro n id h1 h2 h3
    obtain ⟨n, rfl⟩ : ∃ n', n = n' + 1 := ⟨n - 1, by omega⟩
    simp only [f3_L12, f3_L12_s, show ¬ id ≤ nx a (k + 1) - 1 by omega, decide_false, cond_false]
  | succ m ih =>
    intro n id h1 h2 h3
    obtain ⟨n, rfl⟩ : ∃ n', n = n' + 1 := ⟨n - 1, by omega⟩
    by_cases c : id ≤ nx a (k + 1) - 1
    · have e : W (id + 1) = id + 1 := W_id (by omega) (by omega)
      simp only [f3_L12, f3_L12_s, c, decide_true, cond_true, goPartA_at h hk h3 (by omega), Bool.not_true, Bool.not_false, bne_self_eq_false, cond_false, e]
      exact ih n (id + 1) (by omega) (by omega) (by omega)
    · simp only [f3_L12, f3_L12_s, c, decide_false, cond_false]

theorem f3_L7_ok {a : Pm.Archive} (h : VA a) {N : Nat} (hN : 1000 ≤ N) {k0 : Bool → Option R} {k1 : Int → Int → Int → Int → Pm.Archive → Option R} {e : Int} :
    ∀ (m k n : Nat), a.bounds.length - k ≤ m → m < n → k ≤ a.bounds.length → f3_L7 N k0 k1 n a.pages e (nx a k) k a = k1 a.pages e a.pages a.bounds.length a := by
  have hp := h.p2
  have hp1 := h.p1
  have hl := h.l2
  have done : ∀ n, f3_L7 N k0 k1 (n + 1) a.pages e (nx a a.bounds.length) a.bounds.length a = k1 a.pages e a.pages a.bounds.length a := by
    intro n
    have e : nx a a.bounds.length = a.pages := if_neg (Nat.lt_irrefl _)
    rw [e]
    simp only [f3_L7, f3_L7_s, Int.lt_irrefl, decide_false, cond_false]
  -- as many pages as partitions, at least
  have hcount : ∀ k, k < a.bounds.length → (k : Int) ≤ a.bounds.getD k 0 := by
    intro k
    induction k with
    | zero => intro hk; have := h.r 0 hk; omega
    | succ k ih => intro hk; have := ih (by omega); have := sorted_get h.s (i := k) (j := k + 1) (by omega) hk; omega
  intro m
  induction m with
  | zero =>
    intro k n h1 h2 h3
    obtain ⟨n, rfl⟩ : ∃ n', n = n' + 1 := ⟨n - 1, by omega⟩
    have : k = a.bounds.length := by omega
    subst this
    exact done n
  | succ m ih =>
    intro k n h1 h2 h3
    obtain ⟨n, rfl⟩ : ∃ n', n = n' + 1 := ⟨n - 1, by omega⟩
    by_cases c : k < a.bounds.length
    · have hb : nx a k = a.bounds.getD k 0 := if_pos c
      have hbr := h.r k c
      have hck := hcount k c
      have hlt := nx_lt h c
      have hr := nx_r h (k + 1)
      have e1 : W (nx a (k + 1) - 1 + 1) = nx a (k + 1) := by rw [W_id (by omega) (by omega)]; omega
      have e2 : W ((k : Int) + 1) = ((k + 1 : Nat) : Int) := by rw [W_id (by omega) (by omega)]; omega
      simp only [f3_L7, f3_L7_s, show nx a k < a.pages by omega, show (k : Int) ≤ a.pages by omega, decide_true, cond_true, goPartA_at h c (Int.le_refl _) hlt, Bool.not_true, Bool.not_false, bne_self_eq_false, show ¬ nx a (k + 1) - 1 < nx a k by omega, decide_false, cond_false]
      rw [f3_L12_ok h c 100 N (nx a k) (by omega) (by omega) (Int.le_refl _)]
      rw [e1, e2]
      exact ih (k + 1) n (by omega) (by omega) (by omega)
    · have : k = a.bounds.length := by omega
      subst this
      exact done n

theorem sp3 {l : List Int} {p : Int} {K : Bool → Option R} (hc : goLaw25C l p = true) : f3 big l p K = K (goTrue2 l p) := by
  simp only [goLaw25C, Bool.and_eq_true, decide_eq_true_iff] at hc
  obtain ⟨h0, h1⟩ := hc
  have e : W (1 + Int.tmod (W p) 64) = 1 + p % 64 := by
    rw [W_id (x := p) (by omega) (by omega), Int.tmod_eq_emod_of_nonneg h0, W_id (by omega) (by omega)]
  unfold f3 goTrue2
  rw [e]
  generalize hn : 1 + p % 64 = n
  have hn1 : 1 ≤ n := by omega
  have hn2 : n ≤ 64 := by omega
  have hcc : goCodesC l 200 = true := rfl
  have hok : okc (goCodes l 200) = true := by
    simp only [okc, goCodes, Bool.and_eq_true, decide_eq_true_iff, ble_iff, most, List.length_take, show (200 : Int).toNat = 200 from rfl]; omega
  have hbc : goBoundsC (goCodes l 200) n = true := by
    simp only [goBoundsC, Bool.and_eq_true, decide_eq_true_iff]; exact ⟨hok, by omega⟩
  have hv := goBounds_ok (c := goCodes l 200) hn1 hn2
  have ha : goNewA n (goBounds (goCodes l 200) n).1 = (⟨(goBounds (goCodes l 200) n).1, n, [], 1, 1⟩, 0) := by
    unfold goNewA; rw [hv]; rfl
  have h := va_of hv
  have hnc : goNewAC n (goBounds (goCodes l 200) n).1 = true := by
    have := h.l2
    simp only [goNewAC, ble_iff, most]; simp only at this; omega
  simp only [goAwake, Bool.not_true, cond_false, hcc, hbc, hnc, cond_true, ha]
  generalize goBounds (goCodes l 200) n = b at *
  have hz : nx ⟨b.1, n, [], 1, 1⟩ 0 = 0 := by
    unfold nx; rw [if_pos (show 0 < b.1.length from h.l1)]; exact h.z
  have := f3_L7_ok (R := R) h (N := big) (by simp [big]) (k0 := fun t => K t) (k1 := fun n01 e1 next parts1 a1 =>
        let r7 := goPartA a1 n01
        bif (e1 == 0) then
          bif (next == n01) then
            bif (parts1 == (a1.bounds.length : Int)) then
              K (!r7.2.2)
            else
              K false
          else
            K false
        else
          K false) (e := 0) 16 0 big (by have := h.l2; simp only at this ⊢; omega) (by simp [big]) (Nat.zero_le _)
  rw [hz] at this
  refine this.trans ?_
  have hno : goPartA ⟨b.1, n, [], 1, 1⟩ n = (0, 0, false) := by
    unfold goPartA
    rw [hv, show decide (n < (⟨b.1, n, [], 1, 1⟩ : Pm.Archive).pages) = false from decide_eq_false (Int.lt_irrefl _)]
    simp
  simp only [hno, beq_self_eq_true, cond_true, Bool.not_false]

end Go.Ab

namespace Go.Ab
open Go Go.RowKit Go.Shelf Go.Proofs

theorem follows : Try.prog.follows .mixedOrders = true := by kernel_rfl
/-- slices.Clone's numbers. -/
def renC (f ts te tb : Nat) : Ren := ⟨fun k => bif Nat.beq k 41 then f else k, fun k => bif Nat.beq k 22 then ts else bif Nat.beq k 23 then te else bif Nat.beq k 4 then tb else k, fun k => k⟩
theorem lay45 : SlLaysE0.n41 Try.prog (renC 45 26 3 4) := ⟨by kernel_rfl, ⟨"slices.Clone[[]int,int]", by kernel_rfl, by kernel_rfl⟩, by kernel_rfl, fun w => by kernel_rfl, fun w => by kernel_rfl, fun w => by kernel_rfl, by kernel_rfl, fun w => by kernel_rfl, fun w => by kernel_rfl, fun w => by kernel_rfl⟩
theorem lay52 : SlLaysE0.n41 Try.prog (renC 52 37 86 4) := ⟨by kernel_rfl, ⟨"slices.Clone[[]pagemend/api.Frame,pagemend/api.Frame]", by kernel_rfl, by kernel_rfl⟩, by kernel_rfl, fun w => by kernel_rfl, fun w => by kernel_rfl, fun w => by kernel_rfl, by kernel_rfl, fun w => by kernel_rfl, fun w => by kernel_rfl, fun w => by kernel_rfl⟩
theorem clip51 (x : Option Addr) (n c : Nat) (hn : n ≤ c) (w : World) : Calls Try.prog 51 #[.slice x n c] w fun e w' => e = .returned (.slice x n n) ∧ w' = w := by
  go_enter Try.func51, Try.ntmps51
  go_wp2
  go_ret
  exact ⟨rfl, rfl⟩
def libs : List (Nat × Bool) := [(45, true), (51, false), (52, true)]
def isClone : LibOp → Bool
  | .clone => true
  | .clip => false
noncomputable def libIs (f : Nat) : Bool := match libOf Try.prog f with
  | none => true
  | some l => libs.any fun x => Nat.beq x.1 f && (x.2 == isClone l)
theorem libs_all : (List.range 131).all libIs = true := by kernel_rfl
theorem libs_size : Try.prog.funcs.size = 131 := by kernel_rfl
theorem libs_of {f : Nat} {l : LibOp} (h : libOf Try.prog f = some l) : (f, isClone l) ∈ libs := by
  have hf : f < 131 := by
    rcases Nat.lt_or_ge f 131 with h1 | h1
    · exact h1
    · have h2 := h.symm.trans (libOf_none (Nat.le_trans (Nat.le_of_eq libs_size) h1))
      cases h2
  have h1 := List.all_eq_true.1 libs_all f (List.mem_range.2 hf)
  unfold libIs at h1
  rw [h] at h1
  simp only [List.any_eq_true, Bool.and_eq_true] at h1
  obtain ⟨⟨a, b⟩, h2, h3, h4⟩ := h1
  have h3 := Nat.eq_of_beq_eq_true h3
  have h4 := eq_of_beq h4
  simp only at h3 h4
  rw [← h3, ← h4]; exact h2
theorem libOK : LibOK Try.prog := by
  intro f l hl
  have h := libs_of hl
  simp only [libs, List.mem_cons, Prod.mk.injEq, List.not_mem_nil, or_false] at h
  intro e sz bytes hz hb
  rcases h with ⟨rfl, h⟩ | ⟨rfl, h⟩ | ⟨rfl, h⟩
  · cases l with
    | clip => cases h
    | clone => exact clone_ok lay45 rfl (by kernel_rfl) hz hb
  · cases l with
    | clone => cases h
    | clip =>
      refine ⟨⟨Try.f51, by kernel_rfl, by kernel_rfl, by kernel_rfl⟩, ?_⟩
      intro w v T Q full rows x n c ad U hs _ _
      rw [hs.hv]
      refine (clip51 x n c hs.hc w).mono ?_
      rintro e w' ⟨rfl, rfl⟩
      exact ⟨_, rfl, Old.refl _, rfl⟩
  · cases l with
    | clip => cases h
    | clone => exact clone_ok lay52 rfl (by kernel_rfl) hz hb

end Go.Ab

namespace Go.Ab
open Go Go.Proofs

theorem ok79 : EntOK Try.prog 79 e79 := by
  refine ent_ok (C := tbl C79) (tbl_nil) libOK follows hF79 (rt := [.any]) (bt := []) ?_
  intro qs us cc rr h hCk
  unfold e79 at h
  split at h
  case h_2 => cases h
  injection h with h; injection h with h1 h2; subst h1; subst h2
  exact ⟨_, _, L79 big, .cons (.refl _) .nil, .nil, l79 big, (b79 big _).trans (sp79 )⟩

theorem ok68 : EntOK Try.prog 68 e68 := by
  refine ent_ok (C := tbl C68) (tbl_nil) libOK follows hF68 (rt := [.any]) (bt := []) ?_
  intro qs us cc rr h hCk
  unfold e68 at h
  split at h
  case h_2 => cases h
  injection h with h; injection h with h1 h2; subst h1; subst h2
  exact ⟨_, _, L68 big, .cons (.refl _) .nil, .nil, l68 big, (b68 big _).trans (sp68 )⟩

theorem ok67 : EntOK Try.prog 67 e67 := by
  refine ent_ok (C := tbl C67) (tbl_cons ok79 (tbl_nil)) libOK follows hF67 (rt := [.any]) (bt := []) ?_
  intro qs us cc rr h hCk
  unfold e67 at h
  split at h
  case h_2 => cases h
  injection h with h; injection h with h1 h2; subst h1; subst h2
  exact ⟨_, _, L67 big, .cons (.refl _) (.cons (.refl _) .nil), .nil, l67 big, (b67 big _ _).trans (sp67 )⟩

theorem ok47 : EntOK Try.prog 47 e47 := by
  refine ent_ok (C := tbl C47) (tbl_cons ok67 (tbl_cons ok68 (tbl_nil))) libOK follows hF47 (rt := [.any, .any]) (bt := []) ?_
  intro qs us cc rr h hCk
  unfold e47 at h
  split at h
  case h_2 => cases h
  simp only [Option.bind_eq_some_iff, Option.map_eq_some_iff] at h
  obtain ⟨x', hx, h⟩ := h
  injection h with h1 h2; subst h1; subst h2
  exact ⟨_, _, L47 big, .cons (.val _ _ (castSl_ok hx)) (.cons (.refl _) .nil), .nil, l47 big, (b47 big _ _).trans (sp47 hCk)⟩

theorem ok48 : EntOK Try.prog 48 e48 := by
  refine ent_ok (C := tbl C48) (tbl_nil) libOK follows hF48 (rt := [.any, .any]) (bt := []) ?_
  intro qs us cc rr h hCk
  unfold e48 at h
  split at h
  case h_2 => cases h
  simp only [Option.bind_eq_some_iff, Option.map_eq_some_iff] at h
  obtain ⟨a', ha, h⟩ := h
  injection h with h1 h2; subst h1; subst h2
  exact ⟨_, _, L48 big, .cons (.agg _ _ (dec_ok ha)) (.cons (.refl _) .nil), .nil, l48 big, (b48 big _ _).trans (sp48 hCk)⟩

theorem ok46 : EntOK Try.prog 46 e46 := by
  refine ent_ok (C := tbl C46) (tbl_nil) libOK follows hF46 (rt := [.any]) (bt := []) ?_
  intro qs us cc rr h hCk
  unfold e46 at h
  split at h
  case h_2 => cases h
  simp only [Option.bind_eq_some_iff, Option.map_eq_some_iff] at h
  obtain ⟨a', ha, h⟩ := h
  injection h with h1 h2; subst h1; subst h2
  exact ⟨_, _, L46 big, .cons (.agg _ _ (dec_ok ha)) .nil, .nil, l46 big, (b46 big _).trans (sp46 )⟩

theorem ok10 : EntOK Try.prog 10 e10 := by
  refine ent_ok (C := tbl C10) (tbl_cons ok46 (tbl_nil)) libOK follows hF10 (rt := [.el .archive, .any]) (bt := []) ?_
  intro qs us cc rr h hCk
  unfold e10 at h
  split at h
  case h_2 => cases h
  simp only [Option.bind_eq_some_iff, Option.map_eq_some_iff] at h
  obtain ⟨bounds', hbounds, h⟩ := h
  injection h with h1 h2; subst h1; subst h2
  exact ⟨_, _, L10 big, .cons (.refl _) (.cons (.val _ _ (castSl_ok hbounds)) .nil), .nil, l10 big, (b10 big _ _).trans (sp10 hCk)⟩

theorem ok12 : EntOK Try.prog 12 e12 := by
  refine ent_ok (C := tbl C12) (tbl_cons ok46 (tbl_cons ok47 (tbl_cons ok48 (tbl_nil)))) libOK follows hF12 (rt := [.any, .any, .any]) (bt := []) ?_
  intro qs us cc rr h hCk
  unfold e12 at h
  split at h
  case h_2 => cases h
  simp only [Option.bind_eq_some_iff, Option.map_eq_some_iff] at h
  obtain ⟨a', ha, h⟩ := h
  injection h with h1 h2; subst h1; subst h2
  exact ⟨_, _, L12 big, .cons (.agg _ _ (dec_ok ha)) (.cons (.refl _) .nil), .nil, l12 big, (b12 big _ _).trans (sp12 )⟩

theorem ok9 : EntOK Try.prog 9 e9 := by
  refine ent_ok (C := tbl C9) (tbl_nil) libOK follows hF9 (rt := []) (bt := [.codes]) ?_
  intro qs us cc rr h hCk
  unfold e9 at h
  split at h
  case h_2 => cases h
  simp only [Option.bind_eq_some_iff, Option.map_eq_some_iff] at h
  obtain ⟨l', hl, h⟩ := h
  injection h with h1 h2; subst h1; subst h2
  exact ⟨_, _, L9 big, .cons (.val _ _ (castSl_ok hl)) (.cons (.refl _) .nil), .nil, l9 big, (b9 big _ _).trans (sp9 hCk)⟩

theorem ok24a : EntOK Try.prog 24 e24a := by
  refine ent_ok (C := tbl C24a) (tbl_nil) libOK follows hF24a (rt := [.any]) (bt := [.codes]) ?_
  intro qs us cc rr h hCk
  unfold e24a at h
  split at h
  case h_2 => cases h
  simp only [Option.bind_eq_some_iff, Option.map_eq_some_iff] at h
  obtain ⟨c', hc, h⟩ := h
  injection h with h1 h2; subst h1; subst h2
  exact ⟨_, _, L24a big, .cons (.refl _) (.cons (.refl _) .nil), .cons (dec_ok hc) .nil, l24a big, (b24a big _ _).trans (sp24a hCk)⟩

theorem ok24 : EntOK Try.prog 24 e24 := by
  refine ent_ok (C := tbl C24) (tbl_cons ok24a (tbl_nil)) libOK follows hF24 (rt := [.any]) (bt := [.codes]) ?_
  intro qs us cc rr h hCk
  unfold e24 at h
  split at h
  case h_2 => cases h
  simp only [Option.bind_eq_some_iff, Option.map_eq_some_iff] at h
  obtain ⟨c', hc, h⟩ := h
  injection h with h1 h2; subst h1; subst h2
  exact ⟨_, _, L24 big, .cons (.refl _) (.cons (.refl _) .nil), .cons (dec_ok hc) .nil, l24 big, (b24 big _ _).trans (sp24 hCk)⟩

theorem ok11 : EntOK Try.prog 11 e11 := by
  refine ent_ok (C := tbl C11) (tbl_cons ok24 (tbl_nil)) libOK follows hF11 (rt := [.sl .int]) (bt := [.codes]) ?_
  intro qs us cc rr h hCk
  unfold e11 at h
  split at h
  case h_2 => cases h
  simp only [Option.bind_eq_some_iff, Option.map_eq_some_iff] at h
  obtain ⟨c', hc, h⟩ := h
  injection h with h1 h2; subst h1; subst h2
  exact ⟨_, _, L11 big, .cons (.refl _) (.cons (.refl _) .nil), .cons (dec_ok hc) .nil, l11 big, (b11 big _ _).trans (sp11 hCk)⟩

theorem ok8 : EntOK Try.prog 8 e8 := by
  refine ent_ok (C := tbl C8) (tbl_cons ok10 (tbl_cons ok12 (tbl_nil))) libOK follows hF8 (rt := [.any]) (bt := []) ?_
  intro qs us cc rr h hCk
  unfold e8 at h
  split at h
  case h_2 => cases h
  injection h with h; injection h with h1 h2; subst h1; subst h2
  exact ⟨_, _, L8 big, .nil, .nil, l8 big, (b8 big ).trans (sp8 )⟩

theorem ok3 : EntOK Try.prog 3 e3 := by
  refine ent_ok (C := tbl C3) (tbl_cons ok8 (tbl_cons ok9 (tbl_cons ok11 (tbl_cons ok10 (tbl_cons ok12 (tbl_nil)))))) libOK follows hF3 (rt := [.any]) (bt := []) ?_
  intro qs us cc rr h hCk
  unfold e3 at h
  split at h
  case h_2 => cases h
  simp only [Option.bind_eq_some_iff, Option.map_eq_some_iff] at h
  obtain ⟨codes', hcodes, h⟩ := h
  injection h with h1 h2; subst h1; subst h2
  exact ⟨_, _, L3 big, .cons (.val _ _ (castSl_ok hcodes)) (.cons (.refl _) .nil), .nil, l3 big, (b3 big _ _).trans (sp3 hCk)⟩

end Go.Ab
