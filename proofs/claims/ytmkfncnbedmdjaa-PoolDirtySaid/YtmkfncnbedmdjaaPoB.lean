/- Lemmas for the claim: the program's code as functions of plain values, and what these compute. -/
import Derived.Shelf.Strings.BuilderK
import Derived.Shelf.Strings.Repeat
import Derived.Test.YtmkfncnbedmdjaaProg
import Derived.Test.YtmkfncnbedmdjaaPoA
import Derived.Test.YtmkfncnbedmdjaaAbsC
import Derived.KernelRfl
import Derived.WalkKit
import Derived.BigCall

namespace Go.Ab
open Go Go.Shelf Go.Proofs Go.RowKit

def renB : Ren := ⟨fun | 105 => 73 | 212 => 85 | 99 => 86 | 165 => 87 | 166 => 82 | 167 => 83 | 170 => 88 | 169 => 84 | 263 => 101 | 264 => 102 | 206 => 103 | 240 => 100 | 241 => 104 | 276 => 110 | 277 => 111 | n => n, fun | 9 => 9 | 3 => 3 | 4 => 4 | 20 => 20 | 0 => 0 | 46 => 102 | 109 => 127 | 5 => 5 | 72 => 120 | 76 => 123 | 51 => 111 | 146 => 143 | 53 => 126 | 148 => 145 | 70 => 118 | 37 => 22 | 75 => 122 | 127 => 142 | 164 => 153 | 80 => 97 | n => n, fun | n => n⟩
theorem extraB : Builder.Extra Try.prog renB := {
  sizeBuilder := by kernel_rfl
  liesBuilder := by kernel_rfl
  t5 := Try.underlying5
  a5 := Try.isAgg5
  z5 := Try.sizeOf5
  v5 := Try.zeroValue5
  infoByte := by kernel_rfl
  cellsByte := by kernel_rfl
  sizeByte := by kernel_rfl
  neB5 := by decide }
theorem layB166 : Lays.n166 Try.prog renB := by constructor <;> first | kernel_rfl | (intro w; kernel_rfl)
theorem layB167 : Lays.n167 Try.prog renB := by constructor <;> first | kernel_rfl | (intro w; kernel_rfl)
theorem layB169 : Lays.n169 Try.prog renB := by constructor <;> first | kernel_rfl | (intro w; kernel_rfl)

theorem ws82 (B b : Nat) (bs : List Value) (s : ByteArray) (w : World) (h : Lib.IsBuilderF 120 5 B b bs w) (hlen : bs.length + s.size ≤ 140737488355328) (hBw : B ≤ w.heap.size) :
    Calls Try.prog 82 #[.pointer (some ⟨b, 0, none⟩), .string s] w fun e w' => e = .returned (.tuple #[.int .i64 s.size, .nilIface]) ∧ Lib.BuilderAtF 120 5 B b (.pointer (some ⟨b, 0, none⟩)) (bs ++ Lib.strCells s) w' ∧ Below B w w' ∧ Lib.OthersKept 5 (some b) w w' :=
  Any.Builder_WriteString_k layB166 extraB B b bs s w h hlen hBw
theorem wb83 (B b : Nat) (bs : List Value) (c : Int) (w : World) (h : Lib.IsBuilderF 120 5 B b bs w) (hlen : bs.length + 1 ≤ 140737488355328) (hBw : B ≤ w.heap.size) :
    Calls Try.prog 83 #[.pointer (some ⟨b, 0, none⟩), .int .u8 c] w fun e w' => e = .returned .nilIface ∧ Lib.BuilderAtF 120 5 B b (.pointer (some ⟨b, 0, none⟩)) (bs ++ [.int .u8 c]) w' ∧ Below B w w' ∧ Lib.OthersKept 5 (some b) w w' :=
  Any.Builder_WriteByte_k layB167 extraB B b bs c w h hlen hBw
theorem bs84 (B b : Nat) (l : List UInt8) (w : World) (h : Lib.IsBuilderF 120 5 B b (Lib.byteCells l) w) (hBw : B ≤ w.heap.size) :
    Calls Try.prog 84 #[.pointer (some ⟨b, 0, none⟩)] w fun e w' => e = .returned (.string ⟨l.toArray⟩) ∧ Lib.IsBuilderF 120 5 B b (Lib.byteCells l) w' ∧ Below B w w' ∧ Lib.OthersKept 5 (some b) w w' :=
  Any.Builder_String_any_k layB169 extraB B b l w h hBw

theorem bytesFrom_len (n : Int) : ∀ m i, (bytesFrom n m i).length = m
  | 0, _ => rfl
  | m + 1, i => by simp [bytesFrom, bytesFrom_len n m]
theorem bytesFrom_get (n : Int) : ∀ m i k, k < m → (bytesFrom n m i)[k]? = some (byteAt n (i + k))
  | 0, _, _, h => by omega
  | m + 1, i, 0, _ => rfl
  | m + 1, i, k + 1, h => by
    simp only [bytesFrom, List.getElem?_cons_succ]
    rw [bytesFrom_get n m (i + 1) k (by omega)]
    congr 2; omega
theorem byteAt_int (n : Int) (k : Nat) : ((byteAt n k).toNat : Int) = IntKind.u64.wrap n / 2 ^ (8 * k) % 256 := by
  unfold byteAt
  have h1 : 0 ≤ IntKind.u64.wrap n / 2 ^ (8 * k) % 256 := Int.emod_nonneg _ (by decide)
  have h2 : IntKind.u64.wrap n / 2 ^ (8 * k) % 256 < 256 := Int.emod_lt_of_pos _ (by decide)
  generalize IntKind.u64.wrap n / 2 ^ (8 * k) % 256 = x at *
  rw [UInt8.toNat_ofNat']
  omega
set_option maxHeartbeats 4000000 in
set_option maxRecDepth 1000000 in
theorem put_walk (s : ByteArray) (n size : Int) (w : World) (hs : s.size ≤ 35184372088832) :
    Calls Try.prog 71 #[.string s, .int .i64 n, .int .i64 size] w fun e w' => e = .returned (.string ⟨(goPut s.data.toList n size).toArray⟩) ∧ Below w.heap.size w w' := by
  by_cases h1 : size < 1
  · have e : goPut s.data.toList n size = s.data.toList := by unfold goPut; rw [if_pos (.inl h1)]
    rw [e]
    have hd : decide (size < 1) = true := decide_eq_true h1
    go_enter Try.func71, Try.ntmps71
    go_wp2
    go_ret
    exact ⟨rfl, Below.refl _ w⟩
  by_cases h8 : size > 8
  · have e : goPut s.data.toList n size = s.data.toList := by unfold goPut; rw [if_pos (.inr h8)]
    rw [e]
    have hd : decide (size < 1) = false := decide_eq_false h1
    have hd8 : decide (size > 8) = true := decide_eq_true h8
    have hd9 : decide (8 < size) = true := decide_eq_true h8
    go_enter Try.func71, Try.ntmps71
    go_wp2
    go_ret
    exact ⟨rfl, Below.refl _ w⟩
  obtain ⟨m, rfl⟩ : ∃ m : Nat, size = m := ⟨size.toNat, by omega⟩
  have e : goPut s.data.toList n m = s.data.toList ++ bytesFrom n m 0 := by unfold goPut; rw [if_neg (by omega)]; rfl
  rw [e]
  have hd : decide ((m : Int) < 1) = false := decide_eq_false h1
  have hd8 : decide ((m : Int) > 8) = false := decide_eq_false h8
  have hd9 : decide (8 < (m : Int)) = false := decide_eq_false h8
  go_enter Try.func71, Try.ntmps71
  go_wp2_with (go_at_call 82; refine (ws82 w.heap.size w.heap.size [] s _ (Lib.IsBuilderF.of (Lib.fresh_isBuilder 120 5 w)) (by simp; omega) (by simp)).mono ?_)
  rintro e1 W1 rfl g1 b1 k1
  have g2 : Lib.IsBuilderF 120 5 w.heap.size w.heap.size (Lib.byteCells s.data.toList) W1 := .inr g1
  have b2 : Below w.heap.size w W1 := ((Below.refl _ w).alloc (Nat.le_refl _) _).trans b1
  clear g1 b1 k1
  go_wp2
  go_loopw [19] (fun i wr => ∃ k : Nat, k ≤ m ∧ i = .int .i64 k ∧ Lib.IsBuilderF 120 5 w.heap.size w.heap.size (Lib.byteCells (s.data.toList ++ (bytesFrom n m 0).take k)) wr ∧ Below w.heap.size w wr) (fun i _ => m - (RowKit.intOf i).toNat)
  case atStart =>
    exact ⟨0, by omega, rfl, by simpa using g2, b2⟩
  case round =>
    obtain ⟨k, hk, rfl, hI, hb⟩ := hrel
    have hsz : w.heap.size ≤ wr.heap.size := hb.size
    have hlen : (Lib.byteCells (s.data.toList ++ (bytesFrom n m 0).take k)).length + 1 ≤ 140737488355328 := by
      rw [Lib.byteCells_length, List.length_append, List.length_take]
      have : s.data.toList.length = s.size := by rw [Array.length_toList]; rfl
      omega
    by_cases hkm : k < m
    · have hd2 : decide ((k : Int) < (m : Int)) = true := decide_eq_true (by omega)
      go_wp2_with (go_at_call 83; refine (wb83 w.heap.size w.heap.size _ _ _ hI hlen hsz).mono ?_)
      rintro e1 W2 ⟨rfl, g1, b1, k1⟩
      go_wp2
      go_roundw
      case rel =>
        refine ⟨k + 1, by omega, by rfl, ?_, hb.trans b1⟩
        have ht : (bytesFrom n m 0).take (k + 1) = (bytesFrom n m 0).take k ++ [byteAt n k] := by
          rw [List.take_add_one, bytesFrom_get n m 0 k hkm]; simp
        rw [ht, ← List.append_assoc, Lib.byteCells_append]
        refine .inr ?_
        have e5 : Lib.byteCells [byteAt n k] = [Value.int .u8 (IntKind.u64.wrap n / 2 ^ (8 * k) % 256)] := by
          rw [← byteAt_int]; rfl
        rw [e5]; exact g1
      case measure =>
        have e6 : intOf (Value.int IntKind.i64 ((k : Int) + 1)) = (k : Int) + 1 := rfl
        have e7 : intOf (Value.int IntKind.i64 (k : Int)) = (k : Int) := rfl
        rw [e6, e7]; omega
    · have hd2 : decide ((k : Int) < (m : Int)) = false := decide_eq_false (by omega)
      go_wp2_with (go_at_call 84; refine (bs84 w.heap.size w.heap.size _ _ hI hsz).mono ?_)
      rintro e1 W2 ⟨rfl, g1, b1, k1⟩
      go_wp2
      go_ret
      have hkm2 : k = m := by omega
      have ht : (bytesFrom n m 0).take k = bytesFrom n m 0 := List.take_of_length_le (by rw [bytesFrom_len]; omega)
      rw [ht]
      exact ⟨rfl, hb.trans b1⟩

theorem layB105 : Lays.n105 Try.prog renB := by constructor <;> first | kernel_rfl | (intro w; kernel_rfl)
theorem rep73 (s : ByteArray) (c : Nat) (w : World) (hc : c ≤ 9223372036854775807) (hlen : s.size * c ≤ 140737488355328) :
    Calls Try.prog 73 #[.string s, .int .i64 c] w fun e w' => e = .returned (.string ⟨(Lib.repeatL s.data.toList c).toArray⟩) ∧ Below w.heap.size w w' := Any.strings_Repeat layB105 extraB s c w hc hlen

theorem rep_eq (s : List UInt8) : ∀ m, (List.replicate m s).flatten = Lib.repeatL s m
  | 0 => rfl
  | m + 1 => by rw [List.replicate_succ, List.flatten_cons, rep_eq s m]; rfl

theorem ok71 : EntOK Try.prog 71 e71 := by
  refine ent_hand ?_
  intro qs us c r h hc
  unfold e71 at h
  split at h
  case h_2 => cases h
  rename_i s n size
  injection h with h; injection h with h1 h2; subst h1; subst h2
  refine ⟨rfl, ⟨Try.f71, by kernel_rfl, by kernel_rfl, by kernel_rfl⟩, _, rfl, ?_⟩
  intro args w S hs hrp
  obtain ⟨v0, v1, v2, rfl⟩ : ∃ v0 v1 v2, args = #[v0, v1, v2] := by
    obtain ⟨l⟩ := args
    match l, hs with
    | [a, b, c], _ => exact ⟨a, b, c, rfl⟩
  obtain ⟨b, rfl, rfl⟩ := rv_str (rp_val (hrp 0 _ v0 rfl rfl))
  have e1 := rv_int (rp_val (hrp 1 _ v1 rfl rfl))
  have e2 := rv_int (rp_val (hrp 2 _ v2 rfl rfl))
  subst e1; subst e2
  have hlen : b.size ≤ 35184372088832 := by
    have h1 : Nat.ble b.data.toList.length 35184372088832 = true := hc
    have h2 : b.data.toList.length = b.size := by rw [Array.length_toList]; rfl
    rw [h2] at h1; exact Nat.le_of_ble_eq_true h1
  refine (put_walk b n size w hlen).mono ?_
  rintro e w' ⟨rfl, hb⟩
  exact ⟨_, rfl, hb, .str _⟩

theorem ok73 : EntOK Try.prog 73 e73 := by
  refine ent_hand ?_
  intro qs us c r h hc
  unfold e73 at h
  split at h
  case h_2 => cases h
  rename_i s n
  injection h with h; injection h with h1 h2; subst h1; subst h2
  refine ⟨rfl, ⟨Try.f73, by kernel_rfl, by kernel_rfl, by kernel_rfl⟩, _, rfl, ?_⟩
  intro args w S hs hrp
  obtain ⟨v0, v1, rfl⟩ : ∃ v0 v1, args = #[v0, v1] := by
    obtain ⟨l⟩ := args
    match l, hs with
    | [a, b], _ => exact ⟨a, b, rfl⟩
  obtain ⟨b, rfl, rfl⟩ := rv_str (rp_val (hrp 0 _ v0 rfl rfl))
  have e1 := rv_int (rp_val (hrp 1 _ v1 rfl rfl))
  subst e1
  have hc2 : goRepC b.data.toList n = true := hc
  simp only [goRepC, Bool.and_eq_true, decide_eq_true_iff] at hc2
  obtain ⟨h0, h1, h2⟩ := hc2
  have h2 := Nat.le_of_ble_eq_true h2
  have h3 : b.data.toList.length = b.size := by rw [Array.length_toList]; rfl
  rw [h3] at h2
  obtain ⟨m, rfl⟩ : ∃ m : Nat, n = m := ⟨n.toNat, by omega⟩
  have hm : m ≤ 1073741824 := by omega
  have hmul : b.size * m ≤ 140737488355328 := by
    have := Nat.mul_le_mul h2 hm
    omega
  refine (rep73 b m w (by omega) hmul).mono ?_
  rintro e w' ⟨rfl, hb⟩
  refine ⟨_, rfl, hb, ?_⟩
  have e : goRep b.data.toList m = Lib.repeatL b.data.toList m := by
    unfold goRep
    rw [Int.toNat_natCast]
    exact rep_eq _ _
  rw [e]
  exact .str _

end Go.Ab

namespace Go.Ab
open Go Go.Proofs

theorem ok89 : EntOK Try.prog 89 e89 := by
  refine ent_ok (C := tbl C89) (tbl_nil) libOK follows hF89 (rt := [.el .tab16]) (bt := []) ?_
  intro qs us cc rr h hCk
  unfold e89 at h
  split at h
  case h_2 => cases h
  injection h with h; injection h with h1 h2; subst h1; subst h2
  exact ⟨_, _, L89 big, .nil, .nil, l89 big, (b89 big ).trans (sp89 )⟩

theorem ok74 : EntOK Try.prog 74 e74 := by
  refine ent_ok (C := tbl C74) (tbl_cons ok89 (tbl_nil)) libOK follows hF74 (rt := [.any]) (bt := []) ?_
  intro qs us cc rr h hCk
  unfold e74 at h
  split at h
  case h_2 => cases h
  injection h with h; injection h with h1 h2; subst h1; subst h2
  exact ⟨_, _, L74 big, .cons (.refl _) .nil, .nil, l74 big, (b74 big _).trans (sp74 hCk)⟩

theorem ok81 : EntOK Try.prog 81 e81 := by
  refine ent_ok (C := tbl C81) (tbl_nil) libOK follows hF81 (rt := [.any]) (bt := []) ?_
  intro qs us cc rr h hCk
  unfold e81 at h
  split at h
  case h_2 => cases h
  injection h with h; injection h with h1 h2; subst h1; subst h2
  exact ⟨_, _, L81 big, .cons (.refl _) .nil, .nil, l81 big, (b81 big _).trans (sp81 )⟩

theorem ok69 : EntOK Try.prog 69 e69 := by
  refine ent_ok (C := tbl C69) (tbl_cons ok81 (tbl_nil)) libOK follows hF69 (rt := [.any]) (bt := []) ?_
  intro qs us cc rr h hCk
  unfold e69 at h
  split at h
  case h_2 => cases h
  simp only [Option.bind_eq_some_iff, Option.map_eq_some_iff] at h
  obtain ⟨p', hp, h⟩ := h
  injection h with h1 h2; subst h1; subst h2
  exact ⟨_, _, L69 big, .cons (.agg _ _ (dec_ok hp)) .nil, .nil, l69 big, (b69 big _).trans (sp69 )⟩

theorem ok70 : EntOK Try.prog 70 e70 := by
  refine ent_ok (C := tbl C70) (tbl_nil) libOK follows hF70 (rt := [.any]) (bt := []) ?_
  intro qs us cc rr h hCk
  unfold e70 at h
  split at h
  case h_2 => cases h
  simp only [Option.bind_eq_some_iff, Option.map_eq_some_iff] at h
  obtain ⟨p', hp, h⟩ := h
  injection h with h1 h2; subst h1; subst h2
  exact ⟨_, _, L70 big, .cons (.agg _ _ (dec_ok hp)) .nil, .nil, l70 big, (b70 big _).trans (sp70 )⟩

theorem ok55 : EntOK Try.prog 55 e55 := by
  refine ent_ok (C := tbl C55) (tbl_cons ok69 (tbl_cons ok70 (tbl_nil))) libOK follows hF55 (rt := [.any]) (bt := []) ?_
  intro qs us cc rr h hCk
  unfold e55 at h
  split at h
  case h_2 => cases h
  simp only [Option.bind_eq_some_iff, Option.map_eq_some_iff] at h
  obtain ⟨p', hp, h⟩ := h
  injection h with h1 h2; subst h1; subst h2
  exact ⟨_, _, L55 big, .cons (.agg _ _ (dec_ok hp)) .nil, .nil, l55 big, (b55 big _).trans (sp55 )⟩

theorem ok72 : EntOK Try.prog 72 e72 := by
  refine ent_ok (C := tbl C72) (tbl_cons ok71 (tbl_cons ok73 (tbl_nil))) libOK follows hF72 (rt := []) (bt := [.builder]) ?_
  intro qs us cc rr h hCk
  unfold e72 at h
  split at h
  case h_2 => cases h
  simp only [Option.bind_eq_some_iff, Option.map_eq_some_iff] at h
  obtain ⟨b', hb, c', hc, h⟩ := h
  injection h with h1 h2; subst h1; subst h2
  exact ⟨_, _, L72 big, .cons (.refl _) (.cons (.agg _ _ (dec_ok hc)) .nil), .cons (dec_ok hb) .nil, l72 big, (b72 big _ _).trans (sp72 hCk)⟩

theorem ok49 : EntOK Try.prog 49 e49 := by
  refine ent_ok (C := tbl C49) (tbl_cons ok69 (tbl_cons ok70 (tbl_cons ok71 (tbl_cons ok72 (tbl_cons ok73 (tbl_cons ok74 (tbl_nil))))))) libOK follows hF49 (rt := [.any, .any]) (bt := []) ?_
  intro qs us cc rr h hCk
  unfold e49 at h
  split at h
  case h_2 => cases h
  simp only [Option.bind_eq_some_iff, Option.map_eq_some_iff] at h
  obtain ⟨p', hp, h⟩ := h
  injection h with h1 h2; subst h1; subst h2
  exact ⟨_, _, L49 big, .cons (.agg _ _ (dec_ok hp)) .nil, .nil, l49 big, (b49 big _).trans (sp49 )⟩

theorem ok76 : EntOK Try.prog 76 e76 := by
  refine ent_ok (C := tbl C76) (tbl_nil) libOK follows hF76 (rt := [.any]) (bt := [.int]) ?_
  intro qs us cc rr h hCk
  unfold e76 at h
  split at h
  case h_2 => cases h
  simp only [Option.bind_eq_some_iff, Option.map_eq_some_iff] at h
  obtain ⟨f', hf, x1', hx1, h⟩ := h
  injection h with h1 h2; subst h1; subst h2
  exact ⟨_, _, L76 big, .cons (.agg _ _ (dec_ok hf)) (.cons (.refl _) .nil), .cons (dec_ok hx1) .nil, l76 big, (b76 big _ _).trans (sp76 )⟩

theorem ok75 : EntOK Try.prog 75 e75 := by
  refine ent_ok (C := tbl C75) (tbl_cons ok76 (tbl_nil)) libOK follows hF75 (rt := [.any]) (bt := [.int]) ?_
  intro qs us cc rr h hCk
  unfold e75 at h
  split at h
  case h_2 => cases h
  simp only [Option.bind_eq_some_iff, Option.map_eq_some_iff] at h
  obtain ⟨s', hs, f0', hf0, h⟩ := h
  injection h with h1 h2; subst h1; subst h2
  exact ⟨_, _, L75 big, .cons (.val _ _ (castSl_ok hs)) (.cons (.refl _) .nil), .cons (dec_ok hf0) .nil, l75 big, (b75 big _ _).trans (sp75 hCk)⟩

theorem ok50 : EntOK Try.prog 50 e50 := by
  refine ent_ok (C := tbl C50) (tbl_cons ok75 (tbl_nil)) libOK follows hF50 (rt := [.any]) (bt := []) ?_
  intro qs us cc rr h hCk
  unfold e50 at h
  split at h
  case h_2 => cases h
  simp only [Option.bind_eq_some_iff, Option.map_eq_some_iff] at h
  obtain ⟨p', hp, h⟩ := h
  injection h with h1 h2; subst h1; subst h2
  exact ⟨_, _, L50 big, .cons (.agg _ _ (dec_ok hp)) (.cons (.refl _) .nil), .nil, l50 big, (b50 big _ _).trans (sp50 hCk)⟩

theorem ok53 : EntOK Try.prog 53 e53 := by
  refine ent_ok (C := tbl C53) (tbl_nil) libOK follows hF53 (rt := [.sl .frame]) (bt := []) ?_
  intro qs us cc rr h hCk
  unfold e53 at h
  split at h
  case h_2 => cases h
  simp only [Option.bind_eq_some_iff, Option.map_eq_some_iff] at h
  obtain ⟨l', hl, x', hx, h⟩ := h
  injection h with h1 h2; subst h1; subst h2
  exact ⟨_, _, L53 big, .cons (.val _ _ (castSl_ok hl)) (.cons (.refl _) (.cons (.agg _ _ (dec_ok hx)) .nil)), .nil, l53 big, (b53 big _ _ _).trans (sp53 hCk)⟩

theorem ok14 : EntOK Try.prog 14 e14 := by
  refine ent_ok (C := tbl C14) (tbl_nil) libOK follows hF14 (rt := [.el .pool, .any]) (bt := []) ?_
  intro qs us cc rr h hCk
  unfold e14 at h
  split at h
  case h_2 => cases h
  injection h with h; injection h with h1 h2; subst h1; subst h2
  exact ⟨_, _, L14 big, .cons (.refl _) .nil, .nil, l14 big, (b14 big _).trans (sp14 )⟩

theorem ok22 : EntOK Try.prog 22 e22 := by
  refine ent_ok (C := tbl C22) (tbl_cons ok55 (tbl_cons ok50 (tbl_nil))) libOK follows hF22 (rt := [.any]) (bt := []) ?_
  intro qs us cc rr h hCk
  unfold e22 at h
  split at h
  case h_2 => cases h
  simp only [Option.bind_eq_some_iff, Option.map_eq_some_iff] at h
  obtain ⟨p', hp, h⟩ := h
  injection h with h1 h2; subst h1; subst h2
  exact ⟨_, _, L22 big, .cons (.agg _ _ (dec_ok hp)) .nil, .nil, l22 big, (b22 big _).trans (sp22 )⟩

theorem ok21 : EntOK Try.prog 21 e21 := by
  refine ent_ok (C := tbl C21) (tbl_cons ok22 (tbl_cons ok50 (tbl_nil))) libOK follows hF21 (rt := [.any]) (bt := []) ?_
  intro qs us cc rr h hCk
  unfold e21 at h
  split at h
  case h_2 => cases h
  simp only [Option.bind_eq_some_iff, Option.map_eq_some_iff] at h
  obtain ⟨p', hp, h⟩ := h
  injection h with h1 h2; subst h1; subst h2
  exact ⟨_, _, L21 big, .cons (.agg _ _ (dec_ok hp)) (.cons (.refl _) .nil), .nil, l21 big, (b21 big _ _).trans (sp21 )⟩

theorem ok17 : EntOK Try.prog 17 e17 := by
  refine ent_ok (C := tbl C17) (tbl_cons ok21 (tbl_cons ok53 (tbl_nil))) libOK follows hF17 (rt := [.el .pool]) (bt := []) ?_
  intro qs us cc rr h hCk
  unfold e17 at h
  split at h
  case h_2 => cases h
  simp only [Option.bind_eq_some_iff, Option.map_eq_some_iff] at h
  obtain ⟨p', hp, h⟩ := h
  injection h with h1 h2; subst h1; subst h2
  exact ⟨_, _, L17 big, .cons (.agg _ _ (dec_ok hp)) (.cons (.refl _) .nil), .nil, l17 big, (b17 big _ _).trans (sp17 )⟩

theorem ok15 : EntOK Try.prog 15 e15 := by
  refine ent_ok (C := tbl C15) (tbl_cons ok22 (tbl_cons ok49 (tbl_cons ok50 (tbl_nil)))) libOK follows hF15 (rt := [.el .pool, .any]) (bt := []) ?_
  intro qs us cc rr h hCk
  unfold e15 at h
  split at h
  case h_2 => cases h
  simp only [Option.bind_eq_some_iff, Option.map_eq_some_iff] at h
  obtain ⟨p', hp, x', hx, h⟩ := h
  injection h with h1 h2; subst h1; subst h2
  exact ⟨_, _, L15 big, .cons (.agg _ _ (dec_ok hp)) (.cons (.agg _ _ (dec_ok hx)) .nil), .nil, l15 big, (b15 big _ _).trans (sp15 )⟩

theorem ok16 : EntOK Try.prog 16 e16 := by
  refine ent_ok (C := tbl C16) (tbl_cons ok22 (tbl_nil)) libOK follows hF16 (rt := [.el .pool, .any, .any]) (bt := []) ?_
  intro qs us cc rr h hCk
  unfold e16 at h
  split at h
  case h_2 => cases h
  simp only [Option.bind_eq_some_iff, Option.map_eq_some_iff] at h
  obtain ⟨p', hp, h⟩ := h
  injection h with h1 h2; subst h1; subst h2
  exact ⟨_, _, L16 big, .cons (.agg _ _ (dec_ok hp)) .nil, .nil, l16 big, (b16 big _).trans (sp16 )⟩

theorem ok19 : EntOK Try.prog 19 e19 := by
  refine ent_ok (C := tbl C19) (tbl_cons ok22 (tbl_cons ok50 (tbl_nil))) libOK follows hF19 (rt := [.el .pool, .any]) (bt := []) ?_
  intro qs us cc rr h hCk
  unfold e19 at h
  split at h
  case h_2 => cases h
  simp only [Option.bind_eq_some_iff, Option.map_eq_some_iff] at h
  obtain ⟨p', hp, h⟩ := h
  injection h with h1 h2; subst h1; subst h2
  exact ⟨_, _, L19 big, .cons (.agg _ _ (dec_ok hp)) (.cons (.refl _) .nil), .nil, l19 big, (b19 big _ _).trans (sp19 )⟩

theorem ok20 : EntOK Try.prog 20 e20 := by
  refine ent_ok (C := tbl C20) (tbl_cons ok21 (tbl_nil)) libOK follows hF20 (rt := [.el .page, .any]) (bt := []) ?_
  intro qs us cc rr h hCk
  unfold e20 at h
  split at h
  case h_2 => cases h
  simp only [Option.bind_eq_some_iff, Option.map_eq_some_iff] at h
  obtain ⟨p', hp, h⟩ := h
  injection h with h1 h2; subst h1; subst h2
  exact ⟨_, _, L20 big, .cons (.agg _ _ (dec_ok hp)) (.cons (.refl _) .nil), .nil, l20 big, (b20 big _ _).trans (sp20 )⟩

theorem ok18 : EntOK Try.prog 18 e18 := by
  refine ent_ok (C := tbl C18) (tbl_nil) libOK follows hF18 (rt := [.any]) (bt := []) ?_
  intro qs us cc rr h hCk
  unfold e18 at h
  split at h
  case h_2 => cases h
  simp only [Option.bind_eq_some_iff, Option.map_eq_some_iff] at h
  obtain ⟨a', ha, b', hb, h⟩ := h
  injection h with h1 h2; subst h1; subst h2
  exact ⟨_, _, L18 big, .cons (.agg _ _ (dec_ok ha)) (.cons (.agg _ _ (dec_ok hb)) .nil), .nil, l18 big, (b18 big _ _).trans (sp18 hCk)⟩

theorem ok13 : EntOK Try.prog 13 e13 := by
  refine ent_ok (C := tbl C13) (tbl_cons ok14 (tbl_cons ok15 (tbl_cons ok16 (tbl_nil)))) libOK follows hF13 (rt := [.any]) (bt := []) ?_
  intro qs us cc rr h hCk
  unfold e13 at h
  split at h
  case h_2 => cases h
  injection h with h; injection h with h1 h2; subst h1; subst h2
  exact ⟨_, _, L13 big, .nil, .nil, l13 big, (b13 big ).trans (sp13 )⟩

theorem ok5 : EntOK Try.prog 5 e5 := by
  refine ent_ok (C := tbl C5) (tbl_cons ok13 (tbl_cons ok14 (tbl_cons ok15 (tbl_cons ok19 (tbl_cons ok20 (tbl_cons ok21 (tbl_cons ok22 (tbl_nil)))))))) libOK follows hF5 (rt := [.any]) (bt := []) ?_
  intro qs us cc rr h hCk
  unfold e5 at h
  split at h
  case h_2 => cases h
  injection h with h; injection h with h1 h2; subst h1; subst h2
  exact ⟨_, _, L5 big, .cons (.refl _) (.cons (.refl _) .nil), .nil, l5 big, (b5 big _ _).trans (sp5 hCk)⟩

theorem ok4 : EntOK Try.prog 4 e4 := by
  refine ent_ok (C := tbl C4) (tbl_cons ok13 (tbl_cons ok14 (tbl_cons ok15 (tbl_cons ok16 (tbl_cons ok17 (tbl_cons ok18 (tbl_nil))))))) libOK follows hF4 (rt := [.any]) (bt := []) ?_
  intro qs us cc rr h hCk
  unfold e4 at h
  split at h
  case h_2 => cases h
  simp only [Option.bind_eq_some_iff, Option.map_eq_some_iff] at h
  obtain ⟨uses', huses, h⟩ := h
  injection h with h1 h2; subst h1; subst h2
  exact ⟨_, _, L4 big, .cons (.refl _) (.cons (.val _ _ (castSl_ok huses)) .nil), .nil, l4 big, (b4 big _ _).trans (sp4 hCk)⟩

end Go.Ab
