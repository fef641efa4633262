/- Lemmas for the claim: the program's code as functions of plain values, and what these compute. -/
import Derived.Test.YtmkfncnbedmdjaaAbsC
import Derived.Shelf.SlicesE.Clone
import Derived.Shelf.SlLaysE0
import Derived.Shelf.SlicesE.Kit
import Derived.Shelf.RegionOpenPlain
import Derived.WalkKit
import Derived.Deep.RegionLaw
import Derived.Lib.Walk
import Derived.Lib.SliceRun
import Derived.Lib.SlicesDelete
import Derived.Deep.MidRow
import Derived.ProofKit
import Derived.OpenShut
import Derived.JoinedCond
import Derived.Carry

namespace Go.Ab
open Go Go.RowKit Go.Shelf Go.Proofs

variable {P : Program} {ρ : Ren}

theorem libOf_none {f : FuncId} (h : P.funcs.size ≤ f) : libOf P f = none := by
  unfold libOf
  rw [Array.getElem?_eq_none h]

/-- Of a slice's elements: their cells, one behind the other. -/
def flatU (U : Nat → Nat → Value) (n sz : Nat) : List Value := (List.range (n * sz)).map fun k => U (k / sz) (k % sz)

theorem flatU_get {U : Nat → Nat → Value} {n sz k : Nat} {u : Value} (h : (flatU U n sz)[k]? = some u) : k < n * sz ∧ u = U (k / sz) (k % sz) := by
  unfold flatU at h
  rw [List.getElem?_map] at h
  simp only [Option.map_eq_some_iff] at h
  obtain ⟨j, h1, rfl⟩ := h
  rw [List.getElem?_eq_some_iff] at h1
  obtain ⟨h1, h2⟩ := h1
  simp at h1 h2
  subst h2
  exact ⟨h1, rfl⟩

theorem rowAt {rows : List (List AV)} {n sz k : Nat} (hn : rows.length = n) (hr : ∀ (i : Nat) (r : List AV), rows[i]? = some r → r.length = sz) (hsz : 0 < sz) (hk : k < n * sz) :
    ∃ r x, rows[k / sz]? = some r ∧ r[k % sz]? = some x ∧ k / sz * sz + k % sz = k := by
  have h1 : k / sz < n := (Nat.div_lt_iff_lt_mul hsz).2 hk
  have h2 : rows[k / sz]? = some (rows[k / sz]'(by omega)) := List.getElem?_eq_getElem _
  have h3 := hr _ _ h2
  have h4 : k % sz < sz := Nat.mod_lt _ hsz
  exact ⟨_, _, h2, List.getElem?_eq_getElem (by omega), by rw [Nat.mul_comm]; exact Nat.div_add_mod k sz⟩

/-- slices.Clone, as it is in the program. -/
theorem clone_ok (L : SlLaysE0.n41 P ρ) {f : FuncId} (hf : ρ.f 41 = f) (he : libElem P f = some (ρ.t 23)) {e : TypeId} {sz bytes : Nat} (hz : esz P e = some sz) (hby : libBytes P f e sz = some bytes) :
    Callable P f ∧ ∀ (w : World) (v : Value) T Q full rows x n c ad U, SlR w T Q v full rows x n c sz ad U → rows.length * bytes ≤ lim → rows.length ≤ lim →
    Calls P f #[v] w fun e w' => ∃ u, e = .returned u ∧ Old w w' ∧ ((rows = [] ∧ ∃ y, u = .slice y 0 0 ∧ ∀ ad, y = some ad → ad.spot = none) ∨ (∃ g arr et c', w.heap.size ≤ g ∧ w'.heap[g]? = some (.cells arr et (0, 0)) ∧ u = .slice (some ⟨g, 0, none⟩) n c' ∧ n ≤ c' ∧ c' * sz ≤ arr.size ∧
          ∀ (i : Nat) r (j : Nat) y, rows[i]? = some r → r[j]? = some y → arr[i * sz + j]? = some (U i j))) := by
  subst hf
  obtain ⟨hz1, hpos⟩ := esz_sz hz
  have hcal : Callable P (ρ.f 41) := by
    obtain ⟨nm, h1, h2⟩ := L.f41
    exact ⟨_, h2, h1, rfl⟩
  refine ⟨hcal, ?_⟩
  simp only [libBytes, he] at hby
  obtain ⟨hb1, hby⟩ := bif_some0 hby
  have : ρ.t 23 = e := Nat.eq_of_beq_eq_true hb1
  subst this
  unfold zbytes at hby
  simp only [Option.bind_eq_some_iff] at hby
  obtain ⟨zs, hzs, hby⟩ := hby
  obtain ⟨hb2, hby⟩ := bif_some0 hby
  have hzl := Nat.eq_of_beq_eq_true hb2
  unfold zeroOf at hzs
  simp only [Option.bind_eq_some_iff] at hzs
  obtain ⟨z, ⟨i0, hi, hz0⟩, hsc⟩ := hzs
  have hsize : i0.size = sz := by unfold szOf at hz1; rw [hi] at hz1; simpa using hz1
  have hbytes : i0.bytes = bytes := by unfold bytesOfT at hby; rw [hi] at hby; simpa using hby
  have hzc : ∀ _ : World, z.cells.size = sz := fun w => by
    have := (scals_get (w := w) (S := fun _ _ => False) hsc).1
    simp only [Array.length_toList] at this
    omega
  have z23 : ∀ w, (Go.sizeOf (ρ.t 23)).run P w = .ok sz w := run_sizeOf' hz1
  intro w v T Q full rows x n c ad U hs hfit hlim
  rw [hs.hv]
  cases x with
  | none =>
    have h0 : rows = [] := by
      cases rows with
      | nil => rfl
      | cons r rs => have := hs.ha (by simp); cases this
    have hn := hs.hn
    rw [h0] at hn
    simp at hn
    subst hn
    refine (AnyE.slices_Clone_nil L 0 c w).mono ?_
    rintro e w' ⟨rfl, rfl⟩
    exact ⟨_, rfl, Old.refl _, .inl ⟨h0, none, rfl, fun _ h => by cases h⟩⟩
  | some x =>
    have hsp := hs.hs x rfl
    obtain ⟨b, off, spot⟩ := x
    simp only at hsp
    subst hsp
    have hn := hs.hn
    have had : rows ≠ [] → (⟨b, off, none⟩ : Addr) = ad := fun h => by have := hs.ha h; injection this
    have hl : (flatU U n sz).length = n * sz := by simp [flatU]
    refine (AnyE.slices_Clone L i0 z sz bytes hi hz0 hsize hbytes (hzc w) hpos z23 b off n c (flatU U n sz) w hl ?_ ?_ ?_ ?_).mono ?_
    · simp only [lim] at hlim; unfold maxLen; omega
    · rw [hn] at hfit; unfold lim at hfit; omega
    · intro j u hj
      obtain ⟨h1, rfl⟩ := flatU_get hj
      obtain ⟨r, y, h2, h3, h4⟩ := rowAt hn hs.hr hpos h1
      have hne : rows ≠ [] := by intro e; rw [e] at h2; simp at h2
      have := hs.hcell _ r _ y h2 h3
      rw [← had hne] at this
      simp only at this
      rw [← this]
      congr 2; omega
    · intro u hu
      obtain ⟨k, hk⟩ := List.mem_iff_getElem?.1 hu
      obtain ⟨h1, rfl⟩ := flatU_get hk
      obtain ⟨r, y, h2, h3, _⟩ := rowAt hn hs.hr hpos h1
      exact hs.h1 _ r _ y h2 h3
    · rintro e w' ⟨v', rfl, hown, hnil, hbel⟩
      refine ⟨v', rfl, ⟨hbel.os, hbel.tape, hbel.output, hbel.size, hbel.block⟩, .inr ?_⟩
      rcases hown.2 with ⟨h1, _⟩ | ⟨g, cap, cur, h1, h2, h3, h4, _, h6, h7⟩
      · exact absurd h1 hnil
      · refine ⟨g, cur, _, cap, h2, h3, h1, h4, by omega, ?_⟩
        intro i r j y hi' hj'
        have hlt := (List.getElem?_eq_some_iff.1 hi').1
        have hjl := (List.getElem?_eq_some_iff.1 hj').1
        have hrl := hs.hr i r hi'
        have hj2 : j < sz := by omega
        have hk : i * sz + j < n * sz := by
          have : (i + 1) * sz ≤ n * sz := Nat.mul_le_mul_right _ (by omega)
          rw [Nat.add_mul] at this; omega
        have hd : (i * sz + j) / sz = i := by rw [Nat.mul_comm, Nat.mul_add_div hpos]; simp [Nat.div_eq_of_lt hj2]
        have hm : (i * sz + j) % sz = j := by rw [Nat.mul_comm, Nat.mul_add_mod]; exact Nat.mod_eq_of_lt hj2
        have hg : (flatU U n sz)[i * sz + j]? = some (U i j) := by
          unfold flatU
          rw [List.getElem?_map, List.getElem?_range hk]
          simp [hd, hm]
        rw [← h7, List.getElem?_take, if_pos hk] at hg
        simpa using hg

end Go.Ab

namespace Go.Ab
open Go Go.RowKit Go.Shelf Go.Proofs Go.Lib
variable {P : Program} {ρ : Ren}

theorem clear_run {n : Nat} (w : World) (t e ty : TypeId) (z : Value) (ht : P.underlying t = some (.slice e)) (hv : ∀ w, (zeroValue e).run P w = .ok z w) (h1 : ∀ v ∈ (Builtin.zeroCells z.cells n).toList, v.oneCell' = true) (b o c : Nat) (hn : 0 < n)
    (hc : ∀ j, j < n * z.cells.size → (w.cell? ⟨b, o + j, none⟩).isSome = true) (hf : ∀ j, j < n * z.cells.size → w.frozen? ⟨b, o + j, none⟩ = false) :
    (Builtin.clear_ #[t] ty #[.slice (some ⟨b, o, none⟩) n c]).run P w = .ok (.tuple #[]) (w.setCells b o (Builtin.zeroCells z.cells n).toList) := by
  have hst := run_storeCells_cells (P := P) b o (Builtin.zeroCells z.cells n).toList 0 w (by simpa [Builtin.zeroCells] using hc) (by simpa [Builtin.zeroCells] using hf) h1
  simp only [Nat.add_zero] at hst
  obtain ⟨m, rfl⟩ : ∃ m, n = m + 1 := ⟨n - 1, by omega⟩
  simp [Builtin.clear_, run_underlying ht, hv, hst]

set_option maxHeartbeats 4000000 in
set_option maxRecDepth 1000000 in
/-- slices.Delete at elements of k cells, in terms of cells. -/
theorem delete_run (L : SlLaysE0.n45 P ρ) (i0 : TypeInfo) (hi0 : P.info? (ρ.t 23) = some i0) (k : Nat) (hz1 : i0.size = k) (hk : 0 < k) (zs : Array Value) (v23 : ∀ w, (zeroValue (ρ.t 23)).run P w = .ok (.agg zs) w) (hzs : zs.size = k)
    (z23 : ∀ w, (Go.sizeOf (ρ.t 23)).run P w = .ok k w) (blk off n cap i j : Nat) (hone : ∀ v ∈ (Builtin.zeroCells zs (n - (i + (n - j)))).toList, v.oneCell' = true) (cs : List Value) (w : World) (hl : cs.length = n * k) (hc : ∀ t u, cs[t]? = some u → w.cell? ⟨blk, off + t, none⟩ = some u)
    (hf : ∀ t, t < n * k → w.frozen? ⟨blk, off + t, none⟩ = false) (h1 : ∀ u ∈ cs, u.oneCell' = true) (hcap : n ≤ cap) (hij : i < j) (hj : j ≤ n) :
    Calls P (ρ.f 45) #[.slice (some ⟨blk, off, none⟩) n cap, .int .i64 i, .int .i64 j] w fun e w' => e = .returned (.slice (some ⟨blk, off, none⟩) (i + (n - j)) cap) ∧
      w' = (w.drew.setCells blk (off + i * k) (cs.drop (j * k))).setCells blk (off + (i + (n - j)) * k) (Builtin.zeroCells zs (n - (i + (n - j)))).toList := by
  have mixed := L.mixed; have t0 := L.t0; have a0 := L.a0; have z0 := L.z0; have v0 := L.v0; have t3 := L.t3; have a3 := L.a3; have z3 := L.z3; have v3 := L.v3; have t4 := L.t4; have a4 := L.a4; have z4 := L.z4; have v4 := L.v4; have t22 := L.t22; have a22 := L.a22; have z22 := L.z22; have v22 := L.v22
  have hjk : j * k ≤ n * k := Nat.mul_le_mul_right _ hj
  have hik : i * k ≤ j * k := Nat.mul_le_mul_right _ (by omega)
  obtain ⟨news, hnews⟩ : ∃ news, news = cs.drop (j * k) := ⟨_, rfl⟩
  have hlen : news.length = (n - j) * k := by rw [hnews, List.length_drop, hl, Nat.sub_mul]
  obtain ⟨A, hA, hsrc⟩ : ∃ A : Addr, (if cap = j then some (⟨blk, off, none⟩ : Addr) else some ⟨blk, off + j * k, none⟩) = some A ∧ Hid (∀ t u, news[t]? = some u → w.drew.cell? (A.add t) = some u) := by
    by_cases h : cap = j
    · refine ⟨⟨blk, off, none⟩, by simp [h], fun t u hu => ?_⟩
      have h0 : news.length = 0 := by rw [hlen, show n - j = 0 by omega, Nat.zero_mul]
      rw [List.length_eq_zero_iff.1 h0] at hu
      simp at hu
    · refine ⟨⟨blk, off + j * k, none⟩, by simp [h], fun t u hu => ?_⟩
      rw [hnews, List.getElem?_drop] at hu
      rw [Addr.add_lit, Nat.add_assoc]
      exact hc _ _ hu
  have s1 : Hid (news.length = (n - j) * k) := hlen
  have s2 : Hid (∀ u ∈ news, u.oneCell' = true) := by
    intro u hu
    rw [hnews] at hu
    exact h1 u (List.mem_of_mem_drop hu)
  have hsum : i * k + (n - j) * k ≤ n * k := by rw [Nat.sub_mul]; omega
  have hcell : ∀ t, t < n * k → (w.cell? ⟨blk, off + t, none⟩).isSome = true := by
    intro t ht
    rw [hc t _ (List.getElem?_eq_getElem (by omega))]; rfl
  have s3 : Hid (∀ t, t < news.length → (w.drew.cell? ⟨blk, off + i * k + t, none⟩).isSome = true ∧ w.drew.frozen? ⟨blk, off + i * k + t, none⟩ = false) := by
    intro t ht
    rw [hlen] at ht
    rw [Nat.add_assoc]
    exact ⟨hcell _ (by omega), hf _ (by omega)⟩
  obtain ⟨W1, hW1⟩ : ∃ W1, W1 = w.drew.setCells blk (off + i * k) news := ⟨_, rfl⟩
  have hsum2 : (i + (n - j)) * k + (n - (i + (n - j))) * k = n * k := by rw [← Nat.add_mul]; congr 1; omega
  have hcl : ∀ ty, (Builtin.clear_ #[ρ.t 22] ty #[.slice (some ⟨blk, off + (i + (n - j)) * k, none⟩) (n - (i + (n - j))) (cap - (i + (n - j)))]).run P W1 = .ok (.tuple #[]) (W1.setCells blk (off + (i + (n - j)) * k) (Builtin.zeroCells zs (n - (i + (n - j)))).toList) :=
    fun ty => clear_run W1 _ _ ty (.agg zs) t22 v23 hone blk (off + (i + (n - j)) * k) _ (by omega)
      (fun t ht => by change _ < _ * zs.size at ht; rw [hzs] at ht; rw [hW1]; exact World.isSome_setCells _ _ _ _ _ (by rw [Nat.add_assoc]; exact hcell _ (by omega)))
      (fun t ht => by change _ < _ * zs.size at ht; rw [hzs] at ht; rw [hW1, World.frozen?_setCells, Nat.add_assoc]; exact hf _ (by omega))
  have hW : Hid (W1 = w.drew.setCells blk (off + i * k) news) := hW1
  have hic : i ≤ cap := by omega
  have hjc : j ≤ cap := by omega
  have X : Hid (news = cs.drop (j * k)) := hnews
  clear hW1 hc hf hcell hnews hlen hl
  obtain ⟨_, _, FG⟩ := L.f45
  go_enter FG, SlBodyN.n45_ntmps ρ
  go_wp2_with fail
  go_region_law_o (refine step_append_room rfl (.tmp 22) (.tmp 25) (ρ.t 22) rfl (ρ.t 23) i0 k t22 hi0 hz1 blk off i cap (by simp [Act.eval, Act.put]) A (n - j) (cap - j) news (by simp [Act.eval, Act.put]) s1.out hsrc.out s2.out (by omega) s3.out ?_; rw [← hW.out])
  go_wp2
  go_ret
  exact ⟨rfl, by rw [← X.out, ← hW.out]⟩

theorem mem_zeroCells {zs : Array Value} {m : Nat} {u : Value} (h : u ∈ (Builtin.zeroCells zs m).toList) : u ∈ zs.toList := by
  simp only [Builtin.zeroCells, Array.toList_map, Array.toList_range, List.mem_map, List.mem_range] at h
  obtain ⟨i, hi, rfl⟩ := h
  have hp : 0 < zs.size := by
    rcases Nat.eq_zero_or_pos zs.size with e | e
    · rw [e] at hi; omega
    · exact e
  rw [getElem!_pos zs _ (Nat.mod_lt i hp)]
  simp

theorem del_ok (L : SlLaysE0.n45 P ρ) {f : FuncId} (hf : ρ.f 45 = f) (he : libElem P f = some (ρ.t 23)) (zs : Array Value) (hz0 : (P.info? (ρ.t 23)).bind (·.zero) = some (.agg zs)) (v23 : ∀ w, (zeroValue (ρ.t 23)).run P w = .ok (.agg zs) w)
    {e : TypeId} {sz bytes : Nat} (hz : esz P e = some sz) (hby : libBytes P f e sz = some bytes) :
    Callable P f ∧ ∀ (w : World) (blk off n cap i j : Nat) (cs : List Value), cs.length = n * sz → (∀ t u, cs[t]? = some u → w.cell? ⟨blk, off + t, none⟩ = some u) →
    (∀ t, t < n * sz → w.frozen? ⟨blk, off + t, none⟩ = false) → (∀ u ∈ cs, u.oneCell' = true) → n ≤ cap → i < j → j ≤ n →
    Calls P f #[.slice (some ⟨blk, off, none⟩) n cap, .int .i64 i, .int .i64 j] w fun e w' => ∃ zs : List Value, zs.length = (n - (i + (n - j))) * sz ∧ (∀ u ∈ zs, u.oneCell' = true) ∧ e = .returned (.slice (some ⟨blk, off, none⟩) (i + (n - j)) cap) ∧
      w' = (w.drew.setCells blk (off + i * sz) (cs.drop (j * sz))).setCells blk (off + (i + (n - j)) * sz) zs := by
  subst hf
  obtain ⟨hz1, hpos⟩ := esz_sz hz
  have hcal : Callable P (ρ.f 45) := by
    obtain ⟨nm, h1, h2⟩ := L.f45
    exact ⟨_, h2, h1, rfl⟩
  refine ⟨hcal, ?_⟩
  simp only [libBytes, he] at hby
  obtain ⟨hb1, hby⟩ := bif_some0 hby
  have : ρ.t 23 = e := Nat.eq_of_beq_eq_true hb1
  subst this
  unfold zbytes at hby
  simp only [Option.bind_eq_some_iff] at hby
  obtain ⟨zl, hzl, hby⟩ := hby
  obtain ⟨hb2, hby⟩ := bif_some0 hby
  have hlen := Nat.eq_of_beq_eq_true hb2
  unfold zeroOf at hzl
  rw [hz0, Option.bind_some] at hzl
  have hsc := fun w => scals_get (w := w) (S := fun _ _ => False) hzl
  simp only [Option.bind_eq_some_iff] at hz0
  obtain ⟨i0, hi, hz0⟩ := hz0
  have hsize : i0.size = sz := by unfold szOf at hz1; rw [hi] at hz1; simpa using hz1
  have hzc : ∀ _ : World, zs.size = sz := fun w => by
    have := (hsc w).1
    simp only [Array.length_toList] at this
    rw [← hlen, ← this]; rfl
  have hone : ∀ (_ : World) (m : Nat), ∀ v ∈ (Builtin.zeroCells zs m).toList, v.oneCell' = true := by
    intro w m v hv
    have hv := mem_zeroCells hv
    obtain ⟨k, hk⟩ := List.mem_iff_getElem?.1 hv
    have hlt := (List.getElem?_eq_some_iff.1 hk).1
    have h2 := (hsc w).1
    have hx : zl[k]? = some (zl[k]'(by rw [← h2]; exact hlt)) := List.getElem?_eq_getElem _
    obtain ⟨u, h3, _, h4⟩ := (hsc w).2 k _ hx
    have h3 : zs.toList[k]? = some u := h3
    rw [hk] at h3; injection h3 with h3; rw [h3]; exact h4
  intro w blk off n cap i j cs h1 h2 h3 h4 h5 h6 h7
  refine (delete_run L i0 hi sz hsize hpos zs v23 (hzc w) (run_sizeOf' hz1) blk off n cap i j (hone w _) cs w h1 h2 h3 h4 h5 h6 h7).mono ?_
  rintro e w' ⟨he, hw⟩
  refine ⟨_, ?_, hone w _, he, hw⟩
  simp [Builtin.zeroCells, hzc w]

end Go.Ab

namespace Go.Ab
open Go Go.RowKit Go.ChangeShapes Go.WideShapes Go.ChangeAt

variable {P : Program} {w w' : World}

theorem keep_below (h : Keep w [] w') : Below w.heap.size w w' := ⟨h.os, h.tape, h.output, h.size, fun b hb => h.block b hb (by simp)⟩

/-- What lies in memory ahead of the call. -/
def lies (w : World) : Cells := fun b _ => b < w.heap.size

theorem callIn_nil : CallIn w (lies w) [] [] :=
  ⟨rfl, List.nodup_nil, fun b o hb => ⟨hb, by simp⟩, fun j b cs h => by simp at h⟩

theorem run_ent {f : FuncId} {g : List PV → List (List AV) → Option (Ck × Rs)} (h : EntOK P f g) {qs : List PV} {c : Ck} {r : Rs} (hg : g qs [] = some (c, r)) (hc : c.val = true) {args : Array Value} (hs : args.size = qs.length)
    (hrp : ∀ (j : Nat) q v, qs[j]? = some q → args[j]? = some v → RP w (lies w) (muOf []) (liveOf []) (lies w) (fun _ => Go.undef) (fun _ => 0) v q) :
    Calls P f args w fun e w' => ∃ v, e = .returned v ∧ CallOut w (lies w) [] r v w' := by
  have := h f qs [] r (by
    simp only [OrcT.orc, Nat.beq_refl, cond_true, hg]
    cases c with
    | ok => rfl
    | chk b => have : b = true := hc; subst this; rfl)
  exact this.2 args w (lies w) [] callIn_nil hs hrp

theorem rp_all1 {S : Cells} {μ : Nat → Nat} {live : Nat → Prop} {T : Cells} {cv : Loc → Value} {cz : Loc → Nat} {q1 : PV} {v1 : Value} (h1 : RP w S μ live T cv cz v1 q1) :
    ∀ (j : Nat) q v, [q1][j]? = some q → (#[v1] : Array Value)[j]? = some v → RP w S μ live T cv cz v q := by
  intro j q v hq hv
  match j with
  | 0 => simp at hq hv; subst hq; subst hv; exact h1
  | j + 1 => simp at hq
theorem rp_all2 {S : Cells} {μ : Nat → Nat} {live : Nat → Prop} {T : Cells} {cv : Loc → Value} {cz : Loc → Nat} {q1 q2 : PV} {v1 v2 : Value} (h1 : RP w S μ live T cv cz v1 q1) (h2 : RP w S μ live T cv cz v2 q2) :
    ∀ (j : Nat) q v, [q1, q2][j]? = some q → (#[v1, v2] : Array Value)[j]? = some v → RP w S μ live T cv cz v q := by
  intro j q v hq hv
  match j with
  | 0 => simp at hq hv; subst hq; subst hv; exact h1
  | 1 => simp at hq hv; subst hq; subst hv; exact h2
  | j + 2 => simp at hq

theorem ok_slice {t e : TypeId} (ht : P.underlying t = some (.slice e)) {base : Nat} {v : Value} (hval : Value.okWide P w .any base t v) :
    v = .slice none 0 0 ∨ ∃ a n c, v = .slice (some a) n c ∧ a.spot = none := by
  unfold Value.okWide Cell.okWide Cell.ok at hval
  cases v with
  | slice a n c =>
    cases a with
    | none =>
      cases n with
      | zero => cases c with
        | zero => exact .inl rfl
        | succ c => simp [ht] at hval
      | succ n => simp [ht] at hval
    | some a =>
      simp only [ht] at hval
      exact .inr ⟨a, n, c, rfl, hval.2.2.2.1⟩
  | _ => simp [ht] at hval

theorem wf_byte {n : Int} (h : (Lit.int .u8 n).wf = true) : 0 ≤ n ∧ n ≤ 255 := by
  simp only [Lit.wf, IntKind.min, IntKind.max] at h
  have e : (2 : Int) ^ IntKind.u8.bits - 1 = 255 := by decide
  simp only [show IntKind.u8.signed = false from rfl, Bool.false_eq_true, if_false, e, Bool.and_eq_true, decide_eq_true_iff] at h
  exact h

/-- A slice of bytes, as it is read. -/
theorem rv_bytes2 {H : Type} {enc : TypeId × Value → H} {t e : TypeId} (ht : P.underlying t = some (.slice e)) (he : P.underlying e = some (.int .u8)) (hc : P.cellsOf e = 1) {base : Nat} {v : Value} (hval : Value.okWide P w .any base t v)
    {d : DataW H} {ps : List MemPlace} (hd : DataW.Trod enc P w 0 (fun _ => true) true t v d ps) :
    ∃ l : List Int, (∀ x ∈ l, 0 ≤ x ∧ x ≤ 255) ∧ RV w (lies w) v (.sl false .u8 l) := by
  obtain ⟨fuel, hf⟩ := hd
  have hv1 : ∃ a n c, v = .slice a n c ∧ ∀ x, a = some x → x.spot = none := by
    rcases ok_slice ht hval with rfl | ⟨a, n, c, rfl, h⟩
    · exact ⟨_, _, _, rfl, fun x h => by cases h⟩
    · exact ⟨_, _, _, rfl, fun x e => by injection e with e; subst e; exact h⟩
  obtain ⟨a, n, c, rfl, hspot⟩ := hv1
  have hcells : (Value.slice a n c).cells.toList = [.slice a n c] := rfl
  rw [hcells] at hf
  rcases open_ints ht he hc hf with ⟨h1, _⟩ | ⟨a', len, cap, zs, h1, _, h2, h3, h4, _, h5, hwf⟩
  · injection h1 with h1 _
    injection h1 with h1 h2 h3
    subst h1; subst h2; subst h3
    exact ⟨[], fun x hx => (nomatch hx), .sl false .u8 [] [] none 0 0 1 ⟨0, 0, none⟩ (fun _ _ => Go.undef) rfl rfl (Nat.le_refl _) (fun h => by cases h) (by omega) (fun i r h => by simp at h) (fun h => absurd rfl h) (fun x h => by cases h) (fun _ => rfl)
      (fun i r j x h => by simp at h) (fun i r j x h => by simp at h) (fun i r j x h => by simp at h) (fun i r j x h => by simp at h)⟩
  · injection h1 with h1 _
    injection h1 with h1 h6 h7
    subst h1; subst h6; subst h7
    have hsp : a'.spot = none := hspot _ rfl
    have hcap : zs.length = c := by simpa using h4
    have hrow : ∀ (i : Nat) (r : List AV) (j : Nat) x, ((zs.take n).map (Go.Ab.enc .u8))[i]? = some r → r[j]? = some x → i < zs.length ∧ j = 0 ∧ x = .int .u8 (zs.getD i 0) := by
      intro i r j x hi hj
      rw [List.getElem?_map, List.getElem?_take] at hi
      split at hi
      case isFalse => simp at hi
      simp only [Option.map_eq_some_iff] at hi
      obtain ⟨y, hy, rfl⟩ := hi
      have hlt := (List.getElem?_eq_some_iff.1 hy).1
      have hj0 : j = 0 := by
        have := (List.getElem?_eq_some_iff.1 hj).1
        simp [Go.Ab.enc] at this; exact this
      subst hj0
      simp [Go.Ab.enc] at hj
      refine ⟨hlt, rfl, ?_⟩
      rw [← hj, List.getD_eq_getElem?_getD, hy]; rfl
    have hcell : ∀ i, i < zs.length → w.cell? ⟨a'.block, a'.off + i, none⟩ = some (.int .u8 (zs.getD i 0)) := by
      intro i hi
      have := h5 i hi
      rw [add_off _ _ hsp] at this
      exact this
    refine ⟨zs.take n, fun x hx => ?_, .sl false .u8 (zs.take n) _ (some a') n c 1 a' (fun i _ => .int .u8 (zs.getD i 0)) rfl (by simp; omega) h2 (fun h => by cases h) (by omega) ?_ (fun _ => rfl) (fun x h => by injection h with h; subst h; exact hsp) (fun h => by cases h) ?_ ?_ ?_ ?_⟩
    · exact wf_byte (hwf x (List.mem_of_mem_take hx))
    · intro i r hi
      rw [List.getElem?_map] at hi
      simp only [Option.map_eq_some_iff] at hi
      obtain ⟨y, _, rfl⟩ := hi
      rfl
    · intro i r j x hi hj
      obtain ⟨h8, _, _⟩ := hrow i r j x hi hj
      have := hcell i h8
      show a'.block < w.heap.size
      unfold World.cell? at this
      rcases Nat.lt_or_ge a'.block w.heap.size with h9 | h9
      · exact h9
      · simp [Array.getElem?_eq_none h9] at this
    · intro i r j x hi hj
      obtain ⟨h8, rfl, _⟩ := hrow i r j x hi hj
      have := hcell i h8
      rw [Nat.mul_one, Nat.add_zero]; exact this
    · intro i r j x hi hj
      obtain ⟨_, _, rfl⟩ := hrow i r j x hi hj
      exact .int _ _
    · intro i r j x hi hj; rfl

theorem rv_bytes {H : Type} {enc : TypeId × Value → H} {t e : TypeId} (ht : P.underlying t = some (.slice e)) (he : P.underlying e = some (.int .u8)) (hc : P.cellsOf e = 1) {base : Nat} {v : Value} (hval : Value.okWide P w .any base t v)
    {d : DataW H} {ps : List MemPlace} (hd : DataW.Trod enc P w 0 (fun _ => true) true t v d ps) :
    ∃ l : List Int, RV w (lies w) v (.sl false .u8 l) := (rv_bytes2 ht he hc hval hd).imp fun _ h => h.2

theorem rv_true {S : Cells} {v : Value} (h : RV w S v (.bool true)) : v = .bool true := by cases h; rfl

end Go.Ab
