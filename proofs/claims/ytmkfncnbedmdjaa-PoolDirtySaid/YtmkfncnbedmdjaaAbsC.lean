/- Lemmas for the claim: the program's code as functions of plain values, and what these compute. -/
import Derived.Test.YtmkfncnbedmdjaaAbsB
import Derived.LoopN
import Derived.Orders
import Derived.Test.YtmkfncnbedmdjaaAbsA
import Derived.Below

namespace Go.Ab
open Go Go.RowKit

variable {P : Program} {E : Ent} {μ : Nat → Nat} {S : Cells} {w : World} {a : Act} {σ : St}
variable {C : Orc} {A : Ann} {bases : List Nat} {o : Oper} {g : Option (Nat × Bool)} {σ' : St}

theorem skip_blks (h : Rel E μ S w a σ) {refs : List Nat} {bs : List (List AV)} {b' : Nat → Option (List AV)} (hnd : refs.Nodup) (hg : getBlks σ.b refs = some bs) (hf : freeB σ.rb refs bs = true) (hs : setBlks σ.b refs bs = some b') :
    Rel E μ S w a { σ with b := b', rb := clrB σ.rb refs } := by
  obtain ⟨l1, g1⟩ := getBlks_get hg
  obtain ⟨l2, g2, g3⟩ := setBlks_get hnd hs
  have same : ∀ k, b' k = σ.b k := by
    intro k
    by_cases hm : k ∈ refs
    · obtain ⟨j, hj⟩ := List.mem_iff_getElem?.1 hm
      obtain ⟨c, h1, h2⟩ := g2 j k hj
      obtain ⟨c', h3, h4⟩ := g1 j k hj
      rw [h1] at h3; injection h3 with h3; subst h3
      rw [h2, h4]
    · exact g3 k hm
  refine h.weak (fun i => .inl rfl) (fun i => .inr ⟨rfl, fun T cv cz v hq => ?_⟩) (fun i => .inl rfl) ?_ (fun k cs hk => ⟨cs, by rw [← same k]; exact hk, rfl, fun _ _ h => .inl h⟩) ?_
  · exact RP.grow (Grow.refl _ _) (Grow.refl _ _) (fun j hj => ⟨by show b' j ≠ none; rw [same j]; exact hj, rfl⟩) (fun l _ ad n c hc => ⟨⟨n, c, hc⟩, rfl⟩) hq
  · intro l
    cases l with
    | tmp i => exact .inl rfl
    | cell k o =>
      simp only [St.grade, clrB_get]
      split
      · rename_i hm
        refine .inr ⟨rfl, fun hw => ?_⟩
        obtain ⟨j, hj⟩ := List.mem_iff_getElem?.1 hm
        obtain ⟨c, h1, h2⟩ := g1 j k hj
        obtain ⟨c', h3, h4⟩ := freeB_get hf j k hj
        rw [h1] at h3; injection h3 with h3; subst h3
        rw [h4 o (h.rb_lt h2 (wr_ne hw))] at hw; cases hw
      · exact .inl rfl
  · intro k o hr
    show b' k ≠ none
    rw [same k]
    simp only [clrB_get] at hr
    split at hr
    · exact absurd rfl hr
    · exact h.gb k o hr

theorem skip_call (h : Rel E μ S w a σ) {d : Nat} {f : FuncId} {args : List Arg} {esc : List Nat} {fresh : Bool} (hdT : d < E.T)
    (hstep : step C g (.call d f args esc fresh) σ some = some σ') (hg : Skipped σ g) : RelE E w (a.put (some d) Go.undef) σ' := by
  simp only [step] at hstep
  obtain ⟨hc0, hb⟩ := bif_some hstep
  simp only [Bool.and_eq_true] at hc0
  have hwd := not_wr hc0.2
  simp only [Option.bind_eq_some_iff] at hb
  obtain ⟨bs, hbs, hb⟩ := hb
  obtain ⟨hfree, hb⟩ := bif_some hb
  have hnd := keysAll_nodup (args.map (Arg.ev σ)) [] List.nodup_nil
  cases fresh with
  | false =>
    simp only at hb
    rw [gd_skipped hg] at hb
    simp only [Option.bind_some, Option.bind_eq_some_iff] at hb
    obtain ⟨b', hb', hb⟩ := hb
    injection hb with hb
    refine ⟨μ, S, ?_⟩
    rw [← hb]
    exact (skip_blks h hnd hbs hfree hb').put hdT hwd .undef
  | true =>
    simp only at hb
    obtain ⟨j, b, rfl, _⟩ := hg
    cases hb

theorem skip_calld (h : Rel E μ S w a σ) {d x : Nat} {args : List Arg} {esc : List Nat} (hdT : d < E.T)
    (hstep : step C g (.calld d x args esc) σ some = some σ') (hg : Skipped σ g) : RelE E w (a.put (some d) Go.undef) σ' := by
  simp only [step] at hstep
  split at hstep
  case h_2 => cases hstep
  rename_i f fa fc hp
  obtain ⟨hc0, hb⟩ := bif_some hstep
  simp only [Bool.and_eq_true] at hc0
  have hwd := not_wr hc0.2
  simp only [Option.bind_eq_some_iff] at hb
  obtain ⟨bs, hbs, hb⟩ := hb
  obtain ⟨hfree, hb⟩ := bif_some hb
  have hnd := keysAll_nodup (fa ++ args.map (Arg.ev σ) ++ fc) [] List.nodup_nil
  rw [gd_skipped hg] at hb
  simp only [Option.bind_some, Option.bind_eq_some_iff] at hb
  obtain ⟨b', hb', hb⟩ := hb
  injection hb with hb
  refine ⟨μ, S, ?_⟩
  rw [← hb]
  exact (skip_blks h hnd hbs hfree hb').put hdT hwd .undef

theorem ok_calld (hC : Sound P C) (h : Rel E μ S w a σ) {d x : Nat} {args : List Arg} {esc : List Nat} (hs : SlimSpec P o (.calld d x args esc)) (hdT : d < E.T)
    (hstep : step C g (.calld d x args esc) σ some = some σ') (hg : Wanted σ g) : OpOK P o a w E σ' := by
  obtain ⟨hd, c, hop, hcal, hargs, rfl⟩ := hs
  simp only [step] at hstep
  split at hstep
  case h_2 => cases hstep
  rename_i f fa fc hp
  obtain ⟨hc0, hb⟩ := bif_some hstep
  simp only [Bool.and_eq_true] at hc0
  have hwd := not_wr hc0.2
  simp only [Option.bind_eq_some_iff] at hb
  obtain ⟨bs, hbs, hb⟩ := hb
  obtain ⟨hfree, hb⟩ := bif_some hb
  have hnd := keysAll_nodup (fa ++ args.map (Arg.ev σ) ++ fc) [] List.nodup_nil
  have hin := h.callIn hnd hbs hfree
  obtain ⟨hl, hrp⟩ := args_rp (P := P) h hargs hc0.1
  have hpx := h.p x
  rw [hp] at hpx
  obtain ⟨va, vc, hv, hsa, hsc, hia, hic⟩ : ∃ va vc : Array Value, tv a x = .func (.func f) va vc ∧ va.size = fa.length ∧ vc.size = fc.length ∧
      (∀ (j : Nat) q u, fa[j]? = some q → va[j]? = some u → RP w S μ (fun k => σ.b k ≠ none) (orB S (tieB σ (cvl μ w a) x)) (cvl μ w a) σ.cz u q) ∧
      (∀ (j : Nat) q u, fc[j]? = some q → vc[j]? = some u → RP w S μ (fun k => σ.b k ≠ none) (orB S (tieB σ (cvl μ w a) x)) (cvl μ w a) σ.cz u q) := by
    generalize tv a x = v at hpx
    cases hpx with
    | fn _ _ _ va vc h1 h2 _ _ h3 h4 => exact ⟨va, vc, rfl, h1, h2, h3, h4⟩
  rw [gd_wanted hg] at hb
  simp only [Option.bind_eq_some_iff, Option.map_eq_some_iff] at hb
  obtain ⟨r', ⟨as, has, r, hr, v, hvr, rfl⟩, b', hb', hb⟩ := hb
  injection hb with hb
  obtain ⟨hcall, hsound⟩ := hC f as bs r hr
  obtain ⟨l2, g2⟩ := wireAll_get has
  intro next Q hn
  have hrun := run_call (P := P) (w := w) (a := a) hop hcal (x := .tmp x) (va := va) (vc := vc) hv hcall
  have hal : (c.args.map a.eval).size = (args.map (Arg.ev σ)).length := by
    rw [Array.size_map, ← Array.length_toList, hl]; simp
  unfold Oper.wp
  rw [hrun, Oper.upon_enter]
  refine (hsound _ w S _ hin ?_ ?_).mono ?_
  · rw [Array.size_append, Array.size_append, hal, hsa, hsc, ← l2]
    simp; omega
  · intro j q u hq hu
    obtain ⟨q0, h1, h2⟩ := g2 j q hq
    have key : ∃ T, RP w S μ (fun k => σ.b k ≠ none) T (cvl μ w a) σ.cz u q0 := by
      by_cases hj : j < fa.length + (args.map (Arg.ev σ)).length
      · rw [List.getElem?_append_left (by simpa using hj)] at h1
        rw [Array.getElem?_append_left (by rw [Array.size_append]; omega)] at hu
        by_cases hj2 : j < fa.length
        · rw [List.getElem?_append_left hj2] at h1
          rw [Array.getElem?_append_left (by omega)] at hu
          exact ⟨_, hia j q0 u h1 hu⟩
        · rw [List.getElem?_append_right (by omega)] at h1
          rw [Array.getElem?_append_right (by omega), hsa] at hu
          refine hrp _ q0 u h1 ?_
          rw [List.getElem?_map, Array.getElem?_toList]
          simpa using hu
      · rw [List.getElem?_append_right (by simp at hj ⊢; omega)] at h1
        rw [Array.getElem?_append_right (by rw [Array.size_append]; omega), Array.size_append, hsa, hal] at hu
        refine ⟨_, hic _ q0 u h1 ?_⟩
        simpa using hu
    obtain ⟨T, h3⟩ := key
    exact wire_rp h3 h2
  · rintro e w' ⟨u, rfl, hout⟩
    rw [hd]
    refine hn _ _ ?_
    obtain ⟨S', bs', hk, h1, h2, hci, hres⟩ := hout
    rcases hres with ⟨y, rfl, hy⟩ | ⟨k, o', B, c0, arr, e, rfl, _⟩
    · have hvx : v = y := by simpa [PV.asV] using hvr.symm
      subst hvx
      have h3 := h.after hnd hbs hfree hk h1 h2 hci hb'
      refine ⟨μ, S', ?_⟩
      rw [← hb]
      exact h3.put hdT hwd hy
    · simp [PV.asV] at hvr

/-- slices.Clone and slices.Clip do what they are said to do. -/
def DelOK (P : Program) : Prop :=
  ∀ f, libOf P f = some .delete → ∀ e sz bytes, esz P e = some sz → libBytes P f e sz = some bytes → Callable P f ∧ ∀ (w : World) (blk off n cap i j : Nat) (cs : List Value), cs.length = n * sz → (∀ t u, cs[t]? = some u → w.cell? ⟨blk, off + t, none⟩ = some u) →
    (∀ t, t < n * sz → w.frozen? ⟨blk, off + t, none⟩ = false) → (∀ u ∈ cs, u.oneCell' = true) → n ≤ cap → i < j → j ≤ n →
    Calls P f #[.slice (some ⟨blk, off, none⟩) n cap, .int .i64 i, .int .i64 j] w fun e w' => ∃ zs : List Value, zs.length = (n - (i + (n - j))) * sz ∧ (∀ u ∈ zs, u.oneCell' = true) ∧ e = .returned (.slice (some ⟨blk, off, none⟩) (i + (n - j)) cap) ∧
      w' = (w.drew.setCells blk (off + i * sz) (cs.drop (j * sz))).setCells blk (off + (i + (n - j)) * sz) zs

def LibOK (P : Program) : Prop := DelOK P ∧
  ∀ f l, libOf P f = some l → l ≠ .delete → ∀ e sz bytes, esz P e = some sz → libBytes P f e sz = some bytes → Callable P f ∧ ∀ (w : World) (v : Value) T Q full rows x n c ad U, SlR w T Q v full rows x n c sz ad U → rows.length * bytes ≤ lim → rows.length ≤ lim →
    Calls P f #[v] w fun e w' => ∃ u, e = .returned u ∧ Old w w' ∧ match l with
      | .clip => u = .slice x n n
      | .delete => False
      | .clone => (rows = [] ∧ ∃ y, u = .slice y 0 0 ∧ ∀ ad, y = some ad → ad.spot = none) ∨ (∃ g arr et c', w.heap.size ≤ g ∧ w'.heap[g]? = some (.cells arr et (0, 0)) ∧ u = .slice (some ⟨g, 0, none⟩) n c' ∧ n ≤ c' ∧ c' * sz ≤ arr.size ∧
          ∀ (i : Nat) r (j : Nat) y, rows[i]? = some r → r[j]? = some y → arr[i * sz + j]? = some (U i j))

/-- The world as it was ahead of block g. -/
theorem old_cut {w w' : World} (h : Old w w') {g : Nat} (hg : w.heap.size ≤ g) (hg' : g < w'.heap.size) : ∃ w1 : World, Old w w1 ∧ Old w1 w' ∧ w1.heap.size = g := by
  have e : (w'.heap.extract 0 g).size = g := by simp; omega
  refine ⟨{ w' with heap := w'.heap.extract 0 g }, ⟨h.os, h.tape, h.output, by show w.heap.size ≤ (w'.heap.extract 0 g).size; omega, ?_⟩, ⟨rfl, rfl, rfl, by show (w'.heap.extract 0 g).size ≤ _; omega, ?_⟩, e⟩
  · intro b hb
    show (w'.heap.extract 0 g)[b]? = _
    rw [← h.block b hb, Array.getElem?_extract]
    simp; omega
  · intro b hb
    have hb : b < (w'.heap.extract 0 g).size := hb
    show _ = (w'.heap.extract 0 g)[b]?
    rw [Array.getElem?_extract]
    simp; omega

theorem slr_full {T : Cells} {Q : Value → AV → Prop} {v : Value} {full rows x n c sz ad U} (h : SlR w T Q v full rows x n c sz ad U) : SlR w T Q (.slice x n n) true rows x n n sz ad U :=
  ⟨rfl, h.hn, Nat.le_refl _, fun _ => rfl, h.hsz, h.hr, h.ha, h.hs, fun e => by have := h.h0 e; have := h.hc; omega, h.hT, h.hcell, h.hQ, h.h1⟩

theorem ok_lib (hL : LibOK P) (h : Rel E μ S w a σ) {d sz bytes : Nat} {l : LibOp} {x : Opd} {wb : Bool} (hs : SlimSpec P o (.lib d l sz bytes x wb)) (hdT : d < E.T)
    (hstep : step C g (.lib d l sz bytes x wb) σ some = some σ') : OpOK P o a w E σ' := by
  obtain ⟨hd, c, f, x', t, e, hop, hcal, hlib, hargs, hty, hu, hz, hby, hx⟩ := hs
  obtain ⟨hz1, hpos⟩ := esz_sz hz
  simp only [step] at hstep
  split at hstep
  case h_1 => cases hstep
  obtain ⟨hc0, hb⟩ := bif_some hstep
  have hwd := not_wr hc0
  cases hev : σ.ev x <;> rw [hev] at hb <;> simp only at hb <;> try (cases hb; done)
  rename_i fl cd rs
  obtain ⟨hok, hb⟩ := bif_some0 hb
  obtain ⟨hle, hb⟩ := bif_some0 hb
  simp only [Bool.and_eq_true] at hok
  have hal := szOk_all hok.2 rs
  have hle := Nat.le_of_ble_eq_true hle
  have hbl := Nat.le_of_ble_eq_true hok.1
  have hfit : (rs.map (enc cd)).length * bytes ≤ lim := by
    rw [List.length_map]
    have := Nat.mul_le_mul hle hbl
    simp only [most, lim] at this ⊢; omega
  have hlim : (rs.map (enc cd)).length ≤ lim := by rw [List.length_map]; simp only [most, lim] at hle ⊢; omega
  obtain ⟨T, hT⟩ := opd_rvx h hx
  rw [hev] at hT
  obtain ⟨x0, n, c0, sz0, ad, U, hsl0⟩ := hT
  have hsl := slr_at hsl0 hal hpos
  have hnd : l ≠ .delete := by rintro rfl; cases hb
  obtain ⟨hcall, hsound⟩ := hL.2 f l hlib hnd e sz bytes hz hby
  have hrun := run_call (P := P) (w := w) (a := a) hop hcal (x := .func f) (va := #[]) (vc := #[]) rfl hcall
  have ha : #[] ++ c.args.map a.eval ++ #[] = #[a.eval x'] := by apply Array.ext'; simp [hargs]
  rw [ha] at hrun
  intro next Q hn
  unfold Oper.wp
  rw [hrun, Oper.upon_enter]
  refine (hsound w _ _ _ _ _ _ _ _ _ _ hsl hfit hlim).mono ?_
  rintro e' w' ⟨u, rfl, hold, hres⟩
  rw [hd]
  refine hn _ _ ?_
  cases l with
  | delete => exact absurd rfl hnd
  | clip =>
    simp only at hb hres
    obtain ⟨hfree, hb⟩ := bif_some hb
    injection hb with hb
    subst hres
    have hrv : RV w S (a.eval x') (σ.ev x) := opd_rv h hx (fun i e => by
      subst e
      have : x = .t i := by simpa [opd] using hx.symm
      subst this
      exact free_tie hfree i (by simp))
    rw [hev] at hrv
    obtain ⟨x1, n1, c1, sz1, ad1, U1, hsl1⟩ := hrv.toSl
    have e1 := hsl1.hv
    rw [hsl.hv] at e1
    injection e1 with e1 e2 e3
    subst e1; subst e2; subst e3
    have hg : Grow w S w' S := fun b o hb => ⟨hb, cell_of_block (hold.block b (h.st b o hb).1) o⟩
    refine ⟨μ, S, ?_⟩
    rw [← hb]
    exact (h.world hold).put hdT hwd ((RV.ofSl (slr_full hsl1)).grow hg)
  | clone =>
    simp only at hb hres
    injection hb with hb
    have hfin : σ' = σ.put4 d (.sl false cd rs) .no none (rts sz wb) := by
      rw [← hb]; unfold St.put St.put4; simp
    rcases hres with ⟨hnil, y, rfl, hsp⟩ | ⟨gg, arr, et, c', hs0, hw, rfl, hnc, hcap, hcells⟩
    · have hnil : rs = [] := by simpa using hnil
      subst hnil
      refine ⟨μ, S, ?_⟩
      rw [hfin]
      refine (h.world hold).put4 hdT hwd (fun _ e => by cases e) ?_ (.no _) (fun l' e => by simp [PV.welOf] at e) ?_ (fun _ _ _ _ _ e => by cases e)
      · exact ⟨y, 0, 0, sz, ad, U, ⟨rfl, rfl, Nat.le_refl _, (fun e => by cases e), hpos, fun i r hi => by simp at hi, fun e => absurd rfl e, hsp, fun _ => rfl, fun i r j x hi => by simp at hi, fun i r j x hi => by simp at hi, fun i r j x hi => by simp at hi, fun i r j x hi => by simp at hi⟩⟩
      · intro _
        refine ⟨y, 0, 0, rfl, fun f ec rows' r' e hr' => ?_, fun f ec rows' e => ?_, fun ad' _ hor => ?_⟩
        · injection e with _ e1 e2; subst e1; have e2 := eq_of_heq e2; subst e2; simp at hr'
        · injection e with _ e1 e2; subst e1; have e2 := eq_of_heq e2; subst e2; rfl
        · omega
    · rw [hfin]
      have hglt : gg < w'.heap.size := by
        rcases Nat.lt_or_ge gg w'.heap.size with h1 | h1
        · exact h1
        · rw [Array.getElem?_eq_none h1] at hw; cases hw
      obtain ⟨w1, ho1, ho2, hw1⟩ := old_cut hold hs0 hglt
      subst hw1
      refine (h.world ho1).newSl ho2 hglt hw (rows := rs.map (enc cd)) (by simp) (fun i r y h1 h2 => by
        rw [List.getElem?_map, h2] at h1
        injection h1 with h1; subst h1; exact WeakL.refl _) hsl.hn hpos (fun r hr => allLen_iff.1 hal r hr) (by rw [hsl.hn]; exact hnc) (fun e => by cases e) hcap ?_ hdT hwd (fun _ => szg_rts _ _)
      intro i r j y hi hj
      have hg : Grow w S w1 S := fun b o hb => ⟨hb, cell_of_block (ho1.block b (h.st b o hb).1) o⟩
      exact ⟨U i j, hcells i r j y hi hj, (hsl.hQ i r j y hi hj).grow hg, hsl.h1 i r j y hi hj⟩

end Go.Ab

namespace Go.Ab
open Go Go.RowKit

variable {P : Program} {E : Ent} {μ : Nat → Nat} {S : Cells} {w : World} {a : Act} {σ σ' : St} {o : Oper} {C : Orc} {g : Option (Nat × Bool)}

theorem as64_some {v : AV} {n : Int} (h : v.as64 = some n) : v = .int .i64 n := by
  unfold AV.as64 at h
  split at h
  · injection h with h; rw [h]
  · cases h

/-- Of a slice's elements: their cells, one behind the other. -/
def flatC (U : Nat → Nat → Value) (n sz : Nat) : List Value := (List.range (n * sz)).map fun k => U (k / sz) (k % sz)

theorem flatC_get {U : Nat → Nat → Value} {n sz k : Nat} {u : Value} (h : (flatC U n sz)[k]? = some u) : k < n * sz ∧ u = U (k / sz) (k % sz) := by
  unfold flatC at h
  rw [List.getElem?_map] at h
  simp only [Option.map_eq_some_iff] at h
  obtain ⟨j, h1, rfl⟩ := h
  rw [List.getElem?_eq_some_iff] at h1
  obtain ⟨h1, h2⟩ := h1
  simp at h1 h2
  subst h2
  exact ⟨h1, rfl⟩

theorem rowAtC {rows : List (List AV)} {n sz k : Nat} (hn : rows.length = n) (hr : ∀ (i : Nat) (r : List AV), rows[i]? = some r → r.length = sz) (hsz : 0 < sz) (hk : k < n * sz) :
    ∃ r x, rows[k / sz]? = some r ∧ r[k % sz]? = some x ∧ k / sz * sz + k % sz = k := by
  have h1 : k / sz < n := (Nat.div_lt_iff_lt_mul hsz).2 hk
  have h2 : rows[k / sz]? = some (rows[k / sz]'(by omega)) := List.getElem?_eq_getElem _
  have h3 := hr _ _ h2
  have h4 : k % sz < sz := Nat.mod_lt _ hsz
  exact ⟨_, _, h2, List.getElem?_eq_getElem (by omega), by rw [Nat.mul_comm]; exact Nat.div_add_mod k sz⟩

theorem ok_del (hL : LibOK P) (h : Rel E μ S w a σ) {d sz bytes x : Nat} {i j : Opd} (hs : SlimSpec P o (.del d sz bytes x i j)) (hdT : d < E.T)
    (hstep : step C g (.del d sz bytes x i j) σ some = some σ') : OpOK P o a w E σ' := by
  obtain ⟨hd, c, f, y, z, t, u, v, e, hop, hcal, hlib, hargs, hty, ht, hz, hby, hi, hj⟩ := hs
  obtain ⟨hz1, hpos⟩ := esz_sz hz
  simp only [step] at hstep
  split at hstep
  case h_1 => cases hstep
  obtain ⟨hc0, hb⟩ := bif_some hstep
  have hwd := not_wr hc0
  split at hb
  case h_2 => cases hb
  rename_i fl cd rs hev
  simp only [Option.bind_eq_some_iff] at hb
  obtain ⟨iv, hiv, jv, hjv, hb⟩ := hb
  obtain ⟨hok, hb⟩ := bif_some0 hb
  split at hb
  case isFalse => cases hb
  rename_i hbd
  injection hb with hb
  simp only [Bool.and_eq_true] at hok
  obtain ⟨hbl, hszk, hwr, hgsz⟩ := hok
  have hg := Nat.eq_of_beq_eq_true hgsz
  have hal := szOk_all hszk rs
  obtain ⟨i0, hi0⟩ := Int.eq_ofNat_of_zero_le hbd.1
  obtain ⟨j0, hj0⟩ := Int.eq_ofNat_of_zero_le (show 0 ≤ jv by omega)
  subst hi0; subst hj0
  have hne : σ.rt x ≠ 0 := wr_ne hwr
  have h1 := h.leave x
  have hat : σ.at (.tmp x) = .sl fl cd rs := hev
  have hO := h.own (.tmp x) hne
  obtain ⟨x0, n, c0, hv, hO1, hO2, hO3⟩ := hO
  have hn := hO2 _ _ _ hat
  obtain ⟨hcall, hsound⟩ := hL.1 f hlib e sz bytes hz hby
  have hrun := run_call (P := P) (w := w) (a := a) hop hcal (x := .func f) (va := #[]) (vc := #[]) rfl hcall
  have ha : #[] ++ c.args.map a.eval ++ #[] = #[tv a x, a.eval y, a.eval z] := by apply Array.ext'; simp [hargs, tv, Act.eval]
  rw [ha] at hrun
  have ey : a.eval y = .int .i64 i0 := by
    obtain ⟨T, hT⟩ := opd_rvx h hi
    rw [as64_some hiv] at hT
    exact hT.int
  have ez : a.eval z = .int .i64 j0 := by
    obtain ⟨T, hT⟩ := opd_rvx h hj
    rw [as64_some hjv] at hT
    exact hT.int
  have htx := h.t x
  rw [hev] at htx
  obtain ⟨x1, n1, c1, sz1, ad, U, hsl0⟩ := htx
  have hsl := slr_at hsl0 hal hpos
  have e1 := hsl.hv
  rw [show tv a x = .slice x0 n c0 from hv] at e1
  injection e1 with e1 e2 e3
  subst e1; subst e2; subst e3
  have hrl : (rs.map (enc cd)).length = rs.length := by simp
  have hnpos : 0 < n := by omega
  have hrne : rs.map (enc cd) ≠ [] := by intro e0; rw [e0] at hrl; simp at hrl; omega
  have had := hsl.ha hrne
  subst had
  obtain ⟨a1, a2, ⟨cs, et, a3, a3'⟩, a4, a5⟩ := hO3 ad rfl (.inr ⟨hwr, hnpos⟩)
  have hadlit : ad = ⟨ad.block, ad.off, none⟩ := by cases ad; simp at a1; subst a1; rfl
  have hcells : ∀ t u, (flatC U n sz)[t]? = some u → w.cell? ⟨ad.block, ad.off + t, none⟩ = some u := by
    intro t u hu
    obtain ⟨q1, rfl⟩ := flatC_get hu
    obtain ⟨r, y, q2, q3, q4⟩ := rowAtC hsl.hn hsl.hr hpos q1
    have := hsl.hcell _ r _ y q2 q3
    rw [← this]; congr 2; omega
  have hones : ∀ u ∈ flatC U n sz, u.oneCell' = true := by
    intro u hu
    obtain ⟨k, hk⟩ := List.mem_iff_getElem?.1 hu
    obtain ⟨q1, rfl⟩ := flatC_get hk
    obtain ⟨r, y, q2, q3, _⟩ := rowAtC hsl.hn hsl.hr hpos q1
    exact hsl.h1 _ r _ y q2 q3
  have hcl := hsound w ad.block ad.off n c0 i0 j0 (flatC U n sz) (by simp [flatC]) hcells (fun t _ => by simp [World.frozen?, a3]) hones hsl.hc (by omega) (by omega)
  intro next Q hnx
  unfold Oper.wp
  rw [hrun, Oper.upon_enter, ey, ez, show tv a x = .slice (some ad) n c0 from hv]
  rw [← hadlit] at hcl
  refine hcl.mono ?_
  rintro e' w' ⟨zs, hzl, hzo, rfl, rfl⟩
  rw [hd]
  refine hnx _ _ ?_
  have hfl : (flatC U n sz).length = n * sz := by simp [flatC]
  have hcz : σ.cz (.tmp x) = sz := hg
  rw [hcz] at a3'
  have hj0n : j0 ≤ n := by omega
  have b1 : (i0 + (n - j0)) * sz ≤ n * sz := Nat.mul_le_mul_right _ (by omega)
  have b2 : n * sz ≤ c0 * sz := Nat.mul_le_mul_right _ hsl.hc
  have b3 : (i0 + (n - j0)) * sz + (n - (i0 + (n - j0))) * sz = n * sz := by rw [← Nat.add_mul]; congr 1; omega
  have b4 : i0 * sz + (n - j0) * sz = (i0 + (n - j0)) * sz := (Nat.add_mul _ _ _).symm
  have hdl : ((flatC U n sz).drop (j0 * sz)).length = (n - j0) * sz := by rw [List.length_drop, hfl, Nat.sub_mul]
  have h2 : Rel E μ S w.drew a (σ.leave x) := h1.world (old_drew w)
  have c1 := chg_setCells (w := w.drew) a3 (o := ad.off + i0 * sz) (vs := (flatC U n sz).drop (j0 * sz)) (by omega) (fun v hv => hones v (List.mem_of_mem_drop hv))
  have O := h.ownOK (.tmp x) (σ1 := σ.leave x) (l2 := .tmp x) (fun k hk => by rw [leave_b] at hk; exact hk) (fun l' b _ ho => leave_own ho)
  obtain ⟨y0, n2, c2, e2, _, _, hO4⟩ := O hne
  have e3 := hv.symm.trans e2
  injection e3 with e3 e4 e5
  subst e3; subst e4; subst e5
  obtain ⟨_, _, _, _, a5', a6⟩ := hO4 ad rfl (.inr ⟨hwr, hnpos⟩)
  have noS : ∀ o', ¬ S ad.block o' := fun o' ho => by
    have := (a4 o' ho).1
    rw [show wr (σ.grade (.tmp x)) = true from hwr] at this
    cases this
  have oth : ∀ (w1 : World), (∀ l, (σ.leave x).grade l ≠ 0 → cvl μ w1 a l = cvl μ w a l) → ∀ l, wr ((σ.leave x).grade l) = true → blockOf (cvl μ w1 a l) = some ad.block → False := by
    intro w1 hw1 l hl hb
    have hlx : l ≠ .tmp x := by rintro rfl; rw [leave_grade, if_pos rfl] at hl; simp [wr_zero] at hl
    rw [hw1 l (wr_ne hl)] at hb
    obtain ⟨y, n1, c1, e1, _⟩ := h1.own l (wr_ne hl)
    have e1' := e1
    rw [e1] at hb
    obtain ⟨ad', rfl, hb, hn1⟩ := blockOf_some hb
    exact a6 l ad'.block hlx ⟨wr_ne hl, ad', n1, c1, e1', rfl, .inr ⟨hl, hn1⟩⟩ hb
  have h3 := h2.write c1 (.inl a2) (fun o' ho => absurd ho (noS o')) (fun l hl hb => (oth _ (fun l _ => rfl) l hl hb).elim) (fun k cs' o' x hk he _ _ => absurd he (a5' k (by rw [hk]; simp)))
  obtain ⟨csA, etA, zA, csB, g1, g2, g3, _, _⟩ := c1.arr
  have g1' := (show w.drew.heap[ad.block]? = w.heap[ad.block]? from rfl).symm.trans g1
  rw [a3] at g1'
  injection g1' with g1'
  injection g1' with g1' q1 q2
  subst g1'; subst q1; subst q2
  have c2 := chg_setCells g2 (o := ad.off + (i0 + (n - j0)) * sz) (vs := zs) (by rw [g3]; omega) hzo
  have cv1 : ∀ l, (σ.leave x).grade l ≠ 0 → cvl μ (w.drew.setCells ad.block (ad.off + i0 * sz) ((flatC U n sz).drop (j0 * sz))) a l = cvl μ w a l := by
    intro l hl
    cases l with
    | tmp i' => rfl
    | cell k o' =>
      simp only [cvl]
      rw [c1.cell (.inl (a5' k (h1.gb k o' hl)))]
      rfl
  have h4 := h3.write c2 (.inl a2) (fun o' ho => absurd ho (noS o')) (fun l hl hb => (oth _ cv1 l hl hb).elim) (fun k cs' o' x hk he _ _ => absurd he (a5' k (by rw [hk]; simp)))
  have hsz0 : ∀ r ∈ rs.map (enc cd), r.length = sz := fun r hr => by obtain ⟨k, hk⟩ := List.mem_iff_getElem?.1 hr; exact hsl.hr k r hk
  have rowsAt : ∀ (i' : Nat) r' (jj : Nat) y', ((rs.take i0 ++ rs.drop j0).map (enc cd))[i']? = some r' → r'[jj]? = some y' →
      ∃ q, (rs.map (enc cd))[q]? = some r' ∧ ((w.drew.setCells ad.block (ad.off + i0 * sz) ((flatC U n sz).drop (j0 * sz))).setCells ad.block (ad.off + (i0 + (n - j0)) * sz) zs).cell? ⟨ad.block, ad.off + i' * sz + jj, none⟩ = some (U q jj) := by
    intro i' r' jj y' hi' hjj
    have hmem : r' ∈ rs.map (enc cd) := by
      have := List.mem_of_getElem? hi'
      simp only [List.mem_map, List.mem_append] at this ⊢
      obtain ⟨z', h5 | h5, h6⟩ := this
      · exact ⟨z', List.mem_of_mem_take h5, h6⟩
      · exact ⟨z', List.mem_of_mem_drop h5, h6⟩
    have hjl : jj < sz := by rw [← hsz0 r' hmem]; exact (List.getElem?_eq_some_iff.1 hjj).1
    rw [List.getElem?_map] at hi'
    simp only [Option.map_eq_some_iff] at hi'
    obtain ⟨z', hz', rfl⟩ := hi'
    by_cases hlt : i' < i0
    · rw [List.getElem?_append_left (by simp; omega), List.getElem?_take, if_pos hlt] at hz'
      refine ⟨i', by rw [List.getElem?_map, hz']; rfl, ?_⟩
      have b5 : (i' + 1) * sz ≤ i0 * sz := Nat.mul_le_mul_right _ (by omega)
      rw [Nat.add_mul] at b5
      have b6 : i0 * sz ≤ (i0 + (n - j0)) * sz := Nat.mul_le_mul_right _ (by omega)
      rw [c2.cell (.inr (by omega)), c1.cell (.inr (by omega))]
      exact hsl.hcell i' _ jj y' (by rw [List.getElem?_map, hz']; rfl) hjj
    · have hti : (rs.take i0).length = i0 := by simp; omega
      rw [List.getElem?_append_right (by omega), hti, List.getElem?_drop] at hz'
      refine ⟨j0 + (i' - i0), by rw [List.getElem?_map, hz']; rfl, ?_⟩
      have hb7 : j0 + (i' - i0) < n := by have := (List.getElem?_eq_some_iff.1 hz').1; omega
      have b5 : (i' + 1) * sz ≤ (i0 + (n - j0)) * sz := Nat.mul_le_mul_right _ (by omega)
      rw [Nat.add_mul] at b5
      have b8 : i0 * sz + (i' - i0) * sz = i' * sz := by rw [← Nat.add_mul]; congr 1; omega
      have b9 : ((i' - i0) + 1) * sz ≤ (n - j0) * sz := Nat.mul_le_mul_right _ (by omega)
      rw [Nat.add_mul] at b9
      rw [c2.cell (.inr (by omega))]
      have := World.cell?_setCells_in ad.block ((flatC U n sz).drop (j0 * sz)) (ad.off + i0 * sz) w.drew (fun q hq => by rw [cell_at (show w.drew.heap[ad.block]? = _ from a3), Array.getElem?_eq_getElem (by omega)]; rfl) ((i' - i0) * sz + jj) (by omega)
      rw [show ad.off + i0 * sz + ((i' - i0) * sz + jj) = ad.off + i' * sz + jj by omega] at this
      rw [this, List.getElem_drop]
      have hd1 : (j0 * sz + ((i' - i0) * sz + jj)) = (j0 + (i' - i0)) * sz + jj := by rw [Nat.add_mul]; omega
      simp only [flatC, List.getElem_map, List.getElem_range, hd1]
      rw [Nat.mul_comm, Nat.mul_add_div hpos, Nat.div_eq_of_lt hjl, Nat.mul_add_mod, Nat.mod_eq_of_lt hjl, Nat.add_zero]
  have hwd' : wr ((σ.leave x).rt d) = false := by
    rw [leave_rt, upd_eq]; split
    · rfl
    · exact hwd
  have hfin : σ' = (σ.leave x).put4 d (.sl false cd (rs.take i0 ++ rs.drop j0)) .no none (σ.rt x) := by
    rw [← hb]
    unfold St.leave St.put St.put4
    simp [hwr, St.kill]
    try (funext jx; simp only [upd_eq]; try (split <;> rfl))
  have hnl : ((rs.take i0 ++ rs.drop j0).map (enc cd)).length = i0 + (n - j0) := by simp; omega
  have hgr : Grow w S ((w.drew.setCells ad.block (ad.off + i0 * sz) ((flatC U n sz).drop (j0 * sz))).setCells ad.block (ad.off + (i0 + (n - j0)) * sz) zs) S := fun b o hb => ⟨hb, by
    have hne' : b ≠ ad.block := by rintro rfl; exact noS _ hb
    rw [c2.cell (.inl hne'), c1.cell (.inl hne')]; rfl⟩
  obtain ⟨csC, etC, zC, csD, k1, k2, k3, _, _⟩ := c2.arr
  rw [g2] at k1
  injection k1 with k1
  injection k1 with k1 p1 p2
  subst k1; subst p1; subst p2
  rw [hfin]
  refine ⟨μ, S, h4.put4 hdT hwd' (fun _ e => by cases e) ?_ (.no _) (fun l' e => by simp [PV.welOf] at e) ?_ (fun _ _ _ _ _ e => by cases e)⟩
  · rw [if_pos hwr]
    refine ⟨some ad, i0 + (n - j0), c0, sz, ad, fun i' jj => (((w.drew.setCells ad.block (ad.off + i0 * sz) ((flatC U n sz).drop (j0 * sz))).setCells ad.block (ad.off + (i0 + (n - j0)) * sz) zs).cell? ⟨ad.block, ad.off + i' * sz + jj, none⟩).getD Go.undef, ?_⟩
    refine ⟨rfl, hnl, by have := hsl.hc; omega, (fun e => by cases e), hpos, fun i' r' hi' => ?_, fun _ => rfl, hsl.hs, (fun e => by cases e), fun i' r' jj y' hi' _ => .inr (by rw [blockOf_pos (by have := (List.getElem?_eq_some_iff.1 hi').1; omega)]), ?_, ?_, ?_⟩
    · obtain ⟨z', hz', rfl⟩ := List.mem_map.1 (List.mem_of_getElem? hi')
      refine hsz0 _ (List.mem_map.2 ⟨z', ?_, rfl⟩)
      rcases List.mem_append.1 hz' with h5 | h5
      · exact List.mem_of_mem_take h5
      · exact List.mem_of_mem_drop h5
    · intro i' r' jj y' hi' hjj
      obtain ⟨q, _, h6⟩ := rowsAt i' r' jj y' hi' hjj
      rw [h6]; rfl
    · intro i' r' jj y' hi' hjj
      obtain ⟨q, h5, h6⟩ := rowsAt i' r' jj y' hi' hjj
      simp only [h6, Option.getD_some]
      exact (hsl.hQ q r' jj y' h5 hjj).grow hgr
    · intro i' r' jj y' hi' hjj
      obtain ⟨q, h5, h6⟩ := rowsAt i' r' jj y' hi' hjj
      simp only [h6, Option.getD_some]
      exact hsl.h1 q r' jj y' h5 hjj
  · intro _
    refine ⟨_, _, _, rfl, fun f' ec' rows' r' e hr' => ?_, fun f' ec' rows' e => ?_, ?_⟩
    · injection e with _ e1 e2; subst e1; have e2 := eq_of_heq e2; subst e2
      refine hO1 fl _ rs r' hat ?_
      rcases List.mem_append.1 hr' with h5 | h5
      · exact List.mem_of_mem_take h5
      · exact List.mem_of_mem_drop h5
    · injection e with _ e1 e2; subst e1; have e2 := eq_of_heq e2; subst e2; simpa using hnl
    · intro ad' had' _
      injection had' with had'
      subst had'
      rw [hg]
      refine ⟨a1, a2, ⟨_, _, k2, by rw [k3, g3]; exact a3'⟩, fun o' ho => absurd ho (noS o'), a5', fun l' b _ ho => ?_⟩
      obtain ⟨p1, ad2, n2, c2', p2, p3, p4⟩ := ho
      have hlx : l' ≠ .tmp x := by rintro rfl; rw [leave_grade, if_pos rfl] at p1; exact p1 rfl
      refine a6 l' b hlx ⟨p1, ad2, n2, c2', ?_, p3, p4⟩
      rw [← p2]
      cases l' with
      | tmp i' => rfl
      | cell k o' =>
        simp only [cvl]
        rw [c2.cell (.inl (a5' k (h1.gb k o' p1))), c1.cell (.inl (a5' k (h1.gb k o' p1)))]
        rfl

end Go.Ab

namespace Go.Ab
open Go Go.RowKit

variable {P : Program} {E : Ent} {μ : Nat → Nat} {S : Cells} {w : World} {a : Act} {σ : St}
variable {C : Orc} {A : Ann} {bases : List Nat} {o : Oper} {g : Option (Nat × Bool)} {σ' : St}

theorem bind_K {α R : Type} (x : Option α) (f : α → Option St) (K : St → Option R) : (x.bind f).bind K = x.bind fun v => (f v).bind K := by cases x <;> rfl
theorem bif_K {R : Type} (c : Bool) (x : Option St) (K : St → Option R) : (bif c then x else none).bind K = bif c then x.bind K else none := by cases c <;> rfl
theorem ite_K {R : Type} (c : Prop) [Decidable c] (x : Option St) (K : St → Option R) : (if c then x else none).bind K = if c then x.bind K else none := by split <;> rfl

theorem step_cps {R : Type} (C : Orc) (g : Option (Nat × Bool)) (o : SOp) (σ : St) (K : St → Option R) : step C g o σ K = (step C g o σ some).bind K := by
  cases o with
  | pure d f xs esc => simp only [step, bif_K, bind_K, Option.bind_some]
  | pmv d x => cases g <;> simp only [step, bif_K, bind_K, Option.bind_some]
  | nilc d x => cases g <;> simp only [step, bif_K, bind_K, Option.bind_some]
  | fa d off x => cases g <;> simp only [step, bif_K, bind_K, Option.bind_some]
  | ixp d n sz x i =>
    have hf : ∀ (q : PV) (F : PV → Option St), (q.force F).bind K = q.force fun q => (F q).bind K := by
      intro q F
      refine PV.rec (motive_1 := fun q => (q.force F).bind K = q.force fun q => (F q).bind K) (motive_2 := fun _ => True) rfl (fun _ => rfl) (fun _ _ => rfl) (fun _ _ _ _ _ _ => rfl) (fun _ _ _ => rfl) (fun _ => rfl) (fun _ _ _ _ _ => rfl) ?_ trivial (fun _ _ _ _ => trivial) q
      intro b q ih
      simp only [PV.force, bif_K, ih]
    cases g <;> simp only [step, bif_K, hf, bind_K, Option.bind_some, Option.bind_none]
  | ixr d sz x i => cases g <;> simp only [step, bif_K, bind_K, Option.bind_some]
  | ixw d sz x i => simp only [step]; split <;> (try simp only [bif_K, bind_K, ite_K, Option.bind_some, Option.bind_none]); cases σ.t x <;> simp only [bif_K, bind_K, ite_K, Option.bind_some, Option.bind_none]
  | mkfn d f a c => cases g <;> simp only [step, bif_K, bind_K, Option.bind_some, Option.bind_none]
  | cpy d x => simp only [step, bif_K, bind_K, Option.bind_some]
  | take d x => cases g <;> simp only [step, bif_K, bind_K, Option.bind_some, Option.bind_none]
  | alloc d cells => simp only [step]; split <;> simp only [bif_K, bind_K, Option.bind_some, Option.bind_none]
  | box d sz x esc => simp only [step]; split <;> simp only [bif_K, bind_K, ite_K, Option.bind_some, Option.bind_none]
  | load d ag sz x => simp only [step, bif_K, bind_K, Option.bind_some]
  | loads d x => simp only [step, bif_K]; congr 1; split <;> simp only [bind_K, Option.bind_some]
  | loadt d x => simp only [step]; split <;> simp only [bif_K, bind_K, Option.bind_some, Option.bind_none]
  | store sz p x esc =>
    simp only [step]; split
    · simp only [bif_K, bind_K, ite_K, Option.bind_some]
    · simp only [bif_K, bind_K, ite_K, Option.bind_some]
    · split <;> simp only [bif_K, bind_K, ite_K, Option.bind_some, Option.bind_none]
    · rfl
  | stores p x => simp only [step]; split <;> simp only [bif_K, bind_K, ite_K, Option.bind_some, Option.bind_none]
  | app d sz b x y str wb =>
    cases g with
    | some _ => rfl
    | none =>
      simp only [step, bif_K, bind_K]
      cases x with
      | k v => simp only [bif_K, Option.bind_some]
      | t i =>
        cases hr : σ.rt i with
        | zero => simp only [hr, bif_K, Option.bind_some]
        | succ r => simp only [hr, bif_K, Option.bind_some]
  | mk d sz b z n c wb => cases g <;> simp only [step, bif_K, bind_K, ite_K, Option.bind_some, Option.bind_none]
  | call d f args esc fresh =>
    cases fresh with
    | false => simp only [step, bif_K, bind_K, Option.bind_some]
    | true =>
      simp only [step, bif_K, bind_K]
      congr 1
      congr 1
      funext bs
      congr 1
      cases g with
      | some _ => rfl
      | none =>
        cases hb : σ.b d with
        | some _ => rfl
        | none =>
          simp only [bind_K]
          congr 1
          funext as
          congr 1
          funext r
          cases r.1 <;> simp only [bind_K, Option.bind_some, Option.bind_none]
  | calld d x args esc => simp only [step]; split <;> simp only [bif_K, bind_K, Option.bind_some, Option.bind_none]
  | lib d l sz b x wb =>
    cases g with
    | some _ => rfl
    | none =>
      simp only [step, bif_K]
      congr 1
      cases σ.ev x <;> simp only [bif_K, Option.bind_none]
      congr 1
      congr 1
      cases l with
      | clone => rfl
      | clip => simp only [bif_K, Option.bind_some]
      | delete => rfl
  | del d sz bytes x i j =>
    cases g with
    | some _ => rfl
    | none =>
      simp only [step, bif_K]
      congr 1
      cases σ.t x <;> simp only [bind_K, bif_K, ite_K, Option.bind_none, Option.bind_some]

theorem step_some {R : Type} {K : St → Option R} {r : R} {o : SOp} (h : step C g o σ K = some r) : ∃ σ', step C g o σ some = some σ' ∧ K σ' = some r := by
  rw [step_cps] at h
  exact Option.bind_eq_some_iff.1 h

/-- What a guard asks is a truth value, or was skipped. -/
theorem step_guard {o : SOp} (h : step C g o σ some = some σ') : Wanted σ g ∨ Skipped σ g := by
  cases g with
  | none => exact .inl (.inl rfl)
  | some jw =>
    obtain ⟨j, b⟩ := jw
    cases hw : (σ.t j).wants b with
    | some t =>
      cases t with
      | true => exact .inl (.inr ⟨j, b, rfl, hw⟩)
      | false => exact .inr ⟨j, b, rfl, hw⟩
    | none =>
      exfalso
      cases o with
      | loads d x =>
        simp only [step, gd, hw, Option.bind_none] at h
        obtain ⟨_, h⟩ := bif_some h
        first | (cases h; done) | (split at h <;> simp_all)
      | store sz p x esc => simp only [step] at h; first | (cases h; done) | (split at h <;> simp_all)
      | ixw d sz x i => simp only [step] at h; first | (cases h; done) | (split at h <;> simp_all)
      | alloc d cells => simp only [step] at h; first | (cases h; done) | (split at h <;> simp_all)
      | box d sz x esc => simp only [step] at h; first | (cases h; done) | (split at h <;> simp_all)
      | loadt d x => simp only [step] at h; first | (cases h; done) | (split at h <;> simp_all)
      | stores p x => simp only [step] at h; first | (cases h; done) | (split at h <;> simp_all)
      | calld d x args esc => simp only [step, gd, hw, Option.bind_none] at h; first | (cases h; done) | (split at h <;> simp_all)
      | call d f args esc fresh => simp only [step, gd, hw, Option.bind_none] at h; cases fresh <;> simp_all
      | _ => simp [step, gd, hw] at h

/-- The operation runs. -/
theorem ok_op (hC : Sound P C) (hL : LibOK P) (h6 : E.T ≤ 1000000) (h : Rel E μ S w a σ) {s : SOp} (hs : slimOp P A bases o = some s) (hdT : ∀ d, o.dst = some d → d < E.T)
    (hstep : step C g s σ some = some σ') (hg : Wanted σ g) : OpOK P o a w E σ' := by
  have hsp := slim_spec hs
  have hd : ∀ d, o.dst = some d → d < E.T := hdT
  cases s with
  | pure d f xs esc => exact ok_pure h hs (hd d hsp) hstep hg
  | pmv d x => exact ok_pmv h hsp (hd d hsp.1) hstep hg
  | nilc d x => exact ok_nilc h hsp (hd d hsp.1) hstep hg
  | fa d off x => exact ok_fa h hsp (hd d hsp.1) hstep hg
  | ixp d n sz x i => exact ok_ixp h hsp (hd d hsp.1) hstep hg
  | ixr d sz x i => exact ok_ixr h hsp (hd d hsp.1) hstep hg
  | ixw d sz x i => exact ok_ixw h hsp (hd d hsp.1) hstep
  | mkfn d f fa fc => exact ok_mkfn h hsp (hd d hsp.1) hstep
  | cpy d x => exact ok_cpy h hsp (hd d hsp.1) hstep hg
  | take d x => exact ok_take h hsp (hd d hsp.1) hstep
  | alloc d cells => exact ok_alloc h h6 hsp (hd d hsp.1) hstep
  | box d sz x esc => exact ok_box h h6 hsp (hd d hsp.1) hstep
  | load d ag sz x => exact ok_load h hsp (hd d hsp.1) hstep hg
  | loads d x => exact ok_loads h hsp (hd d hsp.1) hstep hg
  | loadt d x => exact ok_loadt h hsp (hd d hsp.1) hstep
  | store sz p x esc => exact ok_store h hsp hstep
  | stores p x => exact ok_stores h hsp hstep
  | app d sz b x y str wb => exact ok_app h hsp (hd d hsp.1) hstep
  | mk d sz b z n c wb => exact ok_mk h hsp (hd d hsp.1) hstep
  | call d f args esc fresh => exact ok_call hC h h6 hsp (hd d hsp.1) hstep hg
  | calld d x args esc => exact ok_calld hC h hsp (hd d hsp.1) hstep hg
  | lib d l sz b x wb => exact ok_lib hL h hsp (hd d hsp.1) hstep
  | del d sz b x i j => exact ok_del hL h hsp (hd d hsp.1) hstep

/-- The operation is skipped. -/
theorem skip_op (h : Rel E μ S w a σ) {s : SOp} (hs : slimOp P A bases o = some s) (hdT : ∀ d, o.dst = some d → d < E.T)
    (hstep : step C g s σ some = some σ') (hg : Skipped σ g) : RelE E w (a.put o.dst Go.undef) σ' := by
  have hsp := slim_spec hs
  have hd : ∀ d, o.dst = some d → d < E.T := hdT
  have no : ∀ {x : Option St}, (∀ j b, g = some (j, b) → x = none) → x = some σ' → False := by
    intro x hx e
    obtain ⟨j, b, hj, _⟩ := hg
    rw [hx j b hj] at e; cases e
  cases s with
  | pure d f xs esc => have e : o.dst = some d := hsp; rw [e]; exact skip_pure h (hd d e) hstep hg
  | pmv d x => rw [hsp.1]; exact skip_pmv h (hd d hsp.1) hstep hg
  | nilc d x => rw [hsp.1]; exact skip_nilc h (hd d hsp.1) hstep hg
  | fa d off x => rw [hsp.1]; exact skip_fa h (hd d hsp.1) hstep hg
  | ixp d n sz x i => rw [hsp.1]; exact skip_ixp h (hd d hsp.1) hstep hg
  | ixr d sz x i => rw [hsp.1]; exact skip_ixr h (hd d hsp.1) hstep hg
  | cpy d x => rw [hsp.1]; exact skip_cpy h (hd d hsp.1) hstep hg
  | load d ag sz x => rw [hsp.1]; exact skip_load h (hd d hsp.1) hstep hg
  | loads d x => rw [hsp.1]; exact skip_loads h (hd d hsp.1) hstep hg
  | call d f args esc fresh => rw [hsp.1]; exact skip_call h (hd d hsp.1) hstep hg
  | calld d x args esc => rw [hsp.1]; exact skip_calld h (hd d hsp.1) hstep hg
  | _ =>
    exfalso
    obtain ⟨j, b, rfl, _⟩ := hg
    simp only [step] at hstep
    first | (cases hstep; done) | (obtain ⟨_, hstep⟩ := bif_some hstep; cases hstep; done)

theorem rv_undef {v : Value} (h : RV w S v .undef) : v = Go.undef := by cases h; rfl

/-- Whether an operation runs: as the state has it. -/
theorem wanted_iff {ops : Array Oper} (h : Rel E μ S w a σ) {g : Option (Nat × Bool)}
    (hg : gof ops o.guard = some g) (hdT : ∀ d, (∃ j : Nat, (ops[j]?).bind (·.dst) = some d) → d < E.T) :
    (Wanted σ g → Region.wanted o (yielded ops a.tmps) = true) ∧ (Skipped σ g → Region.wanted o (yielded ops a.tmps) = false) := by
  unfold Region.wanted
  cases hog : o.guard with
  | none =>
    rw [hog] at hg
    simp [gof] at hg
    subst hg
    refine ⟨fun _ => rfl, fun ⟨_, _, e, _⟩ => by cases e⟩
  | some jb =>
    obtain ⟨j, b⟩ := jb
    rw [hog] at hg
    simp only [gof, Option.map_eq_some_iff] at hg
    obtain ⟨d, hd, rfl⟩ := hg
    have hlt := hdT d ⟨j, hd⟩
    have htv : a.tmps[d]? = some (tv a d) := by
      have hsz : d < a.tmps.size := by rw [h.hT]; exact hlt
      simp [tv, Array.getD_eq_getD_getElem?, hsz]
    have hy : yielded ops a.tmps j = match tv a d with | .bool t => some t | _ => none := by
      unfold yielded
      rw [hd]
      simp only [Option.bind_some, htv]
      cases tv a d <;> rfl
    have ht := h.t d
    have key : ∀ r, (σ.t d).wants b = some r → (yielded ops a.tmps j == some b) = r := by
      intro r hr
      rw [hy]
      cases hx : σ.t d <;> rw [hx] at hr ht <;> simp [AV.wants] at hr
      · have : tv a d = Go.undef := rv_undef ht
        rw [this]; subst hr; rfl
      · rename_i t
        have : tv a d = .bool t := RVx.bool ht
        rw [this]; subst hr; cases t <;> cases b <;> rfl
    constructor
    · rintro (e | ⟨j', b', e, hw⟩)
      · cases e
      · injection e with e; injection e with e1 e2; subst e1; subst e2
        exact key _ hw
    · rintro ⟨j', b', e, hw⟩
      injection e with e; injection e with e1 e2; subst e1; subst e2
      exact key _ hw

end Go.Ab

namespace Go.Ab
open Go Go.RowKit

variable {P : Program} {E : Ent} {μ : Nat → Nat} {S : Cells} {w : World} {a : Act} {σ : St}
variable {C : Orc} {A : Ann} {bases : List Nat} {o : Oper} {g : Option (Nat × Bool)} {σ' : St}

theorem slimOps_dst {n : Nat} {all : Array Oper} : ∀ {os : List Oper} {l : List GOp}, slimOps P n A all bases os = some l → ∀ (j : Nat) d, (os[j]?).bind (·.dst) = some d → d < n
  | [], l, _, j, d, h => by simp at h
  | o :: os, l, h, j, d, hd => by
    simp only [slimOps, Option.bind_eq_some_iff] at h
    obtain ⟨s, hs, h⟩ := h
    obtain ⟨hc, h⟩ := bif_some h
    simp only [Option.bind_eq_some_iff, Option.map_eq_some_iff] at h
    obtain ⟨g, _, l', hl, _⟩ := h
    cases j with
    | zero =>
      simp at hd
      rw [hd] at hc
      simpa [Nat.blt_eq] using hc
    | succ j => exact slimOps_dst hl j d (by simpa using hd)

/-- A region's operations, one after the other. -/
theorem run_ok (hC : Sound P C) (hL : LibOK P) (h6 : E.T ≤ 1000000) {ops : Array Oper} (hall : ∀ (j : Nat) d, (ops[j]?).bind (·.dst) = some d → d < E.T) {Q : Exit → Act → World → Prop} {R : Type} {r : R} {K : St → Option R}
    (hK : ∀ σ' a' w', RelE E w' a' σ' → K σ' = some r → Q .normal a' w') :
    ∀ (os : List Oper) (i : Nat) (l : List GOp) (σ : St) (a : Act) (w : World), (∀ (j : Nat) o, os[j]? = some o → ops[i + j]? = some o) → slimOps P E.T A ops bases os = some l → run C l σ K = some r → RelE E w a σ →
      wpOps P ops Q (List.range' i os.length) a w
  | [], i, l, σ, a, w, _, hl, hr, h => by
    simp [slimOps] at hl
    subst hl
    exact hK σ a w h hr
  | o :: os, i, l, σ, a, w, ho, hl, hr, h => by
    simp only [slimOps, Option.bind_eq_some_iff] at hl
    obtain ⟨s, hs, hl⟩ := hl
    obtain ⟨hc, hl⟩ := bif_some hl
    simp only [Option.bind_eq_some_iff, Option.map_eq_some_iff] at hl
    obtain ⟨g, hg, l', hl', rfl⟩ := hl
    simp only [run] at hr
    obtain ⟨σ1, h1, h2⟩ := step_some hr
    have hoi : ops[i]? = some o := ho 0 o rfl
    have hdT : ∀ d, o.dst = some d → d < E.T := fun d hd => hall i d (by rw [hoi]; exact hd)
    obtain ⟨μ, S, hrel⟩ := h
    have hw := wanted_iff (ops := ops) hrel hg (fun d ⟨j, hj⟩ => hall j d hj)
    have next : ∀ a' w', RelE E w' a' σ1 → wpOps P ops Q (List.range' (i + 1) os.length) a' w' := fun a' w' h' =>
      run_ok hC hL h6 hall hK os (i + 1) l' σ1 a' w' (fun j o' hj => by rw [show i + 1 + j = i + (j + 1) by omega]; exact ho (j + 1) o' (by simpa using hj)) hl' h2 h'
    show wpOps P ops Q (List.range' i (os.length + 1)) a w
    rw [List.range'_succ]
    simp only [wpOps, hoi]
    rcases step_guard h1 with hgd | hgd
    · rw [if_pos (hw.1 hgd)]
      exact .inl (ok_op hC hL h6 hrel hs hdT h1 hgd _ _ next)
    · rw [if_neg (by rw [hw.2 hgd]; simp)]
      exact next _ _ (skip_op hrel hs hdT h1 hgd)

theorem region_ok (hC : Sound P C) (hL : LibOK P) (h6 : E.T ≤ 1000000) {id : Nat} {ops : Array Oper} {Q : Exit → Act → World → Prop} {R : Type} {r : R} {K : St → Option R} {l : List GOp}
    (hK : ∀ σ' a' w', RelE E w' a' σ' → K σ' = some r → Q .normal a' w') (hl : slimOps P E.T A ops bases ops.toList = some l) (hr : run C l σ K = some r) (h : RelE E w a σ) : (Code.region id ops false).wp P Q a w := by
  refine wp_region ?_
  have hall : ∀ (j : Nat) d, (ops[j]?).bind (·.dst) = some d → d < E.T := fun j d hd => slimOps_dst hl j d (by simpa using hd)
  have := run_ok hC hL h6 hall hK ops.toList 0 l σ a w (fun j o hj => by simpa using hj) hl hr h
  rw [List.range_eq_range']
  simpa using this

end Go.Ab

namespace Go.Ab
open Go Go.RowKit

variable {C : Orc} {σ σ' σ2 : St} {g : Option (Nat × Bool)}

/-- Two states are alike at some temporaries; at some blocks. -/
def AgT (T : List Nat) (σ σ2 : St) : Prop := ∀ i ∈ T, σ2.t i = σ.t i ∧ σ2.p i = σ.p i ∧ σ2.dep i = σ.dep i ∧ σ2.rt i = σ.rt i
def AgB (B : List Nat) (σ σ2 : St) : Prop := ∀ k ∈ B, σ2.b k = σ.b k ∧ σ2.rb k = σ.rb k

theorem AgT.mono {T T' : List Nat} (h : AgT T σ σ2) (hs : ∀ i ∈ T', i ∈ T) : AgT T' σ σ2 := fun i hi => h i (hs i hi)
theorem AgB.mono {T T' : List Nat} (h : AgB T σ σ2) (hs : ∀ i ∈ T', i ∈ T) : AgB T' σ σ2 := fun i hi => h i (hs i hi)

theorem ev_ag {x : Opd} (h : AgT (optT [x]) σ σ2) : σ2.ev x = σ.ev x := by
  cases x with
  | t n => exact (h n (by simp [optT])).1
  | k v => rfl
theorem map_ag : ∀ {xs : List Opd}, AgT (optT xs) σ σ2 → xs.map σ2.ev = xs.map σ.ev
  | [], _ => rfl
  | .t n :: xs, h => by
    simp only [List.map_cons]
    rw [map_ag (h.mono fun i hi => by simp [optT, hi])]
    congr 1
    exact (h n (by simp [optT])).1
  | .k v :: xs, h => by
    simp only [List.map_cons]
    rw [map_ag (h.mono fun i hi => by simp [optT, hi])]
    rfl
theorem tie_ag {x : Nat} (h : AgT [x] σ σ2) : σ2.tie x = σ.tie x := by
  obtain ⟨_, _, h3, h4⟩ := h x (by simp)
  simp only [St.tie, h3, h4]
theorem free_ag : ∀ {l : List Nat}, AgT l σ σ2 → σ2.free l = σ.free l
  | [], _ => rfl
  | x :: l, h => by
    simp only [St.free]
    rw [tie_ag (h.mono (by simp)), free_ag (h.mono fun i hi => by simp [hi])]
theorem gd_ag {α : Type} {v : Option α} {e : α} (h : AgT (gT g) σ σ2) : gd σ2 g v e = gd σ g v e := by
  cases g with
  | none => rfl
  | some jw => obtain ⟨j, w⟩ := jw; simp only [gd]; rw [(h j (by simp [gT])).1]
theorem arg_ag : ∀ {l : List Arg}, AgT (tmpsA l) σ σ2 → l.map (Arg.ev σ2) = l.map (Arg.ev σ)
  | [], _ => rfl
  | .v (.t n) :: l, h => by
    simp only [List.map_cons]
    rw [arg_ag (h.mono fun i hi => by simp [tmpsA, hi])]
    congr 1
    simp only [Arg.ev, St.ev]
    rw [(h n (by simp [tmpsA])).1]
  | .v (.k v) :: l, h => by
    simp only [List.map_cons]
    rw [arg_ag (h.mono fun i hi => by simp [tmpsA, hi])]
    rfl
  | .p n :: l, h => by
    simp only [List.map_cons]
    rw [arg_ag (h.mono fun i hi => by simp [tmpsA, hi])]
    congr 1
    exact (h n (by simp [tmpsA])).2.1
  | .e n :: l, h => by
    simp only [List.map_cons]
    rw [arg_ag (h.mono fun i hi => by simp [tmpsA, hi])]
    congr 1
    simp only [Arg.ev]
    rw [(h n (by simp [tmpsA])).2.1, (h n (by simp [tmpsA])).1]
  | .f g :: l, h => by
    simp only [List.map_cons]
    rw [arg_ag (h.mono fun i hi => by simp [tmpsA, hi])]
    rfl
theorem at_ag {l : Loc} (h : AgT l.lt σ σ2) (hb : AgB l.lb σ σ2) : σ2.at l = σ.at l := by
  cases l with
  | tmp i => exact (h i (by simp [Loc.lt])).1
  | cell k o => simp only [St.at]; rw [(hb k (by simp [Loc.lb])).1]
theorem grade_ag {l : Loc} (h : AgT l.lt σ σ2) (hb : AgB l.lb σ σ2) : σ2.grade l = σ.grade l := by
  cases l with
  | tmp i => exact (h i (by simp [Loc.lt])).2.2.2
  | cell k o => simp only [St.grade]; rw [(hb k (by simp [Loc.lb])).2]
theorem ld_ag {ag : Bool} {sz : Nat} : ∀ {q : PV}, AgT q.rdT σ σ2 → AgB q.rdB σ σ2 → q.force (ldAt σ2 ag sz) = q.force (ldAt σ ag sz)
  | .ptr k o, _, hb => by
    simp only [PV.force, ldAt]
    rw [(hb k (by simp [PV.rdB])).1, (hb k (by simp [PV.rdB])).2]
  | .arr k o n z j q, _, hb => by
    simp only [PV.force, ldAt]
    rw [(hb k (by simp [PV.rdB])).1, (hb k (by simp [PV.rdB])).2]
  | .wel l i o, ht, hb => by
    simp only [PV.force, ldAt]
    rw [at_ag (ht.mono fun i hi => hi) (hb.mono fun i hi => hi)]
  | .cnd b q, ht, hb => by
    simp only [PV.force]
    rw [ld_ag (q := q) ht hb]
  | .no, _, _ | .val _, _, _ | .row _, _, _ | .fn .., _, _ => rfl

/-- What is turned from σ', all else from σ2. -/
def patch (f : FP) (σ2 σ' : St) : St :=
  { t := fun i => if i ∈ f.wt then σ'.t i else σ2.t i, p := fun i => if i ∈ f.wt then σ'.p i else σ2.p i
    dep := fun i => if i ∈ f.wt then σ'.dep i else σ2.dep i, rt := fun i => if i ∈ f.wt then σ'.rt i else σ2.rt i
    b := fun k => if k ∈ f.wb then σ'.b k else σ2.b k, rb := fun k => if k ∈ f.wb then σ'.rb k else σ2.rb k }

theorem St.ext' {σ σ' : St} (h1 : ∀ i, σ.t i = σ'.t i) (h2 : ∀ i, σ.p i = σ'.p i) (h3 : ∀ i, σ.dep i = σ'.dep i) (h4 : ∀ i, σ.rt i = σ'.rt i) (h5 : ∀ i, σ.b i = σ'.b i) (h6 : ∀ i, σ.rb i = σ'.rb i) : σ = σ' := by
  cases σ; cases σ'
  congr
  · exact funext h1
  · exact funext h2
  · exact funext h3
  · exact funext h4
  · exact funext h5
  · exact funext h6

/-- An operation looks at what it says alone, and turns no more than it says. -/
def LocalAt (C : Orc) (g : Option (Nat × Bool)) (o : SOp) (σ : St) : Prop :=
  (o.fp σ g).all = false → ∀ σ', step C g o σ some = some σ' → ∀ σ2, AgT (o.fp σ g).t σ σ2 → AgB (o.fp σ g).b σ σ2 →
    o.fp σ2 g = o.fp σ g ∧ step C g o σ2 some = some (patch (o.fp σ g) σ2 σ')

theorem patch_put {f : FP} {d : Nat} (h1 : f.wt = [d]) (h2 : f.wb = []) (v : AV) (l : Option Loc) : patch f σ2 (σ.put d v l) = σ2.put d v l := by
  apply St.ext' <;> intro i <;> simp only [patch, h1, h2, St.put, List.mem_singleton, List.not_mem_nil, if_false, upd_eq] <;> split <;> rfl
theorem patch_putP {f : FP} {d : Nat} (h1 : f.wt = [d]) (h2 : f.wb = []) (v : PV) (l : Option Loc) : patch f σ2 (σ.putP d v l) = σ2.putP d v l := by
  apply St.ext' <;> intro i <;> simp only [patch, h1, h2, St.putP, List.mem_singleton, List.not_mem_nil, if_false, upd_eq] <;> split <;> rfl

theorem loc_pure {d : Nat} {f : POp} {xs : List Opd} {esc : List Nat} : LocalAt C g (.pure d f xs esc) σ := by
  intro _ σ' h σ2 ht _
  refine ⟨rfl, ?_⟩
  have e1 : σ2.rt d = σ.rt d := (ht d (by simp [SOp.fp, fpD])).2.2.2
  have e2 : σ2.free esc = σ.free esc := free_ag (ht.mono fun i hi => by simp [SOp.fp, fpD, hi])
  have e3 : xs.map σ2.ev = xs.map σ.ev := map_ag (ht.mono fun i hi => by simp [SOp.fp, fpD, hi])
  have e4 : ∀ v : Option AV, gd σ2 g v .undef = gd σ g v .undef := fun v => gd_ag (ht.mono fun i hi => by simp [SOp.fp, fpD, hi])
  simp only [step] at h ⊢
  rw [e1, e2, e3, e4]
  obtain ⟨hc, h⟩ := bif_some h
  rw [hc, cond_true]
  simp only [Option.bind_eq_some_iff] at h
  obtain ⟨v, hv, h⟩ := h
  injection h with h
  rw [hv, ← h, Option.bind_some, patch_put rfl rfl]

theorem loc_pmv {d x : Nat} : LocalAt C g (.pmv d x) σ := by
  intro _ σ' h σ2 ht _
  refine ⟨rfl, ?_⟩
  have e1 : σ2.rt d = σ.rt d := (ht d (by simp [SOp.fp, fpD])).2.2.2
  obtain ⟨x1, x2, x3, x4⟩ := ht x (by simp [SOp.fp, fpD])
  simp only [step] at h ⊢
  rw [e1, x4]
  obtain ⟨hc, h⟩ := bif_some h
  rw [hc, cond_true]
  cases g with
  | none =>
    injection h with h
    simp only [x2, x3]
    rw [← h, patch_putP rfl rfl]
  | some jw =>
    obtain ⟨j, w⟩ := jw
    simp only [Option.bind_eq_some_iff] at h
    obtain ⟨b, hb, h⟩ := h
    injection h with h
    simp only [x2, x3, (ht j (by simp [SOp.fp, fpD, gT])).1, hb, Option.bind_some]
    rw [← h, patch_putP rfl rfl]

theorem loc_nilc {d x : Nat} : LocalAt C g (.nilc d x) σ := by
  intro _ σ' h σ2 ht _
  refine ⟨rfl, ?_⟩
  have e1 : σ2.rt d = σ.rt d := (ht d (by simp [SOp.fp, fpD])).2.2.2
  obtain ⟨x1, x2, x3, x4⟩ := ht x (by simp [SOp.fp, fpD])
  simp only [step] at h ⊢
  rw [e1, x4]
  obtain ⟨hc, h⟩ := bif_some h
  rw [hc, cond_true]
  cases g with
  | none =>
    simp only [Option.bind_eq_some_iff] at h
    obtain ⟨u, hu, h⟩ := h
    injection h with h
    simp only [x2, x3, hu, Option.bind_some]
    rw [← h, patch_putP rfl rfl]
  | some jw =>
    obtain ⟨j, w⟩ := jw
    simp only [Option.bind_eq_some_iff] at h
    obtain ⟨b, hb, u, hu, h⟩ := h
    injection h with h
    simp only [x2, x3, (ht j (by simp [SOp.fp, fpD, gT])).1, hb, Option.bind_some, hu]
    rw [← h, patch_putP rfl rfl]

theorem loc_fa {d off x : Nat} : LocalAt C g (.fa d off x) σ := by
  intro _ σ' h σ2 ht _
  refine ⟨rfl, ?_⟩
  have e1 : σ2.rt d = σ.rt d := (ht d (by simp [SOp.fp, fpD])).2.2.2
  obtain ⟨x1, x2, x3, x4⟩ := ht x (by simp [SOp.fp, fpD])
  simp only [step] at h ⊢
  rw [e1, x4]
  obtain ⟨hc, h⟩ := bif_some h
  rw [hc, cond_true]
  cases g with
  | none =>
    simp only [Option.bind_eq_some_iff] at h
    obtain ⟨u, hu, h⟩ := h
    injection h with h
    simp only [x2, x3, hu, Option.bind_some]
    rw [← h, patch_putP rfl rfl]
  | some jw =>
    obtain ⟨j, w⟩ := jw
    simp only [Option.bind_eq_some_iff] at h
    obtain ⟨b, hb, u, hu, h⟩ := h
    injection h with h
    simp only [x2, x3, (ht j (by simp [SOp.fp, fpD, gT])).1, hb, Option.bind_some, hu]
    rw [← h, patch_putP rfl rfl]

theorem force_cps {R : Type} : ∀ (q : PV) (K : PV → Option R), q.force K = (q.force some).bind K
  | .cnd b q, K => by
    simp only [PV.force]
    cases b with
    | true => exact force_cps q K
    | false => rfl
  | .no, _ | .val _, _ | .ptr .., _ | .arr .., _ | .wel .., _ | .row _, _ | .fn .., _ => rfl

theorem loc_ixp {d n sz x : Nat} {i : Opd} : LocalAt C g (.ixp d n sz x i) σ := by
  intro _ σ' h σ2 ht _
  refine ⟨rfl, ?_⟩
  have e1 : σ2.rt d = σ.rt d := (ht d (by simp [SOp.fp, fpD])).2.2.2
  obtain ⟨x1, x2, x3, x4⟩ := ht x (by simp [SOp.fp, fpD])
  have e3 : σ2.ev i = σ.ev i := ev_ag (ht.mono fun i hi => by simp [SOp.fp, fpD, hi])
  simp only [step] at h ⊢
  rw [e1, x4]
  obtain ⟨hc, h⟩ := bif_some h
  rw [hc, cond_true]
  cases g with
  | none =>
    simp only at h ⊢
    rw [force_cps] at h ⊢
    simp only [Option.bind_eq_some_iff] at h
    obtain ⟨q, hq, q', hq', h⟩ := h
    injection h with h
    rw [x2, hq, Option.bind_some, e3, hq', Option.bind_some, x3, ← h, patch_putP rfl rfl]
  | some jw =>
    obtain ⟨j, w⟩ := jw
    simp only [Option.bind_eq_some_iff] at h
    obtain ⟨b, hb, u, hu, h⟩ := h
    injection h with h
    simp only [x2, x3, e3, (ht j (by simp [SOp.fp, fpD, gT])).1, hb, Option.bind_some, hu]
    rw [← h, patch_putP rfl rfl]

theorem loc_ixr {d sz x : Nat} {i : Opd} : LocalAt C g (.ixr d sz x i) σ := by
  intro _ σ' h σ2 ht _
  refine ⟨rfl, ?_⟩
  have e1 : σ2.rt d = σ.rt d := (ht d (by simp [SOp.fp, fpD])).2.2.2
  obtain ⟨x1, x2, x3, x4⟩ := ht x (by simp [SOp.fp, fpD])
  have e3 : σ2.ev i = σ.ev i := ev_ag (ht.mono fun i hi => by simp [SOp.fp, fpD, hi])
  have e5 : σ2.tie x = σ.tie x := tie_ag (ht.mono fun i hi => by simp [SOp.fp, fpD] at hi ⊢; simp [hi])
  simp only [step] at h ⊢
  rw [e1, e5]
  obtain ⟨hc, h⟩ := bif_some h
  rw [hc, cond_true]
  cases g with
  | none =>
    simp only [Option.bind_eq_some_iff] at h
    obtain ⟨u, hu, h⟩ := h
    injection h with h
    simp only [x1, e3, hu, Option.bind_some]
    rw [← h, patch_putP rfl rfl]
  | some jw =>
    obtain ⟨j, w⟩ := jw
    simp only [Option.bind_eq_some_iff] at h
    obtain ⟨b, hb, u, hu, h⟩ := h
    injection h with h
    simp only [x1, e3, (ht j (by simp [SOp.fp, fpD, gT])).1, hb, Option.bind_some, hu]
    rw [← h, patch_putP rfl rfl]

theorem loc_ixw {d sz x : Nat} {i : Opd} : LocalAt C g (.ixw d sz x i) σ := by
  intro hall σ' h σ2 ht hb2
  cases hl : σ.tie x with
  | none => simp [SOp.fp, hl, fpAll] at hall
  | some l =>
    have hfp : (SOp.ixw d sz x i).fp σ g = ⟨d :: x :: (l.lt ++ optT [i]), [d], l.lb, [], false⟩ := by simp only [SOp.fp, hl]
    rw [hfp] at ht hb2 ⊢
    simp only at ht hb2
    have e5 : σ2.tie x = σ.tie x := tie_ag (ht.mono fun i hi => by simp at hi ⊢; simp [hi])
    have e1 : σ2.rt d = σ.rt d := (ht d (by simp)).2.2.2
    have e2 : σ2.t x = σ.t x := (ht x (by simp)).1
    have e3 : σ2.ev i = σ.ev i := ev_ag (ht.mono fun i hi => by simp [hi])
    have e4 : σ2.grade l = σ.grade l := grade_ag (ht.mono fun i hi => by simp [hi]) hb2
    refine ⟨by simp only [SOp.fp, e5, hl], ?_⟩
    simp only [step] at h ⊢
    rw [e5, hl] 
    rw [hl] at h
    cases g with
    | some jw => cases h
    | none =>
      simp only at h ⊢
      rw [e1, e2, e3, e4]
      obtain ⟨hc, h⟩ := bif_some h
      obtain ⟨hc2, h⟩ := bif_some h
      rw [hc, cond_true, hc2, cond_true]
      cases h1 : σ.t x <;> rw [h1] at h <;> simp only at h ⊢ <;> try (cases h; done)
      simp only [Option.bind_eq_some_iff] at h
      obtain ⟨n, h2, h⟩ := h
      rw [h2, Option.bind_some]
      split at h
      case isFalse => cases h
      rename_i hn
      rw [if_pos hn]
      injection h with h
      rw [← h, patch_putP rfl rfl]

theorem loc_mkfn {d : Nat} {f : FuncId} {a c : List Arg} : LocalAt C g (.mkfn d f a c) σ := by
  intro _ σ' h σ2 ht _
  refine ⟨rfl, ?_⟩
  have e1 : σ2.rt d = σ.rt d := (ht d (by simp [SOp.fp, fpD])).2.2.2
  have e2 : a.map (Arg.ev σ2) = a.map (Arg.ev σ) := arg_ag (ht.mono fun i hi => by simp [SOp.fp, fpD, hi])
  have e3 : c.map (Arg.ev σ2) = c.map (Arg.ev σ) := arg_ag (ht.mono fun i hi => by simp [SOp.fp, fpD, hi])
  have e4 : σ2.free (tmpsA a) = σ.free (tmpsA a) := free_ag (ht.mono fun i hi => by simp [SOp.fp, fpD, hi])
  have e5 : σ2.free (tmpsA c) = σ.free (tmpsA c) := free_ag (ht.mono fun i hi => by simp [SOp.fp, fpD, hi])
  simp only [step] at h ⊢
  rw [e1, e2, e3, e4, e5]
  obtain ⟨hc, h⟩ := bif_some h
  rw [hc, cond_true]
  cases g with
  | some jw => cases h
  | none =>
    simp only at h ⊢
    obtain ⟨hc, h⟩ := bif_some h
    rw [hc, cond_true]
    injection h with h
    rw [← h, patch_putP rfl rfl]

theorem loc_cpy {d x : Nat} : LocalAt C g (.cpy d x) σ := by
  intro _ σ' h σ2 ht _
  refine ⟨rfl, ?_⟩
  have e1 : σ2.rt d = σ.rt d := (ht d (by simp [SOp.fp, fpD])).2.2.2
  obtain ⟨x1, x2, x3, x4⟩ := ht x (by simp [SOp.fp, fpD])
  have e5 : σ2.tie x = σ.tie x := tie_ag (ht.mono fun i hi => by simp [SOp.fp, fpD] at hi ⊢; simp [hi])
  have e4 : ∀ v : Option AV, gd σ2 g v .undef = gd σ g v .undef := fun v => gd_ag (ht.mono fun i hi => by simp [SOp.fp, fpD, hi])
  simp only [step] at h ⊢
  rw [e1, e5, e4, x1]
  obtain ⟨hc, h⟩ := bif_some h
  rw [hc, cond_true]
  simp only [Option.bind_eq_some_iff] at h
  obtain ⟨v, hv, h⟩ := h
  injection h with h
  rw [hv, ← h, Option.bind_some, patch_put rfl rfl]

theorem loc_take {d x : Nat} : LocalAt C g (.take d x) σ := by
  intro hall σ' h σ2 ht _
  cases hw : wr (σ.rt x) with
  | true => simp [SOp.fp, hw, fpAll] at hall
  | false =>
    have hfp : (SOp.take d x).fp σ g = ⟨[d, x], [d, x], [], [], false⟩ := by simp [SOp.fp, hw]
    rw [hfp] at ht ⊢
    simp only at ht
    have e1 : σ2.rt d = σ.rt d := (ht d (by simp)).2.2.2
    obtain ⟨x1, x2, x3, x4⟩ := ht x (by simp)
    refine ⟨by simp [SOp.fp, x4, hw], ?_⟩
    cases g with
    | some jw => simp [step] at h
    | none =>
      simp only [step] at h ⊢
      rw [e1]
      obtain ⟨hc, h⟩ := bif_some h
      rw [hc, cond_true]
      injection h with h
      rw [← h]
      simp only [x4, hw, cond_false]
      congr 1
      apply St.ext' <;> intro i <;> simp only [patch, St.put, upd_eq, List.mem_cons, List.not_mem_nil, or_false, if_false, x1, x3]
      all_goals (split <;> rename_i h1 <;> first | rfl | (rw [if_neg (fun e => h1 (.inl e))]) | simp_all)

theorem loc_alloc {d : Nat} {cells : List AV} : LocalAt C g (.alloc d cells) σ := by
  intro _ σ' h σ2 ht hb2
  refine ⟨rfl, ?_⟩
  have e1 : σ2.rt d = σ.rt d := (ht d (by simp [SOp.fp])).2.2.2
  obtain ⟨e2, e3⟩ := hb2 d (by simp [SOp.fp])
  simp only [step] at h ⊢
  rw [e2, e1]
  split at h
  case h_2 => cases h
  rename_i hd
  obtain ⟨hc, h⟩ := bif_some h
  simp only [hc, cond_true]
  injection h with h
  rw [← h]
  congr 1
  apply St.ext' <;> intro i <;> simp only [patch, SOp.fp, St.putP, List.mem_singleton, upd_eq] <;> split <;> rfl

theorem loc_box {d sz : Nat} {x : Opd} {esc : List Nat} : LocalAt C g (.box d sz x esc) σ := by
  intro _ σ' h σ2 ht hb2
  refine ⟨rfl, ?_⟩
  have e1 : σ2.rt d = σ.rt d := (ht d (by simp [SOp.fp])).2.2.2
  have e4 : σ2.free esc = σ.free esc := free_ag (ht.mono fun i hi => by simp [SOp.fp, hi])
  have e5 : σ2.ev x = σ.ev x := ev_ag (ht.mono fun i hi => by simp [SOp.fp, hi])
  obtain ⟨e2, e3⟩ := hb2 d (by simp [SOp.fp])
  simp only [step] at h ⊢
  rw [e2, e1, e4, e5]
  split at h
  case h_2 => cases h
  rename_i hd
  obtain ⟨hc, h⟩ := bif_some h
  simp only [hc, cond_true]
  split at h
  case isFalse => cases h
  rename_i hz
  rw [if_pos hz]
  injection h with h
  rw [← h]
  congr 1
  apply St.ext' <;> intro i <;> simp only [patch, SOp.fp, St.putP, List.mem_singleton, upd_eq] <;> split <;> rfl

theorem loc_load {d sz x : Nat} {ag : Bool} : LocalAt C g (.load d ag sz x) σ := by
  intro _ σ' h σ2 ht hb2
  have e1 : σ2.rt d = σ.rt d := (ht d (by simp [SOp.fp])).2.2.2
  have e2 : σ2.p x = σ.p x := (ht x (by simp [SOp.fp])).2.1
  have e3 : (σ.p x).force (ldAt σ2 ag sz) = (σ.p x).force (ldAt σ ag sz) := ld_ag (ht.mono fun i hi => by simp [SOp.fp, hi]) (hb2.mono fun i hi => by simp [SOp.fp, hi])
  have e4 : ∀ v : Option AV, gd σ2 g v .undef = gd σ g v .undef := fun v => gd_ag (ht.mono fun i hi => by simp [SOp.fp, hi])
  refine ⟨by simp only [SOp.fp, e2], ?_⟩
  simp only [step] at h ⊢
  rw [e1, e2, e3, e4]
  obtain ⟨hc, h⟩ := bif_some h
  rw [hc, cond_true]
  simp only [Option.bind_eq_some_iff] at h
  obtain ⟨v, hv, h⟩ := h
  injection h with h
  rw [hv, ← h, Option.bind_some, patch_put rfl rfl]

theorem loc_loads {d x : Nat} : LocalAt C g (.loads d x) σ := by
  intro _ σ' h σ2 ht hb2
  have e1 : σ2.rt d = σ.rt d := (ht d (by simp [SOp.fp])).2.2.2
  have e2 : σ2.p x = σ.p x := (ht x (by simp [SOp.fp])).2.1
  have e3 : (σ.p x).force (ldAt σ2 false 1) = (σ.p x).force (ldAt σ false 1) := ld_ag (ht.mono fun i hi => by simp [SOp.fp, hi]) (hb2.mono fun i hi => by simp [SOp.fp, hi])
  have e4 : ∀ v : Option AV, gd σ2 g v .undef = gd σ g v .undef := fun v => gd_ag (ht.mono fun i hi => by simp [SOp.fp, hi])
  refine ⟨by simp only [SOp.fp, e2], ?_⟩
  simp only [step] at h ⊢
  rw [e1, e2]
  obtain ⟨hc, h⟩ := bif_some h
  rw [hc, cond_true]
  have gen : ((gd σ g ((σ.p x).force (ldAt σ false 1)) .undef).bind fun v => some (σ.put d v)) = some σ' →
      ((gd σ2 g ((σ.p x).force (ldAt σ2 false 1)) .undef).bind fun v => some (σ2.put d v)) = some (patch ((SOp.loads d x).fp σ g) σ2 σ') := by
    intro h
    simp only [Option.bind_eq_some_iff] at h
    obtain ⟨v, hv, h⟩ := h
    injection h with h
    rw [e3, e4, hv, ← h, Option.bind_some, patch_put rfl rfl]
  cases g with
  | some jw => cases hq : σ.p x <;> rw [hq] at gen h <;> exact gen h
  | none =>
    cases hq : σ.p x with
    | ptr k o =>
      rw [hq] at h
      simp only [Option.bind_eq_some_iff] at h
      obtain ⟨v, ⟨b, hb, hv⟩, h⟩ := h
      injection h with h
      obtain ⟨e5, e6⟩ := hb2 k (by simp [SOp.fp, hq, PV.rdB])
      simp only [e5, e6, hb, Option.bind_some, hv]
      rw [← h, patch_put rfl rfl]
    | _ => rw [hq] at gen h; exact gen h

theorem loc_loadt {d x : Nat} : LocalAt C g (.loadt d x) σ := by
  intro hall σ' h σ2 ht hb2
  cases hq : σ.p x with
  | ptr k o =>
    cases hw : wr (σ.rb k o) with
    | true => simp [SOp.fp, hq, hw, fpAll] at hall
    | false =>
      have hfp : (SOp.loadt d x).fp σ g = ⟨[d, x], [d], [k], [k], false⟩ := by simp [SOp.fp, hq, hw]
      rw [hfp] at ht hb2 ⊢
      simp only at ht hb2
      have e1 : σ2.rt d = σ.rt d := (ht d (by simp)).2.2.2
      obtain ⟨x1, x2, x3, x4⟩ := ht x (by simp)
      obtain ⟨e5, e6⟩ := hb2 k (by simp)
      refine ⟨by simp [SOp.fp, x2, hq, e6, hw], ?_⟩
      cases g with
      | some jw => simp [step] at h
      | none =>
        simp only [step] at h ⊢
        rw [hq] at h
        rw [x2, hq]
        simp only at h ⊢
        obtain ⟨hc, h⟩ := bif_some h
        rw [e1, hc, cond_true]
        simp only [Option.bind_eq_some_iff] at h
        obtain ⟨v, ⟨b, hb, hv⟩, h⟩ := h
        injection h with h
        simp only [e5, e6, hb, Option.bind_some, hv]
        rw [← h]
        simp only [hw, cond_false]
        congr 1
        apply St.ext' <;> intro i <;> simp only [patch, St.put, List.mem_singleton, upd_eq] <;> split <;> first | rfl | simp_all
  | _ => simp [SOp.fp, hq, fpAll] at hall

theorem loc_store {sz p : Nat} {x : Opd} {esc : List Nat} : LocalAt C g (.store sz p x esc) σ := by
  intro hall σ' h σ2 ht hb2
  cases hq : σ.p p with
  | ptr k o =>
    have hfp : (SOp.store sz p x esc).fp σ g = ⟨p :: (esc ++ optT [x]), [], [k], [k], false⟩ := by simp [SOp.fp, hq]
    rw [hfp] at ht hb2 ⊢
    simp only at ht hb2
    have e1 : σ2.free esc = σ.free esc := free_ag (ht.mono fun i hi => by simp [hi])
    have e2 : σ2.ev x = σ.ev x := ev_ag (ht.mono fun i hi => by simp [hi])
    obtain ⟨x1, x2, x3, x4⟩ := ht p (by simp)
    obtain ⟨e5, e6⟩ := hb2 k (by simp)
    refine ⟨by simp [SOp.fp, x2, hq], ?_⟩
    cases g with
    | some jw => simp [step] at h
    | none =>
      simp only [step] at h ⊢
      rw [hq] at h
      rw [x2, hq]
      simp only at h ⊢
      obtain ⟨hc, h⟩ := bif_some h
      rw [e1, e6, hc, cond_true]
      simp only [Option.bind_eq_some_iff] at h
      obtain ⟨b, hb, h⟩ := h
      rw [e5, hb, Option.bind_some, e2]
      split at h
      case isFalse => cases h
      rename_i hz
      rw [if_pos hz]
      injection h with h
      rw [← h]
      congr 1
      apply St.ext' <;> intro i <;> simp only [patch, List.mem_singleton, List.not_mem_nil, if_false, upd_eq] <;> split <;> first | rfl | simp_all
  | arr k o n z j q =>
    have hfp : (SOp.store sz p x esc).fp σ g = ⟨p :: (esc ++ optT [x]), [], [k], [k], false⟩ := by simp [SOp.fp, hq]
    rw [hfp] at ht hb2 ⊢
    simp only at ht hb2
    have e1 : σ2.free esc = σ.free esc := free_ag (ht.mono fun i hi => by simp [hi])
    have e2 : σ2.ev x = σ.ev x := ev_ag (ht.mono fun i hi => by simp [hi])
    obtain ⟨x1, x2, x3, x4⟩ := ht p (by simp)
    obtain ⟨e5, e6⟩ := hb2 k (by simp)
    refine ⟨by simp [SOp.fp, x2, hq], ?_⟩
    cases g with
    | some jw => simp [step] at h
    | none =>
      simp only [step] at h ⊢
      rw [hq] at h
      rw [x2, hq]
      simp only at h ⊢
      obtain ⟨hc, h⟩ := bif_some h
      rw [e1, e6, hc, cond_true]
      simp only [Option.bind_eq_some_iff] at h
      obtain ⟨b, hb, h⟩ := h
      obtain ⟨hz, h⟩ := bif_some h
      simp only [Option.bind_eq_some_iff] at h
      obtain ⟨cs', hcs', h⟩ := h
      rw [e5, hb, Option.bind_some, e2, hz, cond_true, hcs', Option.bind_some]
      injection h with h
      rw [← h]
      congr 1
      apply St.ext' <;> intro i <;> simp only [patch, List.mem_singleton, List.not_mem_nil, if_false, upd_eq] <;> split <;> first | rfl | simp_all
  | _ => simp [SOp.fp, hq, fpAll] at hall

theorem loc_stores {p x : Nat} : LocalAt C g (.stores p x) σ := by
  intro hall σ' h σ2 ht hb2
  cases hq : σ.p p with
  | ptr k o =>
    cases hw : wr (σ.rt x) with
    | true => simp [SOp.fp, hq, hw, fpAll] at hall
    | false =>
      have hfp : (SOp.stores p x).fp σ g = ⟨[p, x], [x], [k], [k], false⟩ := by simp [SOp.fp, hq, hw]
      rw [hfp] at ht hb2 ⊢
      simp only at ht hb2
      obtain ⟨x1, x2, x3, x4⟩ := ht p (by simp)
      obtain ⟨y1, y2, y3, y4⟩ := ht x (by simp)
      obtain ⟨e5, e6⟩ := hb2 k (by simp)
      refine ⟨by simp [SOp.fp, x2, hq, y4, hw], ?_⟩
      cases g with
      | some jw => simp [step] at h
      | none =>
        simp only [step] at h ⊢
        rw [hq] at h
        rw [x2, hq, y3]
        cases hd : σ.dep x with
        | some l => rw [hd] at h; cases h
        | none =>
          rw [hd] at h
          simp only at h ⊢
          obtain ⟨hc, h⟩ := bif_some h
          rw [e6, hc, cond_true]
          simp only [Option.bind_eq_some_iff] at h
          obtain ⟨r, hr, b, hb, h⟩ := h
          rw [y1, hr, Option.bind_some, e5, hb, Option.bind_some]
          split at h
          case isFalse => cases h
          rename_i hz
          rw [if_pos hz]
          injection h with h
          rw [← h]
          simp only [y4, hw, cond_false]
          congr 1
          apply St.ext' <;> intro i <;> simp only [patch, List.mem_singleton, upd_eq] <;> split <;> first | rfl | simp_all
  | _ => simp [SOp.fp, hq, fpAll] at hall

theorem loc_mk {d sz bytes : Nat} {e : EC} {zero : List AV} {n c : Opd} {w : Bool} : LocalAt C g (.mk d sz bytes e zero n c w) σ := by
  intro _ σ' h σ2 ht _
  refine ⟨rfl, ?_⟩
  have e1 : σ2.rt d = σ.rt d := (ht d (by simp [SOp.fp, fpD])).2.2.2
  have e2 : σ2.ev n = σ.ev n := ev_ag (ht.mono fun i hi => by cases n <;> simp [SOp.fp, fpD, optT] at hi ⊢; simp [hi])
  have e3 : σ2.ev c = σ.ev c := ev_ag (ht.mono fun i hi => by cases n <;> cases c <;> simp [SOp.fp, fpD, optT] at hi ⊢ <;> simp [hi])
  cases g with
  | some jw => simp [step] at h
  | none =>
    simp only [step] at h ⊢
    obtain ⟨hc, h⟩ := bif_some h
    rw [e1, hc, cond_true, e2, e3]
    simp only [Option.bind_eq_some_iff] at h
    obtain ⟨a, ha, b, hb, z, hz1, h⟩ := h
    rw [ha, Option.bind_some, hb, Option.bind_some, hz1, Option.bind_some]
    obtain ⟨hz2, h⟩ := bif_some h
    rw [hz2, cond_true]
    split at h
    case isFalse => cases h
    rename_i hz
    rw [if_pos hz]
    injection h with h
    rw [← h]
    congr 1
    apply St.ext' <;> intro i <;> simp only [patch, SOp.fp, fpD, St.put, List.mem_singleton, List.not_mem_nil, if_false, upd_eq] <;> split <;> rfl

theorem loc_lib {d sz bytes : Nat} {o : LibOp} {x : Opd} {w : Bool} : LocalAt C g (.lib d o sz bytes x w) σ := by
  intro _ σ' h σ2 ht _
  refine ⟨rfl, ?_⟩
  have e1 : σ2.rt d = σ.rt d := (ht d (by simp [SOp.fp, fpD])).2.2.2
  have e2 : σ2.ev x = σ.ev x := ev_ag (ht.mono fun i hi => by simp [SOp.fp, fpD, hi])
  cases g with
  | some jw => simp [step] at h
  | none =>
    simp only [step] at h ⊢
    obtain ⟨hc, h⟩ := bif_some h
    rw [e1, hc, cond_true, e2]
    cases hev : σ.ev x <;> rw [hev] at h <;> simp only at h ⊢ <;> try (cases h; done)
    obtain ⟨h1, h⟩ := bif_some h
    obtain ⟨h2, h⟩ := bif_some h
    rw [h1, cond_true, h2, cond_true]
    cases o with
    | delete => cases h
    | clone =>
      injection h with h
      rw [← h]
      simp only
      congr 1
      apply St.ext' <;> intro i <;> simp only [patch, SOp.fp, fpD, St.put, List.mem_singleton, List.not_mem_nil, if_false, upd_eq] <;> split <;> rfl
    | clip =>
      simp only at h ⊢
      cases x with
      | k v =>
        simp only [St.free, cond_true] at h ⊢
        injection h with h
        rw [← h, patch_put rfl rfl]
      | t i =>
        simp only at h ⊢
        have e3 : σ2.free [i] = σ.free [i] := free_ag (ht.mono fun i hi => by simp [SOp.fp, fpD, optT] at hi ⊢; simp [hi])
        obtain ⟨hc, h⟩ := bif_some h
        rw [e3, hc, cond_true]
        injection h with h
        rw [← h, patch_put rfl rfl]

theorem loc_app {d sz bytes : Nat} {x y : Opd} {str w : Bool} : LocalAt C g (.app d sz bytes x y str w) σ := by
  intro hall σ' h σ2 ht _
  cases g with
  | some jw => simp [step] at h
  | none =>
    cases x with
    | k v =>
      refine ⟨rfl, ?_⟩
      have e1 : σ2.rt d = σ.rt d := (ht d (by simp [SOp.fp, fpD])).2.2.2
      have e2 : σ2.ev y = σ.ev y := ev_ag (ht.mono fun i hi => by simp [SOp.fp, fpD, hi])
      have e3 : σ2.ev (.k v) = σ.ev (.k v) := rfl
      simp only [step] at h ⊢
      obtain ⟨hc, h⟩ := bif_some h
      rw [e1, hc, cond_true, e2, e3]
      simp only [Option.bind_eq_some_iff] at h
      obtain ⟨a, ha, b, hb, h⟩ := h
      rw [ha, Option.bind_some, hb, Option.bind_some]
      obtain ⟨hf, h⟩ := bif_some h
      rw [hf, cond_true]
      injection h with h
      rw [← h]
      congr 1
      apply St.ext' <;> intro i <;> simp only [patch, SOp.fp, fpD, St.put, List.mem_singleton, List.not_mem_nil, if_false, upd_eq] <;> split <;> rfl
    | t i =>
      cases hw : wr (σ.rt i) with
      | true => simp [SOp.fp, hw, fpAll] at hall
      | false =>
        have hfp : (SOp.app d sz bytes (.t i) y str w).fp σ none = ⟨d :: i :: optT [y], [d, i], [], [], false⟩ := by simp [SOp.fp, hw]
        rw [hfp] at ht ⊢
        simp only at ht
        have e1 : σ2.rt d = σ.rt d := (ht d (by simp)).2.2.2
        have e2 : σ2.ev y = σ.ev y := ev_ag (ht.mono fun i hi => by simp [hi])
        obtain ⟨x1, x2, x3, x4⟩ := ht i (by simp)
        have e3 : σ2.ev (.t i) = σ.ev (.t i) := x1
        have e4 : σ2.free [i] = σ.free [i] := free_ag (ht.mono fun i hi => by simp at hi ⊢; simp [hi])
        refine ⟨by simp [SOp.fp, x4, hw], ?_⟩
        simp only [step] at h ⊢
        obtain ⟨hc, h⟩ := bif_some h
        rw [e1, hc, cond_true, e2, e3]
        simp only [Option.bind_eq_some_iff] at h
        obtain ⟨a, ha, b, hb, h⟩ := h
        rw [ha, Option.bind_some, hb, Option.bind_some]
        rw [x4]
        cases hr : σ.rt i with
        | zero =>
          rw [hr] at h
          simp only at h ⊢
          obtain ⟨hf, h⟩ := bif_some h
          rw [x1, e4, hf, cond_true]
          injection h with h
          rw [← h]
          congr 1
          apply St.ext' <;> intro j <;> simp only [patch, St.put, List.mem_cons, List.not_mem_nil, or_false, if_false, upd_eq]
          all_goals (split <;> rename_i h1 <;> first | rfl | (rw [if_neg (fun e => h1 (.inl e))]) | simp_all)
        | succ r =>
          rw [hr] at h hw
          simp only at h ⊢
          obtain ⟨hf, h⟩ := bif_some h
          rw [x3, hf, cond_true]
          injection h with h
          rw [← h]
          simp only [hw, cond_false]
          congr 1
          apply St.ext' <;> intro j <;> simp only [patch, St.put, List.mem_cons, List.not_mem_nil, or_false, if_false, upd_eq]
          all_goals (split <;> rename_i h1 <;> first | rfl | (rw [if_neg (fun e => h1 (.inl e))]) | simp_all)

theorem getBlks_ag : ∀ {ks : List Nat}, AgB ks σ σ2 → getBlks σ2.b ks = getBlks σ.b ks
  | [], _ => rfl
  | k :: ks, h => by
    simp only [getBlks]
    rw [(h k (by simp)).1, getBlks_ag (h.mono fun i hi => by simp [hi])]
theorem freeB_ag : ∀ {ks : List Nat} {cs : List (List AV)}, AgB ks σ σ2 → freeB σ2.rb ks cs = freeB σ.rb ks cs
  | [], _, _ => rfl
  | k :: ks, [], _ => rfl
  | k :: ks, c :: cs, h => by
    simp only [freeB]
    rw [(h k (by simp)).2, freeB_ag (h.mono fun i hi => by simp [hi])]
theorem setBlks_ag : ∀ {ks : List Nat} {cs : List (List AV)} {b b2 b' : Nat → Option (List AV)}, setBlks b ks cs = some b' →
    setBlks b2 ks cs = some fun k => if k ∈ ks then b' k else b2 k
  | [], [], b, b2, b', h => by simp [setBlks]
  | [], _ :: _, b, b2, b', h => by simp [setBlks] at h
  | _ :: _, [], b, b2, b', h => by simp [setBlks] at h
  | k :: ks, c :: cs, b, b2, b', h => by
    simp only [setBlks] at h ⊢
    rw [setBlks_ag h]
    congr 1
    funext j
    by_cases hj : j ∈ ks
    · simp [hj]
    · simp only [hj, if_false, List.mem_cons, or_false, upd_eq]
      by_cases e : j = k
      · subst e
        simp only [if_true]
        have := setBlks_ag (b2 := upd b j (some c)) h
        rw [h] at this
        injection this with this
        rw [this]; simp [hj, upd_self]
      · simp [e]

theorem clrB_fun (rb : Nat → Nat → Nat) (ks : List Nat) (k : Nat) : clrB rb ks k = if k ∈ ks then (fun _ => 0) else rb k := by
  funext o
  rw [clrB_get]; split <;> rfl

theorem loc_call {d : Nat} {f : FuncId} {args : List Arg} {esc : List Nat} {fresh : Bool} : LocalAt C g (.call d f args esc fresh) σ := by
  intro hall σ' h σ2 ht hb2
  have hta : AgT (d :: (gT g ++ (esc ++ tmpsA args))) σ σ2 := ht.mono fun i hi => by cases fresh <;> simpa [SOp.fp] using hi
  have hba : AgB (keysAll [] (args.map (Arg.ev σ))) σ σ2 := hb2.mono fun i hi => by cases fresh <;> simp [SOp.fp]; exact hi; exact .inr hi
  have e1 : σ2.rt d = σ.rt d := (hta d (by simp)).2.2.2
  have e2 : σ2.free esc = σ.free esc := free_ag (hta.mono fun i hi => by simp [hi])
  have e3 : args.map (Arg.ev σ2) = args.map (Arg.ev σ) := arg_ag (hta.mono fun i hi => by simp [hi])
  have e4 : ∀ (v : Option (AV × List (List AV))) e, gd σ2 g v e = gd σ g v e := fun v e => gd_ag (hta.mono fun i hi => by simp [hi])
  have e5 := getBlks_ag hba
  refine ⟨by simp only [SOp.fp, e3], ?_⟩
  simp only [step] at h ⊢
  obtain ⟨hc, h⟩ := bif_some h
  rw [e2, e1, hc, cond_true, e3]
  generalize hks : keysAll [] (args.map (Arg.ev σ)) = ks at *
  generalize has : args.map (Arg.ev σ) = as at *
  simp only [Option.bind_eq_some_iff] at h
  obtain ⟨bs, hbs, h⟩ := h
  rw [e5, hbs, Option.bind_some]
  obtain ⟨hf, h⟩ := bif_some h
  rw [freeB_ag hba, hf, cond_true]
  cases fresh with
  | false =>
    simp only at h ⊢
    rw [e4]
    simp only [Option.bind_eq_some_iff] at h
    obtain ⟨r, hr, b', hb', h⟩ := h
    rw [hr, Option.bind_some, setBlks_ag hb', Option.bind_some]
    injection h with h
    rw [← h]
    congr 1
    apply St.ext' <;> intro i <;> simp only [patch, SOp.fp, has, hks, cond_false, St.put, List.mem_singleton, upd_eq, clrB_fun] <;> split <;> first | rfl | simp_all
  | true =>
    obtain ⟨e6, e7⟩ := hb2 d (by simp [SOp.fp])
    rw [e6]
    cases g with
    | some jw => simp only at h; cases h
    | none =>
    cases hd : σ.b d with
    | some x => rw [hd] at h; simp only at h; cases h
    | none =>
    rw [hd] at h
    simp only [Option.bind_eq_some_iff] at h ⊢
    obtain ⟨as', has', r, hr, h⟩ := h
    refine ⟨as', has', r, hr, ?_⟩
    split at h
    case h_2 => cases h
    simp only [Option.bind_eq_some_iff] at h
    obtain ⟨b', hb', h⟩ := h
    rw [setBlks_ag hb', Option.bind_some]
    injection h with h
    rw [← h]
    congr 1
    apply St.ext' <;> intro i <;> simp only [patch, SOp.fp, has, hks, cond_true, St.putP, List.mem_singleton, upd_eq, clrB_fun, List.mem_cons, List.mem_append, List.not_mem_nil, or_false]
    all_goals (split <;> first | rfl | (simp_all; done) | skip)
    all_goals (rename_i h1; first | (rcases h1 with h1 | h1 <;> simp [h1]; done) | (rw [if_neg (fun e => h1 (e.elim .inr .inl))]))

theorem loc_calld {d x : Nat} {args : List Arg} {esc : List Nat} : LocalAt C g (.calld d x args esc) σ := by
  intro hall σ' h σ2 ht hb2
  cases hq : σ.p x with
  | fn f a c =>
    have hfp : (SOp.calld d x args esc).fp σ g = ⟨d :: x :: (gT g ++ (esc ++ tmpsA args)), [d], keysAll [] (a ++ args.map (Arg.ev σ) ++ c), keysAll [] (a ++ args.map (Arg.ev σ) ++ c), false⟩ := by simp only [SOp.fp, hq]
    rw [hfp] at ht hb2 ⊢
    simp only at ht hb2
    have e1 : σ2.rt d = σ.rt d := (ht d (by simp)).2.2.2
    have e0 : σ2.p x = σ.p x := (ht x (by simp)).2.1
    have e2 : σ2.free esc = σ.free esc := free_ag (ht.mono fun i hi => by simp [hi])
    have e3 : args.map (Arg.ev σ2) = args.map (Arg.ev σ) := arg_ag (ht.mono fun i hi => by simp [hi])
    have e4 : ∀ (v : Option (AV × List (List AV))) e, gd σ2 g v e = gd σ g v e := fun v e => gd_ag (ht.mono fun i hi => by simp [hi])
    have e5 := getBlks_ag hb2
    refine ⟨by simp only [SOp.fp, e0, hq, e3], ?_⟩
    simp only [step] at h ⊢
    rw [hq] at h
    rw [e0, hq]
    simp only at h ⊢
    obtain ⟨hc, h⟩ := bif_some h
    rw [e2, e1, hc, cond_true, e3]
    generalize hks : keysAll [] (a ++ args.map (Arg.ev σ) ++ c) = ks at *
    simp only [Option.bind_eq_some_iff] at h
    obtain ⟨bs, hbs, h⟩ := h
    rw [e5, hbs, Option.bind_some]
    obtain ⟨hf, h⟩ := bif_some h
    rw [freeB_ag hb2, hf, cond_true, e4]
    simp only [Option.bind_eq_some_iff] at h
    obtain ⟨r, hr, b', hb', h⟩ := h
    rw [hr, Option.bind_some, setBlks_ag hb', Option.bind_some]
    injection h with h
    rw [← h]
    congr 1
    apply St.ext' <;> intro i <;> simp only [patch, St.put, List.mem_singleton, upd_eq, clrB_fun] <;> split <;> first | rfl | simp_all
  | _ => simp [SOp.fp, hq, fpAll] at hall

theorem local_op (o : SOp) : LocalAt C g o σ := by
  cases o with
  | pure => exact loc_pure
  | pmv => exact loc_pmv
  | nilc => exact loc_nilc
  | fa => exact loc_fa
  | ixp => exact loc_ixp
  | ixr => exact loc_ixr
  | ixw => exact loc_ixw
  | mkfn => exact loc_mkfn
  | cpy => exact loc_cpy
  | take => exact loc_take
  | alloc => exact loc_alloc
  | box => exact loc_box
  | load => exact loc_load
  | loads => exact loc_loads
  | loadt => exact loc_loadt
  | store => exact loc_store
  | stores => exact loc_stores
  | app => exact loc_app
  | mk => exact loc_mk
  | call => exact loc_call
  | calld => exact loc_calld
  | lib => exact loc_lib
  | del => intro hall; simp [SOp.fp, fpAll] at hall

end Go.Ab

namespace Go.Ab
open Go Go.RowKit

variable {C : Orc} {σ σ' σ1 σ2 : St} {g : Option (Nat × Bool)}

theorem keepN_mem {x : Nat} : ∀ {l : List Nat}, meet.memN x l = true ↔ x ∈ l
  | [] => by simp [meet.memN]
  | y :: l => by
    simp only [meet.memN, List.mem_cons]
    cases hb : Nat.beq x y with
    | true => simp [Nat.eq_of_beq_eq_true hb]
    | false =>
      have : x ≠ y := by intro e; subst e; rw [Nat.beq_refl] at hb; cases hb
      simp [this, keepN_mem (l := l)]
theorem meet_false : ∀ {l m : List Nat}, meet l m = false → ∀ i ∈ l, i ∉ m
  | [], m, _, i, hi => by simp at hi
  | x :: l, m, h, i, hi => by
    simp only [meet] at h
    cases hb : meet.memN x m with
    | true => rw [hb] at h; cases h
    | false =>
      rw [hb] at h
      rcases List.mem_cons.1 hi with rfl | hi
      · intro hm; rw [keepN_mem.2 hm] at hb; cases hb
      · exact meet_false h i hi

structure Apart (f g : FP) : Prop where
  fa : f.all = false
  ga : g.all = false
  t1 : ∀ i ∈ f.wt, i ∉ g.t
  t2 : ∀ i ∈ g.wt, i ∉ f.t
  b1 : ∀ i ∈ f.wb, i ∉ g.b
  b2 : ∀ i ∈ g.wb, i ∉ f.b

theorem apart_spec {f g : FP} (h : f.apart g = true) : Apart f g := by
  simp only [FP.apart, Bool.not_eq_true', Bool.or_eq_false_iff] at h
  obtain ⟨⟨⟨⟨⟨h1, h2⟩, h3⟩, h4⟩, h5⟩, h6⟩ := h
  exact ⟨h1, h2, meet_false h3, meet_false h4, meet_false h5, meet_false h6⟩

/-- What is turned is looked at. -/
theorem fp_sub (o : SOp) (h : (o.fp σ g).all = false) : (∀ i ∈ (o.fp σ g).wt, i ∈ (o.fp σ g).t) ∧ ∀ i ∈ (o.fp σ g).wb, i ∈ (o.fp σ g).b := by
  cases o with
  | ixw d sz x i =>
    simp only [SOp.fp] at h ⊢
    split at h
    · rename_i l hl; simp
    · simp [fpAll] at h
  | take d x => simp only [SOp.fp] at h ⊢; cases hw : wr (σ.rt x) <;> simp [fpAll]
  | loadt d x =>
    simp only [SOp.fp] at h ⊢
    split
    · rename_i k o _; cases hw : wr (σ.rb k o) <;> simp [fpAll]
    · simp [fpAll]
  | store sz p x esc => simp only [SOp.fp] at h ⊢; split <;> simp [fpAll]
  | stores p x =>
    simp only [SOp.fp] at h ⊢
    split
    · cases hw : wr (σ.rt x) <;> simp [fpAll]
    · simp [fpAll]
  | app d sz bytes x y str w =>
    cases x with
    | k v => simp [SOp.fp, fpD]
    | t i => simp only [SOp.fp] at h ⊢; cases hw : wr (σ.rt i) <;> simp [fpAll]
  | call d f args esc fresh => cases fresh <;> simp [SOp.fp]
  | calld d x args esc => simp only [SOp.fp] at h ⊢; split <;> simp [fpAll]
  | del d sz bytes x i j => simp [SOp.fp, fpAll]
  | _ => simp [SOp.fp, fpD]

/-- Operations with what they touch, one after the other. -/
def Runs (C : Orc) : St → List (GOp × FP) → St → Prop
  | σ, [], σ' => σ = σ'
  | σ, (o, f) :: r, σ' => o.op.fp σ o.guard = f ∧ ∃ σ1, step C o.guard o.op σ some = some σ1 ∧ Runs C σ1 r σ'

theorem frame {o : GOp} {f : FP} (hf : o.op.fp σ o.guard = f) (hall : f.all = false) (h : step C o.guard o.op σ some = some σ1) : σ1 = patch f σ σ1 := by
  subst hf
  have := (local_op o.op hall σ1 h σ (fun i _ => ⟨rfl, rfl, rfl, rfl⟩) (fun i _ => ⟨rfl, rfl⟩)).2
  rw [h] at this
  injection this

theorem frame_t {f : FP} (h : σ1 = patch f σ σ1) {i : Nat} (hi : i ∉ f.wt) : σ1.t i = σ.t i ∧ σ1.p i = σ.p i ∧ σ1.dep i = σ.dep i ∧ σ1.rt i = σ.rt i := by
  rw [h]; simp [patch, hi]
theorem frame_b {f : FP} (h : σ1 = patch f σ σ1) {k : Nat} (hk : k ∉ f.wb) : σ1.b k = σ.b k ∧ σ1.rb k = σ.rb k := by
  rw [h]; simp [patch, hk]

theorem runs_swap {x y : GOp × FP} {r : List (GOp × FP)} (h : Runs C σ (x :: y :: r) σ') (ha : Apart x.2 y.2) : Runs C σ (y :: x :: r) σ' := by
  obtain ⟨x, f⟩ := x
  obtain ⟨y, k⟩ := y
  obtain ⟨hfx, σ1, h1, hfy, σ12, h12, h⟩ := h
  simp only at ha
  have s1 := fp_sub (σ := σ) (g := x.guard) x.op (by rw [hfx]; exact ha.fa)
  have s2 := fp_sub (σ := σ1) (g := y.guard) y.op (by rw [hfy]; exact ha.ga)
  rw [hfx] at s1
  rw [hfy] at s2
  have f1 := frame hfx ha.fa h1
  have f12 := frame hfy ha.ga h12
  have l2 := local_op (C := C) (σ := σ1) (g := y.guard) y.op (by rw [hfy]; exact ha.ga) σ12 h12 σ
    (fun i hi => by
      rw [hfy] at hi
      obtain ⟨a1, a2, a3, a4⟩ := frame_t f1 (fun hm => ha.t1 i hm hi)
      exact ⟨a1.symm, a2.symm, a3.symm, a4.symm⟩)
    (fun i hi => by
      rw [hfy] at hi
      obtain ⟨a1, a2⟩ := frame_b f1 (fun hm => ha.b1 i hm hi)
      exact ⟨a1.symm, a2.symm⟩)
  rw [hfy] at l2
  have l1 := local_op (C := C) (σ := σ) (g := x.guard) x.op (by rw [hfx]; exact ha.fa) σ1 h1 (patch k σ σ12)
    (fun i hi => by
      rw [hfx] at hi
      have : i ∉ k.wt := fun hm => ha.t2 i hm hi
      simp [patch, this])
    (fun i hi => by
      rw [hfx] at hi
      have : i ∉ k.wb := fun hm => ha.b2 i hm hi
      simp [patch, this])
  rw [hfx] at l1
  have e : patch f (patch k σ σ12) σ1 = σ12 := by
    have keyt : ∀ i, (i ∈ f.wt → σ1.t i = σ12.t i ∧ σ1.p i = σ12.p i ∧ σ1.dep i = σ12.dep i ∧ σ1.rt i = σ12.rt i) ∧
        (i ∉ f.wt → i ∉ k.wt → σ.t i = σ12.t i ∧ σ.p i = σ12.p i ∧ σ.dep i = σ12.dep i ∧ σ.rt i = σ12.rt i) := by
      intro i
      refine ⟨fun hi => ?_, fun hi hk => ?_⟩
      · obtain ⟨a1, a2, a3, a4⟩ := frame_t f12 (fun hm => ha.t1 i hi (s2.1 i hm))
        exact ⟨a1.symm, a2.symm, a3.symm, a4.symm⟩
      · obtain ⟨a1, a2, a3, a4⟩ := frame_t f12 hk
        obtain ⟨b1, b2, b3, b4⟩ := frame_t f1 hi
        exact ⟨by rw [a1, b1], by rw [a2, b2], by rw [a3, b3], by rw [a4, b4]⟩
    have keyb : ∀ i, (i ∈ f.wb → σ1.b i = σ12.b i ∧ σ1.rb i = σ12.rb i) ∧ (i ∉ f.wb → i ∉ k.wb → σ.b i = σ12.b i ∧ σ.rb i = σ12.rb i) := by
      intro i
      refine ⟨fun hi => ?_, fun hi hk => ?_⟩
      · obtain ⟨a1, a2⟩ := frame_b f12 (fun hm => ha.b1 i hi (s2.2 i hm))
        exact ⟨a1.symm, a2.symm⟩
      · obtain ⟨a1, a2⟩ := frame_b f12 hk
        obtain ⟨b1, b2⟩ := frame_b f1 hi
        exact ⟨by rw [a1, b1], by rw [a2, b2]⟩
    apply St.ext' <;> intro i <;> simp only [patch]
    all_goals split
    all_goals rename_i h1
    all_goals first
      | exact ((keyt i).1 h1).1 | exact ((keyt i).1 h1).2.1 | exact ((keyt i).1 h1).2.2.1 | exact ((keyt i).1 h1).2.2.2
      | exact ((keyb i).1 h1).1 | exact ((keyb i).1 h1).2
      | (split
         · rfl
         · rename_i h2
           first
             | exact ((keyt i).2 h1 h2).1 | exact ((keyt i).2 h1 h2).2.1 | exact ((keyt i).2 h1 h2).2.2.1 | exact ((keyt i).2 h1 h2).2.2.2
             | exact ((keyb i).2 h1 h2).1 | exact ((keyb i).2 h1 h2).2)
  rw [e] at l1
  exact ⟨l2.1, _, l2.2, l1.1, _, l1.2, h⟩

theorem runs_front {y : GOp × FP} {r : List (GOp × FP)} : ∀ (l : List (GOp × FP)) {σ : St}, Runs C σ (l ++ y :: r) σ' → (∀ x ∈ l, Apart x.2 y.2) → Runs C σ (y :: (l ++ r)) σ'
  | [], σ, h, _ => h
  | x :: l, σ, h, ha => by
    obtain ⟨x, f⟩ := x
    obtain ⟨h1, σ1, h2, h3⟩ := h
    have := runs_front l h3 (fun x hx => ha x (List.mem_cons_of_mem _ hx))
    exact runs_swap (x := (x, f)) ⟨h1, σ1, h2, this⟩ (ha _ List.mem_cons_self)

theorem runD_runs {R : Type} {u : List (Nat × Nat)} {K : St → Option R} {r : R} : ∀ (l : List GOp) (fs : List FP) (σ : St), runD C u fs l σ K = some r →
    ∃ σ' tr, tr.map (·.1) = l ∧ Runs C σ tr σ' ∧ K σ' = some r ∧ apartAll (fs.reverse ++ tr.map (·.2)) u = true
  | [], fs, σ, h => by
    simp only [runD] at h
    obtain ⟨hc, h⟩ := bif_some h
    exact ⟨σ, [], rfl, rfl, h, by simpa using hc⟩
  | o :: l, fs, σ, h => by
    simp only [runD] at h
    obtain ⟨σ1, h1, h2⟩ := step_some h
    obtain ⟨σ', tr, h3, h4, h5, h6⟩ := runD_runs l _ σ1 h2
    refine ⟨σ', (o, o.op.fp σ o.guard) :: tr, by simp [h3], ⟨rfl, σ1, h1, h4⟩, h5, ?_⟩
    simpa using h6

theorem apartAll_spec {fs : List FP} : ∀ {u : List (Nat × Nat)}, apartAll fs u = true → ∀ i j, (i, j) ∈ u → ∃ f g, fs[i]? = some f ∧ fs[j]? = some g ∧ Apart f g
  | [], _, i, j, h => by simp at h
  | (a, b) :: u, h, i, j, hm => by
    simp only [apartAll] at h
    split at h
    case h_2 => cases h
    rename_i f g h1 h2
    obtain ⟨hc, h⟩ := bif_some' h
    rcases List.mem_cons.1 hm with e | hm
    · injection e with e1 e2
      subst e1; subst e2
      exact ⟨f, g, h1, h2, apart_spec hc⟩
    · exact apartAll_spec h i j hm
where
  bif_some' {c x : Bool} (h : (bif c then x else false) = true) : c = true ∧ x = true := by cases c <;> simp_all

end Go.Ab

namespace Go.Ab
open Go Go.RowKit

variable {P : Program} {E : Ent} {a : Act} {w : World}
variable {C : Orc} {σ σ' σ1 σ2 : St} {A : Ann} {bases : List Nat}

theorem fwd_spec : ∀ (l : List Oper) (i : Nat), fwdL i l = true → ∀ (j : Nat) o, l[j]? = some o → ∀ e ∈ o.after, Region.binds .any e = true → e.on < i + j
  | [], i, _, j, o, ho => by simp at ho
  | x :: l, i, h, j, o, ho => by
    simp only [fwdL, Bool.and_eq_true] at h
    cases j with
    | zero =>
      simp at ho; subst ho
      intro e he hb
      have := List.all_eq_true.1 h.1 e (by simpa using he)
      simpa [hb] using this
    | succ j =>
      intro e he hb
      have := fwd_spec l (i + 1) h.2 j o (by simpa using ho) e he hb
      omega

def befG (acc : Array Nat) (o : Oper) : Nat := o.after.foldl (fun s e => if Region.binds .any e then s ||| 2 ^ e.on ||| acc.getD e.on 0 else s) 0

theorem befG_spec {acc : Array Nat} {o : Oper} {x : Nat} (h : (befG acc o).testBit x = true) : ∃ e ∈ o.after, Region.binds .any e = true ∧ (x = e.on ∨ (acc.getD e.on 0).testBit x = true) := by
  unfold befG at h
  rw [← Array.foldl_toList] at h
  have key : ∀ (l : List Edge) (s : Nat), (l.foldl (fun s e => if Region.binds .any e then s ||| 2 ^ e.on ||| acc.getD e.on 0 else s) s).testBit x = true →
      s.testBit x = true ∨ ∃ e ∈ l, Region.binds .any e = true ∧ (x = e.on ∨ (acc.getD e.on 0).testBit x = true) := by
    intro l
    induction l with
    | nil => intro s h; exact .inl h
    | cons e l ih =>
      intro s h
      simp only [List.foldl_cons] at h
      rcases ih _ h with h | ⟨e', he, h⟩
      · by_cases hb : Region.binds .any e = true
        · rw [if_pos hb] at h
          rw [Nat.testBit_or, Nat.testBit_or, Bool.or_eq_true, Bool.or_eq_true] at h
          rcases h with (h | h) | h
          · exact .inl h
          · rw [Nat.testBit_two_pow] at h
            exact .inr ⟨e, List.mem_cons_self, hb, .inl (by have := of_decide_eq_true h; exact this.symm)⟩
          · exact .inr ⟨e, List.mem_cons_self, hb, .inr h⟩
        · rw [if_neg hb] at h; exact .inl h
      · exact .inr ⟨e', List.mem_cons_of_mem _ he, h⟩
  rcases key _ _ h with h | ⟨e, he, h⟩
  · simp at h
  · exact ⟨e, by simpa using he, h⟩

theorem bef_fold : ∀ (l : List Oper) (acc : Array Nat), (l.foldl (fun acc o => acc.push (befG acc o)) acc).size = acc.size + l.length ∧
    (∀ i, i < acc.size → (l.foldl (fun acc o => acc.push (befG acc o)) acc)[i]? = acc[i]?) ∧
    ∀ (j : Nat) o x, l[j]? = some o → ((l.foldl (fun acc o => acc.push (befG acc o)) acc).getD (acc.size + j) 0).testBit x = true →
      ∃ e ∈ o.after, Region.binds .any e = true ∧ (x = e.on ∨ (e.on < acc.size + j ∧ ((l.foldl (fun acc o => acc.push (befG acc o)) acc).getD e.on 0).testBit x = true))
  | [], acc => ⟨rfl, fun _ _ => rfl, fun j o x h => by simp at h⟩
  | y :: l, acc => by
    obtain ⟨h1, h2, h3⟩ := bef_fold l (acc.push (befG acc y))
    simp only [List.foldl_cons]
    generalize hF : l.foldl (fun acc o => acc.push (befG acc o)) (acc.push (befG acc y)) = F at *
    have hsz : (acc.push (befG acc y)).size = acc.size + 1 := Array.size_push _
    refine ⟨by rw [h1, hsz]; simp; omega, fun i hi => by rw [h2 i (by omega), Array.getElem?_push_lt hi]; simp [hi], ?_⟩
    intro j o x ho hx
    cases j with
    | zero =>
      simp at ho; subst ho
      have e0 : F.getD acc.size 0 = befG acc y := by
        rw [Array.getD_eq_getD_getElem?, h2 acc.size (by omega), Array.getElem?_push_size]; rfl
      rw [Nat.add_zero, e0] at hx
      obtain ⟨e, he, hb, h⟩ := befG_spec hx
      refine ⟨e, he, hb, ?_⟩
      rcases h with h | h
      · exact .inl h
      · right
        have hlt : e.on < acc.size := by
          rcases Nat.lt_or_ge e.on acc.size with h' | h'
          · exact h'
          · rw [Array.getD_eq_getD_getElem?, Array.getElem?_eq_none h'] at h; simp at h
        refine ⟨by omega, ?_⟩
        rw [Array.getD_eq_getD_getElem?, h2 e.on (by omega), Array.getElem?_push_lt hlt]
        rw [Array.getD_eq_getD_getElem?, Array.getElem?_eq_getElem hlt] at h
        exact h
    | succ j =>
      rw [show acc.size + (j + 1) = (acc.push (befG acc y)).size + j by rw [hsz]; omega] at hx ⊢
      exact h3 j o x (by simpa using ho) hx

theorem before_spec {ops : Array Oper} {i x : Nat} {o : Oper} (ho : ops[i]? = some o) (h : ((Region.before ops).getD i 0).testBit x = true) :
    ∃ e ∈ o.after, Region.binds .any e = true ∧ (x = e.on ∨ (e.on < i ∧ ((Region.before ops).getD e.on 0).testBit x = true)) := by
  have e : Region.before ops = ops.toList.foldl (fun acc o => acc.push (befG acc o)) #[] := by
    rw [Array.foldl_toList]; rfl
  have := (bef_fold ops.toList #[]).2.2 i o x (by simpa using ho)
  simp only [Array.size_empty, Nat.zero_add, ← e] at this
  exact this h
theorem before_size (ops : Array Oper) : (Region.before ops).size = ops.size := by
  have e : Region.before ops = ops.toList.foldl (fun acc o => acc.push (befG acc o)) #[] := by
    rw [Array.foldl_toList]; rfl
  rw [e, (bef_fold ops.toList #[]).1]; simp

theorem unord_mem {bl : List Nat} {j b : Nat} : ∀ (n i : Nat), i < n → b.testBit i = false → (i, j) ∈ unord bl j b n
  | 0, i, h, _ => by omega
  | n + 1, i, h, hb => by
    simp only [unord]
    by_cases e : i = n
    · subst e; rw [hb]; simp
    · have := unord_mem (bl := bl) (j := j) n i (by omega) hb
      cases b.testBit n <;> simp [this]
theorem unords_mem {bl : List Nat} : ∀ (l : List Nat) (k i j : Nat) (b : Nat), l[j]? = some b → i < k + j → b.testBit i = false → (i, k + j) ∈ unords bl k l
  | [], k, i, j, b, h, _, _ => by simp at h
  | x :: l, k, i, j, b, h, hi, hb => by
    simp only [unords, List.mem_append]
    cases j with
    | zero => simp at h; subst h; exact .inl (unord_mem _ _ (by omega) hb)
    | succ j =>
      right
      have := unords_mem (bl := bl) l (k + 1) i j b (by simpa using h) (by omega) hb
      rw [show k + (j + 1) = k + 1 + j by omega]; exact this

/-- What is before a thing that is ready is done. -/
theorem closed_before {ops : Array Oper} {listed : Array Bool} (hcl : ∀ (j : Nat) o, ops[j]? = some o → listed.getD j true = true → ∀ e ∈ o.after, Region.binds .any e = true → listed.getD e.on false = true)
    (hsz : listed.size = ops.size) : ∀ (n i : Nat) (o : Oper) (x : Nat), i < n → ops[i]? = some o → (∀ e ∈ o.after, Region.binds .any e = true → listed.getD e.on false = true) →
      ((Region.before ops).getD i 0).testBit x = true → listed.getD x false = true
  | 0, i, o, x, h, _, _, _ => by omega
  | n + 1, i, o, x, hi, ho, hall, hx => by
    obtain ⟨e, he, hb, h⟩ := before_spec ho hx
    rcases h with rfl | ⟨h1, h2⟩
    · exact hall e he hb
    · have hl := hall e he hb
      have hlt : e.on < ops.size := by
        rw [← hsz]
        rcases Nat.lt_or_ge e.on listed.size with h' | h'
        · exact h'
        · rw [Array.getD_eq_getD_getElem?, Array.getElem?_eq_none h'] at hl; simp at hl
      have ho' : ops[e.on]? = some ops[e.on] := Array.getElem?_eq_getElem hlt
      refine closed_before hcl hsz n e.on _ x (by omega) ho' (hcl e.on _ ho' ?_) h2
      rw [Array.getD_eq_getD_getElem?, Array.getElem?_eq_getElem (by omega)] at hl ⊢
      exact hl

theorem slimOps_get {n : Nat} {all : Array Oper} : ∀ {os : List Oper} {l : List GOp}, slimOps P n A all bases os = some l → ∀ (j : Nat) o, os[j]? = some o →
    ∃ s g, slimOp P A bases o = some s ∧ gof all o.guard = some g ∧ l[j]? = some ⟨g, s⟩
  | [], l, h, j, o, ho => by simp at ho
  | x :: os, l, h, j, o, ho => by
    simp only [slimOps, Option.bind_eq_some_iff] at h
    obtain ⟨s, hs, h⟩ := h
    obtain ⟨hc, h⟩ := bif_some h
    simp only [Option.bind_eq_some_iff, Option.map_eq_some_iff] at h
    obtain ⟨g, hg, l', hl', rfl⟩ := h
    cases j with
    | zero => simp at ho; subst ho; exact ⟨s, g, hs, hg, rfl⟩
    | succ j =>
      obtain ⟨s', g', h1, h2, h3⟩ := slimOps_get hl' j o (by simpa using ho)
      exact ⟨s', g', h1, h2, by simpa using h3⟩

theorem slimOps_len {n : Nat} {all : Array Oper} : ∀ {os : List Oper} {l : List GOp}, slimOps P n A all bases os = some l → l.length = os.length
  | [], l, h => by simp [slimOps] at h; subst h; rfl
  | x :: os, l, h => by
    simp only [slimOps, Option.bind_eq_some_iff] at h
    obtain ⟨s, hs, h⟩ := h
    obtain ⟨hc, h⟩ := bif_some h
    simp only [Option.bind_eq_some_iff, Option.map_eq_some_iff] at h
    obtain ⟨g, hg, l', hl', rfl⟩ := h
    simp [slimOps_len hl']

theorem draw_ok (hC : Sound P C) (hL : LibOK P) (hm : P.follows .mixedOrders = true) (h6 : E.T ≤ 1000000) {R : Type} {id : Nat} {ops : Array Oper} {l : List GOp} {K : St → Option R} {r : R} {Q : Exit → Act → World → Prop}
    (hfw : fwdL 0 ops.toList = true) (hl : slimOps P E.T A ops bases ops.toList = some l) (hr : runD C (unords (Region.before ops).toList 0 (Region.before ops).toList) [] l σ K = some r) (h : RelE E w a σ)
    (hK : ∀ σ' a' w', RelE E w' a' σ' → K σ' = some r → Q .normal a' w') : (Code.region id ops true).wp P Q a w := by
  refine wp_region_any hm ?_
  have hall : ∀ (j : Nat) d, (ops[j]?).bind (·.dst) = some d → d < E.T := fun j d hd => slimOps_dst hl j d (by simpa using hd)
  obtain ⟨σ', tr, htr, hrun, hk, hap⟩ := runD_runs _ _ _ hr
  simp only [List.reverse_nil, List.nil_append] at hap
  have htl : tr.length = ops.size := by
    have := congrArg List.length htr
    rw [List.length_map, slimOps_len hl] at this
    simpa using this
  let F : Nat → GOp × FP := fun i => tr.getD i (⟨none, .take 0 0⟩, fpAll)
  have hF : ∀ i, i < ops.size → tr[i]? = some (F i) := fun i hi => by
    have : tr[i]? = some (tr[i]'(by omega)) := List.getElem?_eq_getElem _
    simp only [F, List.getD_eq_getElem?_getD, this, Option.getD_some]
  have hFo : ∀ i o, ops[i]? = some o → ∃ s g, slimOp P A bases o = some s ∧ gof ops o.guard = some g ∧ (F i).1 = ⟨g, s⟩ := by
    intro i o ho
    obtain ⟨s, g, h1, h2, h3⟩ := slimOps_get hl i o (by simpa using ho)
    have hi : i < ops.size := (Array.getElem?_eq_some_iff.1 ho).1
    rw [← htr, List.getElem?_map, hF i hi] at h3
    simp at h3
    exact ⟨s, g, h1, h2, h3⟩
  have hapart : ∀ x i, x < i → i < ops.size → ((Region.before ops).getD i 0).testBit x = false → Apart (F x).2 (F i).2 := by
    intro x i hx hi hb
    have hbi : (Region.before ops).toList[i]? = some ((Region.before ops).getD i 0) := by
      rw [Array.getElem?_toList, Array.getD_eq_getD_getElem?, Array.getElem?_eq_getElem (by rw [before_size]; exact hi)]; rfl
    have hmem := unords_mem (bl := (Region.before ops).toList) _ 0 x i _ hbi (by omega) hb
    rw [Nat.zero_add] at hmem
    obtain ⟨f, g, h1, h2, h3⟩ := apartAll_spec hap x i hmem
    rw [List.getElem?_map, hF x (by omega)] at h1
    rw [List.getElem?_map, hF i hi] at h2
    simp at h1 h2
    rw [h1, h2]; exact h3
  have key : ∀ (fuel : Nat) (listed : Array Bool) (rem : List Nat) (σ : St) (a : Act) (w : World), rem.Pairwise (· < ·) → (∀ j, j ∈ rem ↔ (j < ops.size ∧ listed.getD j true = false)) → Runs C σ (rem.map F) σ' → RelE E w a σ →
      (∀ (j : Nat) o, ops[j]? = some o → listed.getD j true = true → ∀ e ∈ o.after, Region.binds .any e = true → listed.getD e.on false = true) → listed.size = ops.size → rem.length ≤ fuel →
      wpAny P .any ops Q fuel listed a w := by
    intro fuel
    induction fuel with
    | zero =>
      intro listed rem σ a w _ hmem hruns hrel _ _ hlen
      have : rem = [] := List.length_eq_zero_iff.1 (by omega)
      subst this
      refine ⟨?_, ?_⟩
      · cases hrd : Region.ready .any ops listed with
        | nil => rfl
        | cons j js =>
          exfalso
          have hj : j ∈ Region.ready .any ops listed := by rw [hrd]; exact List.mem_cons_self
          obtain ⟨h0, o, ho, _⟩ := mem_ready.1 hj
          have := (hmem j).2 ⟨(Array.getElem?_eq_some_iff.1 ho).1, h0⟩
          simp at this
      · simp only [List.map_nil, Runs] at hruns
        subst hruns
        exact hK _ _ _ hrel hk
    | succ fuel ih =>
      intro listed rem σ a w hpw hmem hruns hrel hcl hsz hlen
      refine ⟨?_, ?_⟩
      · intro hrd
        cases rem with
        | nil =>
          simp only [List.map_nil, Runs] at hruns
          subst hruns
          exact hK _ _ _ hrel hk
        | cons i rem =>
          exfalso
          obtain ⟨hi, h0⟩ := (hmem i).1 List.mem_cons_self
          have : i ∈ Region.ready .any ops listed := by
            refine mem_ready.2 ⟨h0, _, Array.getElem?_eq_getElem hi, ?_⟩
            intro e he hb
            have hlt := fwd_spec ops.toList 0 hfw i _ (by simp [hi]) e he hb
            rw [Nat.zero_add] at hlt
            cases hle : listed.getD e.on true with
            | true =>
              rw [Array.getD_eq_getD_getElem?, Array.getElem?_eq_getElem (by omega)] at hle ⊢
              exact hle
            | false =>
              have := (hmem e.on).2 ⟨by omega, hle⟩
              rcases List.mem_cons.1 this with e1 | e1
              · omega
              · have := (List.pairwise_cons.1 hpw).1 _ e1; omega
          rw [hrd] at this; simp at this
      · intro i hi
        obtain ⟨h0, o, ho, hpre⟩ := mem_ready.1 hi
        have hisz : i < ops.size := (Array.getElem?_eq_some_iff.1 ho).1
        have hir := (hmem i).2 ⟨hisz, h0⟩
        obtain ⟨l1, l2, hsplit⟩ := List.append_of_mem hir
        subst hsplit
        have hx : ∀ x ∈ l1, x < i := fun x hx => by
          rw [List.pairwise_append] at hpw
          exact hpw.2.2 x hx i List.mem_cons_self
        have hruns2 : Runs C σ (F i :: (l1 ++ l2).map F) σ' := by
          rw [List.map_append, List.map_cons] at hruns
          rw [List.map_append]
          refine runs_front (l1.map F) hruns ?_
          intro y hy
          obtain ⟨x, hxm, rfl⟩ := List.mem_map.1 hy
          refine hapart x i (hx x hxm) hisz ?_
          cases hb : ((Region.before ops).getD i 0).testBit x with
          | false => rfl
          | true =>
            exfalso
            have h1 := closed_before hcl hsz (i + 1) i o x (by omega) ho hpre hb
            have h2 := ((hmem x).1 (by simp [hxm])).2
            have hlx : x < listed.size := by have := hx x hxm; omega
            rw [Array.getD_eq_getD_getElem?, Array.getElem?_eq_getElem hlx] at h1 h2
            simp at h1 h2
            rw [h1] at h2; cases h2
        obtain ⟨s, g, hs, hg, hFi⟩ := hFo i o ho
        obtain ⟨σ1, hst, hrest⟩ : ∃ σ1, step C g s σ some = some σ1 ∧ Runs C σ1 ((l1 ++ l2).map F) σ' := by
          have : F i = (⟨g, s⟩, (F i).2) := by rw [← hFi]
          rw [this] at hruns2
          exact hruns2.2
        have hdT : ∀ d, o.dst = some d → d < E.T := fun d hd => hall i d (by rw [ho]; exact hd)
        have next : ∀ a' w', RelE E w' a' σ1 → wpAny P .any ops Q fuel (listed.setIfInBounds i true) a' w' := by
          intro a' w' hrel'
          refine ih (listed.setIfInBounds i true) (l1 ++ l2) σ1 a' w' ?_ ?_ hrest hrel' ?_ (by simp [hsz]) ?_
          · rw [List.pairwise_append] at hpw ⊢
            exact ⟨hpw.1, (List.pairwise_cons.1 hpw.2.1).2, fun x hx y hy => hpw.2.2 x hx y (List.mem_cons_of_mem _ hy)⟩
          · intro j
            by_cases hji : i = j
            · subst hji
              have h1 : (listed.setIfInBounds i true).getD i true = true := by simp [show i < listed.size by omega]
              have hn1 : i ∉ l1 := fun hm => by have := hx i hm; omega
              have hn2 : i ∉ l2 := fun hm => by
                rw [List.pairwise_append] at hpw
                have := (List.pairwise_cons.1 hpw.2.1).1 i hm; omega
              simp [h1, hn1, hn2]
            · rw [getD_set_ne true hji, ← hmem j]
              simp [Ne.symm hji]
          · intro j o' ho' hl' e he hb
            by_cases hji : i = j
            · subst hji
              rw [ho] at ho'; injection ho' with ho'; subst ho'
              exact getD_set_true (hpre e he hb)
            · rw [getD_set_ne true hji] at hl'
              exact getD_set_true (hcl j o' ho' hl' e he hb)
          · simp at hlen ⊢; omega
        obtain ⟨μ, S, hrel⟩ := hrel
        have hw := wanted_iff (ops := ops) hrel hg (fun d ⟨j, hj⟩ => hall j d hj)
        unfold wpOp
        simp only [ho]
        rcases step_guard hst with hgd | hgd
        · rw [if_pos (hw.1 hgd)]
          exact .inl (ok_op hC hL h6 hrel hs hdT hst hgd _ _ next)
        · rw [if_neg (by rw [hw.2 hgd]; simp)]
          exact next _ _ (skip_op hrel hs hdT hst hgd)
  refine key ops.size _ (List.range ops.size) σ a { w with drawn := w.drawn + 1 } List.pairwise_lt_range ?_ ?_ ?_ ?_ (by simp) (by simp)
  · intro j
    simp only [List.mem_range, Array.getD_eq_getD_getElem?, Array.getElem?_replicate]
    constructor
    · intro hj; simp [hj]
    · exact fun hj => hj.1
  · have : (List.range ops.size).map F = tr := by
      apply List.ext_getElem?
      intro i
      rw [List.getElem?_map]
      by_cases hi : i < ops.size
      · rw [List.getElem?_range hi, Option.map_some, hF i hi]
      · rw [List.getElem?_eq_none (by simp; omega), List.getElem?_eq_none (by omega)]; rfl
    rw [this]; exact hrun
  · obtain ⟨μ, S, hrel⟩ := h
    exact ⟨μ, S, hrel.world (old_drew w)⟩
  · intro j o ho hl'
    have hj := (Array.getElem?_eq_some_iff.1 ho).1
    rw [Array.getD_eq_getD_getElem?, Array.getElem?_replicate, if_pos hj] at hl'
    cases hl'

end Go.Ab

namespace Go.Ab
open Go Go.RowKit

variable {P : Program} {E : Ent} {μ : Nat → Nat} {S : Cells} {w : World} {a : Act} {σ : St}

/-- Less is known of a value; an empty slice may become one that has rights. -/
def Les (x y : AV) : Prop := y = .dead ∨ y = x ∨ (∃ c, x = .sl true c [] ∧ y = .sl false c [])

theorem rvx_empty {T T' : Cells} {v : Value} {f f' : Bool} {c0 c1 : EC} (h : RVx w S T v (.sl f c0 [])) (hf : f' = true → f = true) {S' : Cells} : RVx w S' T' v (.sl f' c1 []) := by
  obtain ⟨x, n, c, sz, ad, U, hs⟩ := h
  exact ⟨x, n, c, sz, ad, U, ⟨hs.hv, hs.hn, hs.hc, fun e => hs.hf (hf e), hs.hsz, fun i r hi => by simp at hi, fun e => absurd rfl e, hs.hs, hs.h0, fun i r j x hi => by simp at hi, fun i r j x hi => by simp at hi, fun i r j x hi => by simp at hi, fun i r j x hi => by simp at hi⟩⟩

theorem rvx_les {T T' S' : Cells} {v : Value} {x y : AV} (h : RVx w S T v x) (hl : Les x y) (hS : ∀ b o, S b o → S' b o) (hT : (y = x → x ≠ .dead → (∀ f c, x ≠ .sl f c []) → ∀ b o, T b o → T' b o)) : RVx w S' T' v y := by
  have gS : Grow w S w S' := fun b o hb => ⟨hS b o hb, rfl⟩
  rcases hl with rfl | rfl | ⟨c0, rfl, rfl⟩
  · exact RV.dead _
  · cases y with
    | dead => exact RV.dead _
    | sl f ec rows =>
      cases rows with
      | nil => exact rvx_empty h (fun e => e)
      | cons r rows => exact h.grow gS (fun b o hb => ⟨hT rfl (by simp) (fun f c e => by injection e with _ e1 e2; subst e1; cases eq_of_heq e2) b o hb, rfl⟩)
    | _ => exact RV.grow gS h
  · exact rvx_empty h (fun e => by cases e)

/-- Rights are given up, and the blocks of what could be written become stable; empty slices get rights. -/
theorem Rel.regrade (h : Rel E μ S w a σ) {σ' : St}
    (ht : ∀ i, Les (σ.t i) (σ'.t i) ∧ (σ.dep i ≠ none → σ'.t i = .dead))
    (hp : ∀ i, σ'.p i = .no ∨ (σ'.p i = σ.p i ∧ σ.dep i = none ∧ ∀ T cv cz v, RP w S μ (fun k => σ.b k ≠ none) T cv cz v (σ.p i) → RP w S μ (fun k => σ'.b k ≠ none) T cv cz v (σ.p i)))
    (hd : ∀ i, σ'.dep i = none)
    (hg : ∀ l, σ'.grade l = 0 ∨ σ'.grade l = σ.grade l ∨ ∃ c, σ.at l = .sl true c [])
    (hb : ∀ k cs', σ'.b k = some cs' → ∃ cs, σ.b k = some cs ∧ cs'.length = cs.length ∧ ∀ (o : Nat) x, cs'[o]? = some x → ∃ y, cs[o]? = some y ∧ Les y x)
    (hgb : ∀ k o, σ'.rb k o ≠ 0 → σ'.b k ≠ none) :
    Rel E μ (fun b o => S b o ∨ ∃ l, wr (σ.grade l) = true ∧ σ'.grade l = 0 ∧ blockOf (cvl μ w a l) = some b) w a σ' := by
  have hbn : ∀ k, σ'.b k ≠ none → σ.b k ≠ none := by
    intro k hk
    obtain ⟨cs', e⟩ := Option.ne_none_iff_exists'.1 hk
    obtain ⟨cs, e', _⟩ := hb k cs' e
    rw [e']; simp
  have hat : ∀ l f ec rows, σ'.at l = .sl f ec rows → σ.at l = .sl f ec rows ∨ (σ.at l = .sl true ec [] ∧ rows = []) := by
    intro l f ec rows he
    have fin : ∀ x, Les x (.sl f ec rows) → x = .sl f ec rows ∨ (x = .sl true ec [] ∧ rows = []) := by
      intro x hl
      rcases hl with e | e | ⟨c, e1, e2⟩
      · cases e
      · exact .inl e.symm
      · injection e2 with _ e3 e2; subst e3; exact .inr ⟨e1, eq_of_heq e2⟩
    cases l with
    | tmp i =>
      simp only [St.at] at he ⊢
      have := (ht i).1
      rw [he] at this
      exact fin _ this
    | cell k o =>
      obtain ⟨cs', h1, h2⟩ := at_cell he
      obtain ⟨cs, h3, _, h4⟩ := hb k cs' h1
      obtain ⟨y, h5, h6⟩ := h4 o _ h2
      rcases fin y h6 with e | ⟨e, e'⟩
      · left; simp [St.at, h3, h5, e]
      · right; exact ⟨by simp [St.at, h3, h5, e], e'⟩
  -- what a place with an empty full slice holds
  have hemp : ∀ l c, σ.at l = .sl true c [] → ∃ x, cvl μ w a l = .slice x 0 0 := by
    intro l c0 hl
    obtain ⟨T, x, n, c, sz, ad, U, hs⟩ := h.atSl hl
    have hn := hs.hn
    simp at hn
    have hc := hs.hf rfl
    subst hn
    rw [hc] at hs
    exact ⟨x, hs.hv⟩
  have bl : ∀ l b, wr (σ.grade l) = true → blockOf (cvl μ w a l) = some b → owning σ (cvl μ w a) l b := by
    intro l b hl hbl
    obtain ⟨x, n, c, e, _⟩ := h.own l (wr_ne hl)
    have e' := e
    rw [e] at hbl
    obtain ⟨ad, rfl, h1, h2⟩ := blockOf_some hbl
    exact ⟨wr_ne hl, ad, n, c, e', h1, .inr ⟨hl, h2⟩⟩
  have own' : ∀ l b, owning σ' (cvl μ w a) l b → owning σ (cvl μ w a) l b ∧ σ'.grade l = σ.grade l := by
    intro l b ⟨p1, ad, n, c, p2, p3, p4⟩
    rcases hg l with g | g | ⟨cg, g⟩
    · exact absurd g p1
    · rw [g] at p1 p4; exact ⟨⟨p1, ad, n, c, p2, p3, p4⟩, g⟩
    · obtain ⟨x, e⟩ := hemp l cg g
      rw [e] at p2
      injection p2 with _ e2 e3
      subst e2; subst e3
      omega
  have hS : ∀ b o, S b o → (fun b (o : Nat) => S b o ∨ ∃ l, wr (σ.grade l) = true ∧ σ'.grade l = 0 ∧ blockOf (cvl μ w a l) = some b) b o := fun b o hb => .inl hb
  have gS : Grow w S w (fun b (o : Nat) => S b o ∨ ∃ l, wr (σ.grade l) = true ∧ σ'.grade l = 0 ∧ blockOf (cvl μ w a l) = some b) := fun b o hb => ⟨hS b o hb, rfl⟩
  -- a place's own block, then and now
  have key : ∀ l b, wr (σ.grade l) = true → (∀ f c, σ.at l ≠ .sl f c []) → blockOf (cvl μ w a l) = some b → (∃ l', wr (σ.grade l') = true ∧ σ'.grade l' = 0 ∧ blockOf (cvl μ w a l') = some b) ∨ (σ'.grade l = σ.grade l) := by
    intro l b hl hne hbl
    rcases hg l with g | g | ⟨cg, g⟩
    · exact .inl ⟨l, hl, g, hbl⟩
    · exact .inr g
    · exact absurd g (hne _ _)
  refine ⟨h.keep, h.hd, h.hT, ?_, ?_, ?_, ?_, ?_, ?_, ?_, fun b o hb => .inl (h.s0 b o hb), ?_, h.hν, ?_, ?_, ?_, ?_, hgb, ?_⟩
  · intro i
    obtain ⟨h1, h2⟩ := ht i
    refine rvx_les (h.t i) h1 hS (fun e hnd hne b o hT => ?_)
    rcases hT with hT | hT
    · exact .inl (.inl hT)
    · have hdi : σ.dep i = none := by
        cases hdd : σ.dep i with
        | none => rfl
        | some l => have := h2 (by rw [hdd]; simp); rw [e] at this; exact absurd this hnd
      simp only [tieB, St.tie, hdi] at hT
      cases hwr : wr (σ.rt i) with
      | false => rw [hwr] at hT; cases hT
      | true =>
        rw [hwr] at hT
        have hT : blockOf (cvl μ w a (.tmp i)) = some b := hT
        rcases key (.tmp i) b hwr hne hT with h3 | h3
        · exact .inl (.inr h3)
        · right
          have h3 : σ'.rt i = σ.rt i := h3
          simp only [tieB, St.tie, h3, hwr, cond_true, Option.bind_some]
          exact hT
  · intro i
    rcases hp i with e | ⟨e, hdi, hl⟩
    · rw [e]; exact .no _
    · have h1 := hl _ _ _ _ (h.p i)
      rw [e]
      have nowel : ∀ l, (σ.p i).welOf ≠ some l := fun l hw => by rw [h.pw i l hw] at hdi; cases hdi
      cases hwr : wr (σ.rt i) with
      | true =>
        obtain ⟨x, n, c, e2⟩ := h.wrSlice (l := .tmp i) (wr_ne hwr)
        exact RP.grow (T := fun _ _ => False) gS (fun _ _ hb => hb.elim) (fun k hk => ⟨hk, rfl⟩) (fun l hw => absurd hw (nowel l)) (rp_slice (cv' := cvl μ w a) (cz' := σ.cz) (T' := fun _ _ => False) h1 e2 (fun k => σ'.b k ≠ none))
      | false =>
        refine RP.grow gS (fun b o hb => ⟨?_, rfl⟩) (fun k hk => ⟨hk, rfl⟩) (fun l hw => absurd hw (nowel l)) h1
        rcases hb with hb | hb
        · exact .inl (.inl hb)
        · simp only [tieB, St.tie, hwr, hdi] at hb; cases hb
  · intro k cs' hk
    obtain ⟨cs, h1, h2, _⟩ := hb k cs' hk
    obtain ⟨c, e, h3, h4, h5⟩ := h.b k cs h1
    exact ⟨c, e, h3, by rw [h2]; exact h4, h5⟩
  · intro k cs' o x hk ho
    obtain ⟨cs, h1, h2, h3⟩ := hb k cs' hk
    obtain ⟨y, h4, h5⟩ := h3 o x ho
    refine rvx_les (h.c k cs o y h1 h4) h5 hS (fun e hnd hne b o' hT => ?_)
    rcases hT with hT | hT
    · exact .inl (.inl hT)
    · simp only [cellB] at hT
      cases hwr : wr (σ.rb k o) with
      | false => rw [hwr] at hT; cases hT
      | true =>
        rw [hwr] at hT
        have hT : blockOf (cvl μ w a (.cell k o)) = some b := hT
        rcases key (.cell k o) b hwr (fun f c => by simp only [St.at, h1, Option.bind_some, h4, Option.getD_some]; exact hne f c) hT with h6 | h6
        · exact .inl (.inr h6)
        · right
          have h6 : σ'.rb k o = σ.rb k o := h6
          simp only [cellB, h6, hwr, cond_true]
          exact hT
  · intro k k' hk hk'; exact h.inj k k' (hbn k hk) (hbn k' hk')
  · intro k hk; exact h.mine k (hbn k hk)
  · intro b o hb'
    rcases hb' with hb' | ⟨l, h1, _, h3⟩
    · exact ⟨(h.st b o hb').1, fun k hk => (h.st b o hb').2 k (hbn k hk)⟩
    · obtain ⟨h4, _, h5⟩ := h.owning_lt (bl l b h1 h3)
      exact ⟨h4, fun k hk => h5 k (hbn k hk)⟩
  · intro b o hb'
    rcases hb' with hb' | ⟨l, h1, _, h3⟩
    · exact h.s1 b o hb'
    · exact .inr (h.owning_lt (bl l b h1 h3)).2.1
  · intro l hl
    rcases hg l with g | g | ⟨cg, g⟩
    · exact absurd g hl
    · obtain ⟨x, n, c, e, h1, h1', h2⟩ := h.own l (by rw [← g]; exact hl)
      refine ⟨x, n, c, e, ?_, ?_, ?_⟩
      · intro f ec rows r hr1 hr2
        simp only [St.cz, g]
        rcases hat l f ec rows hr1 with h3 | ⟨_, h3⟩
        · exact h1 f ec rows r h3 hr2
        · subst h3; simp at hr2
      · intro f ec rows hr1
        rcases hat l f ec rows hr1 with h3 | ⟨h3, h4⟩
        · exact h1' f ec rows h3
        · subst h4; exact h1' _ _ _ h3
      · intro ad had hown
        rw [g] at hown ⊢
        simp only [St.cz, g]
        obtain ⟨a1, a2, a3, a4, a5⟩ := h2 ad had hown
        refine ⟨a1, a2, a3, fun o ho => ?_, fun k hk => a5 k (hbn k hk)⟩
        rcases ho with ho | ⟨l', h3, h4, h5⟩
        · exact a4 o ho
        · exfalso
          have := h.dist l' l ad.block (bl l' _ h3 h5) ⟨by rw [← g]; exact hl, ad, n, c, by rw [e, had], rfl, hown⟩
          subst this
          exact hl h4
    · obtain ⟨x, e⟩ := hemp l cg g
      refine ⟨x, 0, 0, e, ?_, ?_, ?_⟩
      · intro f ec rows r hr1 hr2
        rcases hat l f ec rows hr1 with h3 | ⟨_, h3⟩
        · rw [g] at h3; injection h3 with _ h4 h3; subst h4; have h3 := eq_of_heq h3; subst h3; simp at hr2
        · subst h3; simp at hr2
      · intro f ec rows hr1
        rcases hat l f ec rows hr1 with h3 | ⟨_, h3⟩
        · rw [g] at h3; injection h3 with _ h4 h3; subst h4; have h3 := eq_of_heq h3; subst h3; rfl
        · subst h3; rfl
      · intro ad had hown; omega
  · intro l l' b o1 o2
    exact h.dist l l' b (own' l b o1).1 (own' l' b o2).1
  · intro i l hi; rw [hd i] at hi; cases hi
  · intro i l hi
    rcases hp i with e | ⟨e, hdi, _⟩
    · rw [e] at hi; simp [PV.welOf] at hi
    · rw [e] at hi; rw [h.pw i l hi] at hdi; cases hdi
  · intro i l f ec rows _ h2; rw [hd i] at h2; cases h2

end Go.Ab

namespace Go.Ab
open Go Go.RowKit

variable {P : Program} {E : Ent} {μ : Nat → Nat} {S : Cells} {w : World} {a : Act} {σ : St}

theorem setGrade_at (σ : St) (l l' : Loc) (g : Nat) : (σ.setGrade l g).at l' = σ.at l' := by
  cases l <;> cases l' <;> rfl
theorem setGrade_grade' (σ : St) (l l' : Loc) (g : Nat) : (σ.setGrade l g).grade l' = if l' = l then g else σ.grade l' := by
  cases l with
  | tmp i =>
    cases l' with
    | tmp j => simp only [St.setGrade, St.grade, upd_eq, Loc.tmp.injEq]
    | cell => simp [St.setGrade, St.grade]
  | cell k o =>
    cases l' with
    | tmp j => simp [St.setGrade, St.grade]
    | cell j i =>
      simp only [St.setGrade, St.grade, upd_eq, Loc.cell.injEq]
      by_cases e : j = k
      · subst e; simp [upd_eq]
      · simp [e]

/-- Behind a slice that fills its room nobody writes: one may append to it. -/
theorem Rel.lend (h : Rel E μ S w a σ) {l : Loc} {g : Nat} {c : EC} {rows : List c.den} (h0 : σ.grade l = 0) (hat : σ.at l = .sl true c rows) (hg : wr g = false) (hc : csz c = szg g) :
    Rel E μ S w a (σ.setGrade l g) := by
  have ht : (σ.setGrade l g).t = σ.t := by cases l <;> rfl
  have hp : (σ.setGrade l g).p = σ.p := by cases l <;> rfl
  have hd : (σ.setGrade l g).dep = σ.dep := by cases l <;> rfl
  have hb : (σ.setGrade l g).b = σ.b := by cases l <;> rfl
  have hwr : ∀ l', wr ((σ.setGrade l g).grade l') = wr (σ.grade l') := by
    intro l'
    rw [setGrade_grade']
    split
    · rename_i e; subst e; rw [h0, hg, wr_zero]
    · rfl
  have hrt : ∀ i, wr ((σ.setGrade l g).rt i) = wr (σ.rt i) := fun i => hwr (.tmp i)
  have hrb : ∀ k o, wr ((σ.setGrade l g).rb k o) = wr (σ.rb k o) := fun k o => hwr (.cell k o)
  have htie : ∀ i, tieB (σ.setGrade l g) (cvl μ w a) i = tieB σ (cvl μ w a) i := by
    intro i; simp only [tieB, St.tie, hrt, hd]
  have hcell : ∀ k o, cellB (σ.setGrade l g) (cvl μ w a) k o = cellB σ (cvl μ w a) k o := by
    intro k o; simp only [cellB, hrb]
  have hne : ∀ l', wr (σ.grade l') = true → l' ≠ l := by
    intro l' h1 e; subst e; rw [h0, wr_zero] at h1; cases h1
  have hgr : ∀ l', l' ≠ l → (σ.setGrade l g).grade l' = σ.grade l' := by
    intro l' e; rw [setGrade_grade', if_neg e]
  have hcz : ∀ l', l' ≠ l → (σ.setGrade l g).cz l' = σ.cz l' := by
    intro l' e; simp only [St.cz, hgr l' e]
  obtain ⟨T, x, n, cp, sz, ad, U, hs⟩ := h.atSl hat
  have hfull := hs.hf rfl
  have hno : ∀ b, ¬ owning (σ.setGrade l g) (cvl μ w a) l b := by
    rintro b ⟨_, ad', n', c', h2, _, h4⟩
    rw [hs.hv] at h2
    injection h2 with _ h5 h6
    rw [hwr, h0, wr_zero] at h4
    rcases h4 with h4 | h4
    · omega
    · cases h4.1
  refine ⟨h.keep, h.hd, h.hT, ?_, ?_, ?_, ?_, ?_, ?_, ?_, h.s0, h.s1, h.hν, ?_, ?_, ?_, ?_, ?_, ?_⟩
  · intro i; rw [htie, ht]; exact h.t i
  · intro i
    rw [htie, hp, hb]
    refine RP.grow (Grow.refl _ _) (Grow.refl _ _) (fun j hj => ⟨hj, rfl⟩) (fun l' hl' ad n c hc => ⟨⟨n, c, hc⟩, ?_⟩) (h.p i)
    exact hcz l' (hne l' (h.dw i l' (h.pw i l' hl')))
  · rw [hb]; exact h.b
  · intro k cs o x hk ho
    rw [hb] at hk
    rw [hcell]; exact h.c k cs o x hk ho
  · rw [hb]; exact h.inj
  · rw [hb]; exact h.mine
  · rw [hb]; exact h.st
  · intro l' hl'
    by_cases e : l' = l
    · subst e
      refine ⟨x, n, cp, hs.hv, ?_, ?_, ?_⟩
      · intro f ec rws r h1 h2
        rw [setGrade_at, hat] at h1
        injection h1 with _ h3 _
        subst h3
        simp only [St.cz]
        rw [setGrade_grade', if_pos rfl]; exact hc
      · intro f ec rws h1
        rw [setGrade_at, hat] at h1
        injection h1 with _ h3 h4
        subst h3
        have h4 := eq_of_heq h4
        subst h4
        have := hs.hn
        simpa using this
      · intro ad' _ h2
        rw [hwr, h0, wr_zero] at h2
        rcases h2 with h2 | h2
        · omega
        · cases h2.1
    · rw [hgr l' e] at hl'
      obtain ⟨x0, n0, c0, e0, h1, h1', h2⟩ := h.own l' hl'
      refine ⟨x0, n0, c0, e0, ?_, ?_, ?_⟩
      · intro f ec rws r h3 h4; rw [setGrade_at] at h3; rw [hcz l' e]; exact h1 f ec rws r h3 h4
      · intro f ec rws h3; rw [setGrade_at] at h3; exact h1' f ec rws h3
      · intro ad' had hown
        rw [hgr l' e] at hown ⊢
        rw [hcz l' e, hb]
        exact h2 ad' had hown
  · intro l1 l2 b o1 o2
    have key : ∀ l', owning (σ.setGrade l g) (cvl μ w a) l' b → owning σ (cvl μ w a) l' b := by
      intro l' o
      by_cases e : l' = l
      · subst e; exact absurd o (hno b)
      · obtain ⟨p1, ad', n', c', p2, p3, p4⟩ := o
        rw [hgr l' e] at p1 p4
        exact ⟨p1, ad', n', c', p2, p3, p4⟩
    exact h.dist l1 l2 b (key l1 o1) (key l2 o2)
  · intro i l' hi; rw [hd] at hi; rw [hwr]; exact h.dw i l' hi
  · intro i l' hi; rw [hp] at hi; rw [hd]; exact h.pw i l' hi
  · intro k o hk
    rw [hb]
    by_cases e : Loc.cell k o = l
    · subst e
      obtain ⟨cs, h1, _⟩ := at_cell hat
      rw [h1]; simp
    · have := hgr (.cell k o) e
      exact h.gb k o (by rw [show σ.rb k o = σ.grade (.cell k o) from rfl, ← this]; exact hk)
  · intro i l' f e rws h1 h2 h3
    rw [hrt] at h1; rw [hd] at h2; rw [ht] at h3
    exact h.eq i l' f e rws h1 h2 h3

theorem lend_ok (h : RelE E w a σ) (l : Loc) (g : Nat) : RelE E w a (lend l g σ) := by
  unfold lend
  split
  case h_2 => exact h
  rename_i c rows hat
  cases hc : Nat.beq (σ.grade l) 0 && (!wr g && Nat.beq (csz c) (szg g)) with
  | false => exact h
  | true =>
    simp only [Bool.and_eq_true] at hc
    obtain ⟨μ, S, h⟩ := h
    exact ⟨μ, S, h.lend (Nat.eq_of_beq_eq_true hc.1) hat (by simpa using hc.2.1) (Nat.eq_of_beq_eq_true hc.2.2)⟩

theorem lends_ok : ∀ (l : List (Loc × Nat)) {σ : St}, RelE E w a σ → RelE E w a (lends l σ)
  | [], _, h => h
  | (l, g) :: r, _, h => lends_ok r (lend_ok h l g)

end Go.Ab

namespace Go.Ab
open Go Go.RowKit

variable {P : Program} {E : Ent} {μ : Nat → Nat} {S : Cells} {w : World} {a : Act} {σ : St}

theorem keep_get {α : Type} (f : Nat → α) (z : α) : ∀ (l : List Nat) (i : Nat), keep f z l i = if i ∈ l then f i else z
  | [], i => by simp [keep]
  | j :: l, i => by
    simp only [keep, upd_eq]
    by_cases e : i = j
    · subst e; simp
    · rw [if_neg e, keep_get f z l i]; simp [e]

theorem memN_iff {x : Nat} : ∀ {l : List Nat}, meet.memN x l = true ↔ x ∈ l
  | [] => by simp [meet.memN]
  | y :: ys => by
    simp only [meet.memN]
    cases hb : Nat.beq x y with
    | true => simp [Nat.eq_of_beq_eq_true hb]
    | false =>
      have : x ≠ y := by intro e; subst e; rw [Nat.beq_refl] at hb; cases hb
      simp [this, memN_iff (l := ys)]

theorem noDep_get : ∀ {l : List Nat}, noDep σ l = true → ∀ i ∈ l, σ.dep i = none
  | [], _, i, hi => by cases hi
  | j :: l, h, i, hi => by
    simp only [noDep] at h
    cases hd : σ.dep j with
    | some x => rw [hd] at h; cases h
    | none =>
      rw [hd] at h
      rcases List.mem_cons.1 hi with e | e
      · subst e; exact hd
      · exact noDep_get h i e

theorem mem_keys (q : PV) : ∀ (acc : List Nat) (x : Nat), x ∈ keys acc q ↔ x ∈ acc ∨ x ∈ keys [] q := by
  refine PV.rec (motive_1 := fun q => ∀ (acc : List Nat) (x : Nat), x ∈ keys acc q ↔ x ∈ acc ∨ x ∈ keys [] q) (motive_2 := fun l => ∀ (acc : List Nat) (x : Nat), x ∈ keysAll acc l ↔ x ∈ acc ∨ x ∈ keysAll [] l) ?_ ?_ ?_ ?_ ?_ ?_ ?_ ?_ ?_ ?_ q
  · intro acc x; simp [keys]
  · intro v acc x; simp [keys]
  · intro k o acc x; simp only [keys, mem_insKey]; simp; constructor <;> (intro h; rcases h with h | h <;> simp [h])
  · intro k o n z j q acc x; simp only [keys, mem_insKey]; simp; constructor <;> (intro h; rcases h with h | h <;> simp [h])
  · intro l i o acc x; simp [keys]
  · intro cs acc x; simp [keys]
  · intro f a c h1 h2 acc x
    simp only [keys]
    rw [h2, h1, h2 (keysAll [] a)]
    constructor
    · rintro ((h | h) | h) <;> simp [h]
    · rintro (h | h | h) <;> simp [h]
  · intro b q ih acc x; simp only [keys]; exact ih acc x
  · intro acc x; simp [keysAll]
  · intro q l h1 h2 acc x
    simp only [keysAll]
    rw [h2, h1, h2 (keys [] q)]
    constructor
    · rintro ((h | h) | h) <;> simp [h]
    · rintro (h | h | h) <;> simp [h]

theorem mem_keysAll : ∀ (l : List PV) (acc : List Nat) (x : Nat), x ∈ keysAll acc l ↔ x ∈ acc ∨ ∃ q ∈ l, x ∈ keys [] q
  | [], acc, x => by simp [keysAll]
  | q :: l, acc, x => by
    simp only [keysAll]
    rw [mem_keysAll l, mem_keys q]
    constructor
    · rintro ((h | h) | ⟨q', h1, h2⟩)
      · exact .inl h
      · exact .inr ⟨q, by simp, h⟩
      · exact .inr ⟨q', by simp [h1], h2⟩
    · rintro (h | ⟨q', h1, h2⟩)
      · exact .inl (.inl h)
      · rcases List.mem_cons.1 h1 with e | e
        · subst e; exact .inl (.inr h2)
        · exact .inr ⟨q', e, h2⟩

/-- Only the blocks that a pointer leads to need to be there. -/
theorem rp_live {T : Cells} {live live' : Nat → Prop} {cv : Loc → Value} {cz : Loc → Nat} {v : Value} {q : PV} (h : RP w S μ live T cv cz v q) (hk : ∀ k, k ∈ keys [] q → live k → live' k) : RP w S μ live' T cv cz v q := by
  induction h with
  | no v => exact .no v
  | val v x h => exact .val v x h
  | ptr k o hl => exact .ptr k o (hk k (by simp [keys, insKey]) hl)
  | arr k o n z j q hl hj => exact .arr k o n z j q (hk k (by simp [keys, insKey]) hl) hj
  | row ad cs U hs hT hcell hQ h1 => exact .row ad cs U hs hT hcell hQ h1
  | wel l i o ad n c h => exact .wel l i o ad n c h
  | fn f a c va vc ha hc ka kc ia ic iha ihc =>
    refine .fn f a c va vc ha hc ka kc (fun j q u hq hu => iha j q u hq hu fun k hkk => hk k ?_) (fun j q u hq hu => ihc j q u hq hu fun k hkk => hk k ?_)
    · simp only [keys]
      rw [mem_keysAll, mem_keysAll]
      exact .inl (.inr ⟨q, List.mem_of_getElem? hq, hkk⟩)
    · simp only [keys]
      rw [mem_keysAll]
      exact .inr ⟨q, List.mem_of_getElem? hq, hkk⟩
  | cnd v b q h ih => exact .cnd v b q fun hb => ih hb (fun k hkk => hk k (by simpa [keys] using hkk))

theorem allIn_get {bs : List Nat} : ∀ {l : List Nat}, ptrKept.allIn bs l = true → ∀ k ∈ l, k ∈ bs
  | [], _, k, hk => by cases hk
  | j :: l, h, k, hk => by
    simp only [ptrKept.allIn, Bool.and_eq_true] at h
    rcases List.mem_cons.1 hk with e | e
    · subst e; exact memN_iff.1 h.1
    · exact allIn_get h.2 k e

theorem ptrKept_get {bs : List Nat} : ∀ {l : List Nat}, ptrKept σ bs l = true → ∀ i ∈ l, ∀ k ∈ keys [] (σ.p i), k ∈ bs
  | [], _, i, hi => by cases hi
  | j :: l, h, i, hi => by
    simp only [ptrKept, Bool.and_eq_true] at h
    rcases List.mem_cons.1 hi with e | e
    · subst e; exact allIn_get h.1
    · exact ptrKept_get h.2 i e

theorem gkept_get {m : Mark} : ∀ {l : List (Loc × Nat)}, gkept m l = true → ∀ k o g, (Loc.cell k o, g) ∈ l → k ∈ m.b
  | [], _, k, o, g, hm => by cases hm
  | (.tmp i, g0) :: l, h, k, o, g, hm => by
    simp only [gkept, Bool.and_eq_true] at h
    rcases List.mem_cons.1 hm with e | e
    · cases e
    · exact gkept_get h.2 k o g e
  | (.cell k0 o0, g0) :: l, h, k, o, g, hm => by
    simp only [gkept, Bool.and_eq_true] at h
    rcases List.mem_cons.1 hm with e | e
    · injection e with e1 _; injection e1 with e1 _; subst e1; exact memN_iff.1 h.1
    · exact gkept_get h.2 k o g e

theorem les_refl (x : AV) : Les x x := .inr (.inl rfl)
theorem les_full {x y : AV} {c : EC} (h : Les x y) (hy : y = .sl true c []) : x = .sl true c [] := by
  rcases h with e | e | ⟨c', e, e'⟩
  · rw [e] at hy; cases hy
  · rw [← e]; exact hy
  · rw [e'] at hy; cases hy
theorem les_step {x y : AV} {c : EC} (h : Les x y) (hy : y = .sl true c []) : Les x (.sl false c []) := .inr (.inr ⟨c, les_full h hy, rfl⟩)

/-- What giving rights does. -/
structure Gave (σ σ2 : St) (l : List (Loc × Nat)) : Prop where
  p : σ2.p = σ.p
  t : ∀ i, Les (σ.t i) (σ2.t i)
  b : ∀ k, (σ2.b k = none ∧ σ.b k = none) ∨ ∃ cs cs', σ.b k = some cs ∧ σ2.b k = some cs' ∧ cs'.length = cs.length ∧ ∀ (o : Nat) x, cs'[o]? = some x → ∃ y, cs[o]? = some y ∧ Les y x
  g : ∀ loc g, (loc, g) ∈ l → g = σ.grade loc ∨ ∃ c, σ.at loc = .sl true c []

theorem les_trans {x y z : AV} (h : Les x y) (k : Les y z) : Les x z := by
  rcases k with rfl | rfl | ⟨c, rfl, rfl⟩
  · exact .inl rfl
  · exact h
  · exact les_step h rfl

theorem setAt_gave {l : Loc} {c : EC} (h : σ.at l = .sl true c []) : Gave σ (σ.setAt l (.sl false c [])) [] := by
  cases l with
  | tmp i =>
    refine ⟨rfl, fun j => ?_, fun k => ?_, fun _ _ hm => by cases hm⟩
    · simp only [St.setAt, upd_eq]
      split
      · rename_i e; subst e; exact .inr (.inr ⟨c, h, rfl⟩)
      · exact les_refl _
    · cases hk : σ.b k with
      | none => exact .inl ⟨hk, rfl⟩
      | some cs => exact .inr ⟨cs, cs, rfl, hk, rfl, fun o x hx => ⟨x, hx, les_refl _⟩⟩
  | cell k o =>
    obtain ⟨cs, h1, h2⟩ := at_cell h
    refine ⟨rfl, fun j => les_refl _, fun j => ?_, fun _ _ hm => by cases hm⟩
    simp only [St.setAt, upd_eq]
    split
    · rename_i e; subst e
      refine .inr ⟨cs, cs.set o (.sl false c []), h1, by rw [h1]; rfl, by simp, fun o' x hx => ?_⟩
      rw [List.getElem?_set] at hx
      split at hx
      · rename_i e; subst e
        split at hx
        · injection hx with hx; exact ⟨_, h2, .inr (.inr ⟨c, rfl, hx.symm⟩)⟩
        · cases hx
      · exact ⟨x, hx, les_refl _⟩
    · cases hj : σ.b j with
      | none => exact .inl ⟨rfl, rfl⟩
      | some cs => exact .inr ⟨cs, cs, rfl, rfl, rfl, fun o x hx => ⟨x, hx, les_refl _⟩⟩

theorem gave_at {σ2 : St} {l : List (Loc × Nat)} (h : Gave σ σ2 l) {loc : Loc} {c : EC} (ha : σ2.at loc = .sl true c []) : σ.at loc = .sl true c [] := by
  cases loc with
  | tmp i => exact les_full (h.t i) ha
  | cell k o =>
    obtain ⟨cs', h1, h2⟩ := at_cell ha
    rcases h.b k with ⟨e, _⟩ | ⟨cs, cs2, h3, h4, _, h5⟩
    · rw [h1] at e; cases e
    · rw [h1] at h4; injection h4 with h4; subst h4
      obtain ⟨y, h6, h7⟩ := h5 o _ h2
      simp [St.at, h3, h6, les_full h7 rfl]

theorem gave_trans {σ2 σ3 : St} {l : List (Loc × Nat)} (h : Gave σ σ2 []) (hg : ∀ loc, σ2.grade loc = σ.grade loc) (k : Gave σ2 σ3 l) : Gave σ σ3 l := by
  refine ⟨k.p.trans h.p, fun i => les_trans (h.t i) (k.t i), fun j => ?_, fun loc g hm => ?_⟩
  · rcases k.b j with ⟨e1, e2⟩ | ⟨cs, cs', h1, h2, h3, h4⟩
    · rcases h.b j with ⟨_, e3⟩ | ⟨cs, cs', _, h2, _⟩
      · exact .inl ⟨e1, e3⟩
      · rw [h2] at e2; cases e2
    · rcases h.b j with ⟨e2, _⟩ | ⟨cs0, cs1, g1, g2, g3, g4⟩
      · rw [h1] at e2; cases e2
      · rw [g2] at h1; injection h1 with h1; subst h1
        refine .inr ⟨cs0, cs', g1, h2, h3.trans g3, fun o x hx => ?_⟩
        obtain ⟨y, h5, h6⟩ := h4 o x hx
        obtain ⟨z, h7, h8⟩ := g4 o y h5
        exact ⟨z, h7, les_trans h8 h6⟩
  · rcases k.g loc g hm with e | e
    · exact .inl (by rw [e, hg])
    · obtain ⟨c, e⟩ := e; exact .inr ⟨c, gave_at h e⟩

theorem give_gave : ∀ {l : List (Loc × Nat)} {σ σ2 : St}, give σ l = some σ2 → Gave σ σ2 l
  | [], σ, σ2, h => by
    simp [give] at h
    subst h
    exact ⟨rfl, fun i => les_refl _, fun k => by
      cases hk : σ.b k with
      | none => exact .inl ⟨rfl, rfl⟩
      | some cs => exact .inr ⟨cs, cs, rfl, rfl, rfl, fun o x hx => ⟨x, hx, les_refl _⟩⟩, fun _ _ hm => by cases hm⟩
  | (loc, g) :: l, σ, σ2, h => by
    simp only [give] at h
    cases hb : Nat.beq g (σ.grade loc) with
    | true =>
      rw [hb] at h
      have h1 := give_gave (l := l) h
      refine ⟨h1.p, h1.t, h1.b, fun loc' g' hm => ?_⟩
      rcases List.mem_cons.1 hm with e | e
      · injection e with e1 e2; subst e1; subst e2; exact .inl (Nat.eq_of_beq_eq_true hb)
      · exact h1.g loc' g' e
    | false =>
      rw [hb] at h
      simp only [cond_false] at h
      split at h
      · rename_i ha
        have h1 := gave_trans (setAt_gave ha) (fun l' => setAt_grade _ _ _ _) (give_gave (l := l) h)
        refine ⟨h1.p, h1.t, h1.b, fun loc' g' hm => ?_⟩
        rcases List.mem_cons.1 hm with e | e
        · injection e with e1 e2; subst e1; subst e2; exact .inr ⟨_, ha⟩
        · exact h1.g loc' g' e
      · cases h

theorem setGrade_grade (σ : St) (l l' : Loc) (g : Nat) : (σ.setGrade l g).grade l' = if l' = l then g else σ.grade l' := by
  cases l with
  | tmp i =>
    cases l' with
    | tmp j => simp only [St.setGrade, St.grade, upd_eq, Loc.tmp.injEq]
    | cell => simp [St.setGrade, St.grade]
  | cell k o =>
    cases l' with
    | tmp j => simp [St.setGrade, St.grade]
    | cell j i =>
      simp only [St.setGrade, St.grade, upd_eq, Loc.cell.injEq]
      by_cases e : j = k
      · subst e; simp [upd_eq]
      · simp [e]

theorem grades_same (σ : St) : ∀ l : List (Loc × Nat), (grades σ l).t = σ.t ∧ (grades σ l).p = σ.p ∧ (grades σ l).dep = σ.dep ∧ (grades σ l).b = σ.b
  | [] => ⟨rfl, rfl, rfl, rfl⟩
  | (l, g) :: r => by
    obtain ⟨h1, h2, h3, h4⟩ := grades_same σ r
    simp only [grades]
    cases l <;> exact ⟨h1, h2, h3, h4⟩

theorem grades_grade (σ : St) (h0 : ∀ l, σ.grade l = 0) : ∀ (ls : List (Loc × Nat)) (l : Loc), (grades σ ls).grade l = 0 ∨ (l, (grades σ ls).grade l) ∈ ls
  | [], l => .inl (h0 l)
  | (l1, g) :: r, l => by
    simp only [grades, setGrade_grade]
    by_cases e : l = l1
    · subst e; rw [if_pos rfl]; exact .inr (by simp)
    · rw [if_neg e]
      rcases grades_grade σ h0 r l with h | h
      · exact .inl h
      · exact .inr (by simp [h])

/-- Less is known of a slice. -/
theorem Rel.thin1 (h : Rel E μ S w a σ) {l : Loc} {f0 : Bool} {c0 c1 : EC} {l0 : List c0.den} {l1 : List c1.den} (hl : σ.at l = .sl f0 c0 l0) (hc : castSl c1 c0 l0 = some l1) : Rel E μ S w a (σ.setAt l (.sl false c1 l1)) := by
  have hrows := castSl_rows hc
  have hlen : l0.length = l1.length := by have := congrArg List.length hrows; simpa using this
  have wk : ∀ {T : Cells} {v : Value}, RVx w S T v (.sl f0 c0 l0) → RVx w S T v (.sl false c1 l1) := by
    intro T v hv
    obtain ⟨x, n, c, sz, ad, U, hs⟩ := hv
    refine ⟨x, n, c, sz, ad, U, ?_⟩
    rw [← hrows]
    exact hs.weak (fun e => by cases e) rfl (fun i r r' h1 h2 => by rw [h1] at h2; injection h2 with h2; subst h2; exact WeakL.refl _)
  have hcz : ∀ y ∈ l1, ∃ x ∈ l0, csz c1 = csz c0 := by
    intro y hy
    obtain ⟨i, hi⟩ := List.mem_iff_getElem?.1 hy
    have hlt := (List.getElem?_eq_some_iff.1 hi).1
    have hx : l0[i]? = some (l0[i]'(by omega)) := List.getElem?_eq_getElem _
    refine ⟨_, List.mem_of_getElem? hx, ?_⟩
    have h1 : (l0.map (enc c0))[i]? = some (enc c0 l0[i]) := by rw [List.getElem?_map, hx]; rfl
    rw [hrows, List.getElem?_map, hi] at h1
    injection h1 with h1
    rw [← enc_len c1 y, h1, enc_len]
  have hgr := setAt_grade σ l (.sl false c1 l1)
  have hat : ∀ l' f ec rows, (σ.setAt l (.sl false c1 l1)).at l' = .sl f ec rows → σ.at l' = .sl f ec rows ∨ (l' = l ∧ (AV.sl false c1 l1) = .sl f ec rows) := by
    intro l' f ec rows he
    cases l with
    | tmp i =>
      cases l' with
      | tmp j =>
        simp only [St.at, St.setAt, upd_eq] at he
        split at he
        · rename_i e; subst e; exact .inr ⟨rfl, he⟩
        · exact .inl he
      | cell j o' => exact .inl he
    | cell k o =>
      cases l' with
      | tmp j => exact .inl he
      | cell j o' =>
        obtain ⟨ys, h1, h2⟩ := at_cell he
        simp only [St.setAt, upd_eq] at h1
        split at h1
        · rename_i e; subst e
          simp only [Option.map_eq_some_iff] at h1
          obtain ⟨cs, h3, rfl⟩ := h1
          rw [List.getElem?_set] at h2
          split at h2
          · rename_i e; subst e
            split at h2
            · injection h2 with h2; exact .inr ⟨rfl, h2⟩
            · cases h2
          · exact .inl (by simp [St.at, h3, h2])
        · exact .inl (by simp [St.at, h1, h2])
  have hbn : ∀ j, ((σ.setAt l (.sl false c1 l1)).b j ≠ none ↔ σ.b j ≠ none) := by
    intro j
    cases l with
    | tmp i => rfl
    | cell k o =>
      simp only [St.setAt, upd_eq]
      split
      · rename_i e; subst e; cases σ.b j <;> simp
      · rfl
  have hcz' : ∀ l', (σ.setAt l (.sl false c1 l1)).cz l' = σ.cz l' := fun l' => by simp only [St.cz, hgr]
  have htB : ∀ i, tieB (σ.setAt l (.sl false c1 l1)) (cvl μ w a) i = tieB σ (cvl μ w a) i := fun i => by simp only [tieB, setAt_tie]
  have hcB : ∀ k o, cellB (σ.setAt l (.sl false c1 l1)) (cvl μ w a) k o = cellB σ (cvl μ w a) k o := fun k o => by simp only [cellB, setAt_rb]
  have own' : ∀ l' b, owning (σ.setAt l (.sl false c1 l1)) (cvl μ w a) l' b → owning σ (cvl μ w a) l' b := by
    intro l' b ⟨p1, ad, n, c, p2, p3, p4⟩
    rw [hgr] at p1 p4
    exact ⟨p1, ad, n, c, p2, p3, p4⟩
  refine ⟨h.keep, h.hd, h.hT, ?_, ?_, ?_, ?_, ?_, ?_, ?_, h.s0, h.s1, h.hν, ?_, ?_, ?_, ?_, ?_, ?_⟩
  · intro i
    rw [htB]
    by_cases he : l = .tmp i
    · subst he
      have : (σ.setAt (.tmp i) (.sl false c1 l1)).t i = .sl false c1 l1 := by simp [St.setAt, upd_self]
      rw [this]
      have ht := h.t i
      simp only [St.at] at hl
      rw [hl] at ht
      exact wk ht
    · have : (σ.setAt l (.sl false c1 l1)).t i = σ.t i := by
        cases l with
        | tmp j => simp only [St.setAt]; rw [upd_ne _ _ (fun e => he (by rw [e]))]
        | cell => rfl
      rw [this]; exact h.t i
  · intro i
    rw [htB, setAt_p]
    exact RP.grow (Grow.refl _ _) (Grow.refl _ _) (fun j hj => ⟨(hbn j).2 hj, rfl⟩) (fun l' _ ad n c hc => ⟨⟨n, c, hc⟩, hcz' l'⟩) (h.p i)
  · intro j ys hj
    cases l with
    | tmp i => exact h.b j ys hj
    | cell k o =>
      simp only [St.setAt, upd_eq] at hj
      split at hj
      · rename_i e; subst e
        simp only [Option.map_eq_some_iff] at hj
        obtain ⟨cs, h3, rfl⟩ := hj
        obtain ⟨c, e, h1, h2, h4⟩ := h.b j cs h3
        exact ⟨c, e, h1, by simpa using h2, h4⟩
      · exact h.b j ys hj
  · intro j ys o' y hj ho
    rw [hcB]
    cases l with
    | tmp i => exact h.c j ys o' y hj ho
    | cell k o =>
      simp only [St.setAt, upd_eq] at hj
      split at hj
      · rename_i e; subst e
        simp only [Option.map_eq_some_iff] at hj
        obtain ⟨cs, h3, rfl⟩ := hj
        rw [List.getElem?_set] at ho
        split at ho
        · rename_i e; subst e
          split at ho
          · injection ho with ho; subst ho
            obtain ⟨cs2, h5, h6⟩ := at_cell hl
            rw [h3] at h5; injection h5 with h5; subst h5
            exact wk (h.c j cs o _ h3 h6)
          · cases ho
        · exact h.c j cs o' y h3 ho
      · exact h.c j ys o' y hj ho
  · intro j j' hj hj'; exact h.inj j j' ((hbn j).1 hj) ((hbn j').1 hj')
  · intro j hj; exact h.mine j ((hbn j).1 hj)
  · intro b o hb; exact ⟨(h.st b o hb).1, fun j hj => (h.st b o hb).2 j ((hbn j).1 hj)⟩
  · intro l' hl'
    rw [hgr] at hl'
    obtain ⟨x, n, c, e, h1, h1', h2⟩ := h.own l' hl'
    refine ⟨x, n, c, e, ?_, ?_, ?_⟩
    · intro f ec rows r hr1 hr2
      rw [hcz']
      rcases hat l' f ec rows hr1 with h3 | ⟨rfl, h3⟩
      · exact h1 f ec rows r h3 hr2
      · injection h3 with _ h4 h5
        subst h4
        have h5 := eq_of_heq h5
        subst h5
        obtain ⟨x, hx, he⟩ := hcz r hr2
        rw [he]; exact h1 _ _ _ x hl hx
    · intro f ec rows hr1
      rcases hat l' f ec rows hr1 with h3 | ⟨rfl, h3⟩
      · exact h1' f ec rows h3
      · injection h3 with _ h4 h5
        subst h4
        have h5 := eq_of_heq h5
        subst h5
        rw [← hlen]; exact h1' _ _ _ hl
    · intro ad had hown
      rw [hgr] at hown ⊢
      rw [hcz']
      obtain ⟨a1, a2, a3, a4, a5⟩ := h2 ad had hown
      exact ⟨a1, a2, a3, a4, fun k hk => a5 k ((hbn k).1 hk)⟩
  · intro l1' l2' b o1 o2; exact h.dist l1' l2' b (own' l1' b o1) (own' l2' b o2)
  · intro i l' hi; rw [setAt_dep] at hi; rw [hgr]; exact h.dw i l' hi
  · intro i l' hi; rw [setAt_p] at hi; rw [setAt_dep]; exact h.pw i l' hi
  · intro k o hk; rw [setAt_rb] at hk; exact (hbn k).2 (h.gb k o hk)
  · intro i l' f ec rows h1 h2 h3
    have h1 : wr (σ.rt i) = false := by
      have := hgr (.tmp i)
      simp only [St.grade] at this
      rw [← this]; exact h1
    rw [setAt_dep] at h2
    rcases hat (.tmp i) f ec rows h3 with h4 | ⟨h4, _⟩
    · exact h.eq i l' f ec rows h1 h2 h4
    · rw [← h4] at hl
      exact h.eq i l' _ _ _ h1 h2 hl

theorem thin_ok : ∀ {l : List (Loc × EC)} {σ σ2 : St}, Rel E μ S w a σ → thin σ l = some σ2 → Rel E μ S w a σ2
  | [], σ, σ2, h, ht => by simp [thin] at ht; subst ht; exact h
  | (l, c) :: r, σ, σ2, h, ht => by
    simp only [thin] at ht
    split at ht
    case h_2 => cases ht
    rename_i hl
    simp only [Option.bind_eq_some_iff] at ht
    obtain ⟨x, hx, ht⟩ := ht
    exact thin_ok (h.thin1 hl hx) ht

/-- At a mark. -/
theorem mark0_ok (h : RelE E w a σ) {m : Mark} {σ' : St} (hm : mark0 m σ = some σ') : RelE E w a σ' := by
  obtain ⟨μ, S, h⟩ := h
  unfold mark0 at hm
  obtain ⟨hc, hm⟩ := bif_some hm
  simp only [Bool.and_eq_true] at hc
  obtain ⟨⟨⟨h1, h2⟩, h3⟩, h4⟩ := hc
  simp only [Option.bind_eq_some_iff, Option.map_eq_some_iff] at hm
  obtain ⟨σ3, ⟨σ2, hg, rfl⟩, hth⟩ := hm
  have hgave := give_gave hg
  have hreg : RelE E w a (grades { t := keep σ2.t .dead m.t, p := keep σ2.p .no m.p, dep := fun _ => none, rt := fun _ => 0, b := keep σ2.b none m.b, rb := fun _ _ => 0 } m.g) := by
   refine ⟨μ, _, h.regrade (σ' := grades { t := keep σ2.t .dead m.t, p := keep σ2.p .no m.p, dep := fun _ => none, rt := fun _ => 0, b := keep σ2.b none m.b, rb := fun _ _ => 0 } m.g) ?_ ?_ ?_ ?_ ?_ ?_⟩
   · intro i
     rw [(grades_same _ m.g).1]
     show Les (σ.t i) (keep σ2.t .dead m.t i) ∧ _
     rw [keep_get]
     split
     · rename_i hi
       exact ⟨hgave.t i, fun hn => absurd (noDep_get h1 i hi) hn⟩
     · rename_i hi
       exact ⟨.inl rfl, fun _ => by show keep σ2.t .dead m.t i = .dead; rw [keep_get, if_neg hi]⟩
   · intro i
     rw [(grades_same _ m.g).2.1, (grades_same _ m.g).2.2.2]
     show keep σ2.p .no m.p i = .no ∨ _
     by_cases hi : i ∈ m.p
     · right
       refine ⟨by show keep σ2.p .no m.p i = _; rw [keep_get, if_pos hi, hgave.p], noDep_get h2 i hi, fun T cv cz v hr => rp_live hr fun k hk hl => ?_⟩
       show keep σ2.b none m.b k ≠ none
       rw [keep_get, if_pos (ptrKept_get h3 i hi k hk)]
       rcases hgave.b k with ⟨_, e⟩ | ⟨cs, cs', _, e, _⟩
       · exact absurd e hl
       · rw [e]; simp
     · left; rw [keep_get, if_neg hi]
   · intro i; rw [(grades_same _ m.g).2.2.1]
   · intro l
     rcases grades_grade { t := keep σ2.t .dead m.t, p := keep σ2.p .no m.p, dep := fun _ => none, rt := fun _ => 0, b := keep σ2.b none m.b, rb := fun _ _ => 0 } (fun l => by cases l <;> rfl) m.g l with e | e
     · exact .inl e
     · exact .inr (hgave.g l _ e)
   · intro k cs' hk
     rw [(grades_same _ m.g).2.2.2] at hk
     have hk : keep σ2.b none m.b k = some cs' := hk
     rw [keep_get] at hk
     split at hk
     · rcases hgave.b k with ⟨e, _⟩ | ⟨cs, cs2, e1, e2, e3, e4⟩
       · rw [hk] at e; cases e
       · rw [hk] at e2; injection e2 with e2; subst e2
         exact ⟨cs, e1, e3, e4⟩
     · cases hk
   · intro k o hr
     rw [(grades_same _ m.g).2.2.2]
     show keep σ2.b none m.b k ≠ none
     rcases grades_grade { t := keep σ2.t .dead m.t, p := keep σ2.p .no m.p, dep := fun _ => none, rt := fun _ => 0, b := keep σ2.b none m.b, rb := fun _ _ => 0 } (fun l => by cases l <;> rfl) m.g (.cell k o) with e | e
     · exact absurd e hr
     · rw [keep_get, if_pos (gkept_get h4 k o _ e)]
       have hbk : σ.b k ≠ none := by
         rcases hgave.g (.cell k o) _ e with e1 | e1
         · exact h.gb k o (by
             have : σ.grade (.cell k o) ≠ 0 := by rw [← e1]; exact hr
             exact this)
         · obtain ⟨_, e1⟩ := e1; obtain ⟨cs, h5, _⟩ := at_cell e1
           rw [h5]; simp
       rcases hgave.b k with ⟨_, e2⟩ | ⟨cs, cs', _, e2, _⟩
       · exact absurd e2 hbk
       · rw [e2]; simp
  obtain ⟨μ', S', hreg⟩ := hreg
  exact ⟨μ', S', thin_ok hreg hth⟩

theorem ofl_keep {α : Type} (f : Nat → α) (z : α) : ∀ l, ofl z l (l.map f) = keep f z l
  | [] => rfl
  | i :: l => by simp only [List.map, ofl, keep, ofl_keep f z l]

structure Marked (m : Mark) (σ : St) : Prop where
  t : ∀ i, i ∉ m.t → σ.t i = .dead
  p : ∀ i, i ∉ m.p → σ.p i = .no
  d : ∀ i, σ.dep i = none
  rt : σ.rt = (grades0 m).rt
  b : ∀ i, i ∉ m.b → σ.b i = none
  rb : σ.rb = (grades0 m).rb

theorem Marked.st {m : Mark} (h : Marked m σ) : stOf m (snap m σ) = σ := by
  apply St.ext'
  · intro i
    simp only [stOf, snap, ofl_keep, keep_get]
    split
    · rfl
    · rename_i hi; exact (h.t i hi).symm
  · intro i
    simp only [stOf, snap, ofl_keep, keep_get]
    split
    · rfl
    · rename_i hi; exact (h.p i hi).symm
  · intro i; exact (h.d i).symm
  · intro i; simp only [stOf, h.rt]
  · intro i
    simp only [stOf, snap, ofl_keep, keep_get]
    split
    · rfl
    · rename_i hi; exact (h.b i hi).symm
  · intro i; simp only [stOf, h.rb]

theorem thin_marked {m : Mark} : ∀ (l : List (Loc × EC)) {σ σ' : St}, Marked m σ → thin σ l = some σ' → Marked m σ'
  | [], σ, σ', h, e => by simp [thin] at e; subst e; exact h
  | (l, c) :: r, σ, σ', h, e => by
    simp only [thin] at e
    split at e
    case h_2 => cases e
    rename_i f c' x hat
    simp only [Option.bind_eq_some_iff] at e
    obtain ⟨x', _, e⟩ := e
    refine thin_marked r ?_ e
    cases l with
    | tmp j =>
      refine ⟨?_, h.p, h.d, h.rt, h.b, h.rb⟩
      intro i hi
      have : i ≠ j := by
        intro e2; subst e2
        have h1 : σ.t i = _ := hat
        rw [h.t i hi] at h1; cases h1
      simp only [St.setAt, upd_eq, if_neg this]
      exact h.t i hi
    | cell k o =>
      refine ⟨h.t, h.p, h.d, h.rt, ?_, h.rb⟩
      intro i hi
      have h2 := h.b i hi
      simp only [St.setAt, upd_eq]
      split
      · rename_i e2; subst e2; simp [h2]
      · exact h2

theorem grades_rt (σ σ2 : St) (h1 : σ.rt = σ2.rt) (h2 : σ.rb = σ2.rb) : ∀ l, (grades σ l).rt = (grades σ2 l).rt ∧ (grades σ l).rb = (grades σ2 l).rb
  | [] => ⟨h1, h2⟩
  | (l, g) :: r => by
    obtain ⟨e1, e2⟩ := grades_rt σ σ2 h1 h2 r
    cases l <;> constructor <;> simp only [grades, St.setGrade, e1, e2]

theorem mark0_marked {m : Mark} {σ' : St} (hm : mark0 m σ = some σ') : Marked m σ' := by
  unfold mark0 at hm
  obtain ⟨hc, hm⟩ := bif_some hm
  simp only [Option.bind_eq_some_iff, Option.map_eq_some_iff] at hm
  obtain ⟨σ3, ⟨σ2, hg, rfl⟩, hth⟩ := hm
  refine thin_marked _ ?_ hth
  obtain ⟨e1, e2, e3, e4⟩ := grades_same { t := keep σ2.t .dead m.t, p := keep σ2.p .no m.p, dep := fun _ => none, rt := fun _ => 0, b := keep σ2.b none m.b, rb := fun _ _ => 0 } m.g
  obtain ⟨e5, e6⟩ := grades_rt { t := keep σ2.t .dead m.t, p := keep σ2.p .no m.p, dep := fun _ => none, rt := fun _ => 0, b := keep σ2.b none m.b, rb := fun _ _ => 0 } { t := fun _ => .dead, p := fun _ => .no, dep := fun _ => none, rt := fun _ => 0, b := fun _ => none, rb := fun _ _ => 0 } rfl rfl m.g
  refine ⟨?_, ?_, ?_, e5, ?_, e6⟩
  · intro i hi; rw [e1]; show keep σ2.t .dead m.t i = _; rw [keep_get, if_neg hi]
  · intro i hi; rw [e2]; show keep σ2.p .no m.p i = _; rw [keep_get, if_neg hi]
  · intro i; rw [e3]
  · intro i hi; rw [e4]; show keep σ2.b none m.b i = _; rw [keep_get, if_neg hi]

theorem mark_eq {m : Mark} : mark m σ = mark0 m (lends m.g σ) := by
  unfold mark
  cases h : mark0 m (lends m.g σ) with
  | none => rfl
  | some σ' => simp only [Option.map_some, (mark0_marked h).st]

theorem mark_st {m : Mark} {σ' : St} (h : mark m σ = some σ') : stOf m (snap m σ') = σ' := by
  rw [mark_eq] at h; exact (mark0_marked h).st

theorem mark_ok (h : RelE E w a σ) {m : Mark} {σ' : St} (hm : mark m σ = some σ') : RelE E w a σ' := by
  rw [mark_eq] at hm; exact mark0_ok (lends_ok _ h) hm

end Go.Ab

namespace Go.Ab
open Go Go.RowKit

variable {P : Program} {E : Ent} {μ : Nat → Nat} {S : Cells} {w : World} {a : Act} {σ : St} {C : Orc}

def outE : Out → Exit
  | .norm => .normal
  | .exit id => .exit id
  | .ret => .ret

theorem cond_bool (h : RelE E w a σ) {c : Operand} {y : Opd} (hy : opd c = some y) {t : Bool} (ht : (σ.ev y).asB = some t) : a.eval c = .bool t := by
  obtain ⟨μ, S, h⟩ := h
  obtain ⟨T, hT⟩ := opd_rvx h hy
  cases hx : σ.ev y <;> rw [hx] at ht hT <;> simp [AV.asB] at ht
  subst ht
  exact RVx.bool hT

theorem exec_ok (hC : Sound P C) (hL : LibOK P) (hm : P.follows .mixedOrders = true) (h6 : E.T ≤ 1000000) {R : Type} {r : R} {n : Nat} : ∀ (c : Code) (A : Ann) (s : SC), slim P E.T A c = some s →
    ∀ (σ : St) (K : Out → St → Option R) (a : Act) (w : World) (Q : Exit → Act → World → Prop), exec C n s σ K = some r → RelE E w a σ →
      (∀ o σ' a' w', RelE E w' a' σ' → K o σ' = some r → Q (outE o) a' w') → c.wp P Q a w := by
  intro c
  induction c with
  | skip =>
    intro A s hs σ K a w Q hx h hQ
    simp [slim] at hs; subst hs
    exact wp_skip (hQ .norm σ a w h hx)
  | exit id =>
    intro A s hs σ K a w Q hx h hQ
    simp [slim] at hs; subst hs
    exact wp_exit (hQ (.exit id) σ a w h hx)
  | ret =>
    intro A s hs σ K a w Q hx h hQ
    simp [slim] at hs; subst hs
    exact wp_ret (hQ .ret σ a w h hx)
  | seq x y ihx ihy =>
    intro A s hs σ K a w Q hx h hQ
    simp only [slim, Option.bind_eq_some_iff, Option.map_eq_some_iff] at hs
    obtain ⟨sx, h1, sy, h2, rfl⟩ := hs
    simp only [exec] at hx
    refine wp_seq (ihx A sx h1 σ _ a w _ hx h ?_)
    intro o σ' a' w' h' hk
    cases o with
    | norm =>
      simp only [cutAt] at hk
      split at hk
      · split at hk
        · rename_i m _
          simp only [exec, Option.bind_eq_some_iff] at hk
          obtain ⟨σ2, hm2, hk⟩ := hk
          refine ihy A sy h2 σ2 _ a' w' Q hk (mark_ok h' hm2) ?_
          intro o σ3 a3 w3 h3 hk3
          simp only [exitE, Option.bind_eq_some_iff] at hk3
          obtain ⟨me, _, σ4, hm4, hk4⟩ := hk3
          exact hQ o σ4 a3 w3 (mark_ok h3 hm4) hk4
        · exact ihy A sy h2 σ' K a' w' Q hk h' hQ
      · exact ihy A sy h2 σ' K a' w' Q hk h' hQ
    | exit id => exact hQ (.exit id) σ' a' w' h' hk
    | ret => exact hQ .ret σ' a' w' h' hk
  | cond c x y ihx ihy =>
    intro A s hs σ K a w Q hx h hQ
    simp only [slim, Option.bind_eq_some_iff, Option.map_eq_some_iff] at hs
    obtain ⟨c', h0, sx, h1, sy, h2, rfl⟩ := hs
    simp only [exec, Option.bind_eq_some_iff] at hx
    obtain ⟨t, ht, hx⟩ := hx
    refine wp_cond (cond_bool h h0 ht) ?_
    cases t with
    | true => exact ihx A sx h1 σ K a w Q hx h hQ
    | false => exact ihy A sy h2 σ K a w Q hx h hQ
  | block id x ih =>
    intro A s hs σ K a w Q hx h hQ
    simp only [slim, Option.map_eq_some_iff] at hs
    obtain ⟨sx, h1, rfl⟩ := hs
    simp only [exec] at hx
    refine wp_block (ih A sx h1 σ _ a w _ hx h ?_)
    intro o σ' a' w' h' hk
    cases o with
    | norm => exact hQ .norm σ' a' w' h' hk
    | ret => exact hQ .ret σ' a' w' h' hk
    | exit j =>
      simp only at hk
      show Exit.inBlock id Q (.exit j) a' w'
      cases hb : Nat.beq j id with
      | true =>
        rw [hb] at hk
        have := Nat.eq_of_beq_eq_true hb
        subst this
        have := hQ .norm σ' a' w' h' hk
        simpa [Exit.inBlock, outE] using this
      | false =>
        rw [hb] at hk
        have hne : j ≠ id := by intro e; subst e; rw [Nat.beq_refl] at hb; cases hb
        have := hQ (.exit j) σ' a' w' h' hk
        simpa [Exit.inBlock, hne, outE] using this
  | loop x ih =>
    intro A s hs σ K a w Q hx h hQ
    simp only [slim, Option.bind_eq_some_iff, Option.map_eq_some_iff] at hs
    obtain ⟨i, _, m, hm, sx, h1, rfl⟩ := hs
    simp only [exec, Option.bind_eq_some_iff] at hx
    obtain ⟨σ0, h0, hx⟩ := hx
    have hr0 := mark_ok h h0
    refine wp_loop_rounds n ?_
    have key : ∀ k σ a w, loopN (fun σ K => exec C n sx σ K) m.1 m.2 K k σ = some r → RelE E w a σ → Code.rounds P x Q k a w := by
      intro k
      induction k with
      | zero => intro σ a w hx _; simp [loopN] at hx
      | succ k ihk =>
        intro σ a w hx h
        simp only [loopN] at hx
        rw [rounds_succ]
        refine ih _ sx h1 σ _ a w _ hx h ?_
        intro o σ' a' w' h' hk
        cases o with
        | norm =>
          simp only [Option.bind_eq_some_iff] at hk
          obtain ⟨σ2, h2, hk⟩ := hk
          exact ihk σ2 a' w' hk (mark_ok h' h2)
        | exit j =>
          simp only [exitE, Option.bind_eq_some_iff] at hk
          obtain ⟨me, _, σ4, hm4, hk4⟩ := hk
          exact hQ (.exit j) σ4 a' w' (mark_ok h' hm4) hk4
        | ret =>
          simp only [exitE, Option.bind_eq_some_iff] at hk
          obtain ⟨me, _, σ4, hm4, hk4⟩ := hk
          exact hQ .ret σ4 a' w' (mark_ok h' hm4) hk4
    exact key n σ0 a w hx hr0
  | region id ops draw =>
    intro A s hs σ K a w Q hx h hQ
    simp only [slim, Option.some.injEq] at hs
    generalize hX : (bif draw && !fwdL 0 ops.toList then none else (slimOps P E.T A ops (basesOf ops.toList) ops.toList).map fun l =>
        let c := bif draw then .dops (unords (Region.before ops).toList 0 (Region.before ops).toList) l else .ops l
        match find? id A.m with
        | some m => .seq (.mark m) c
        | none => c : Option SC) = X at hs
    cases X with
    | none =>
      simp only [Option.getD_none] at hs
      subst hs
      simp [exec, St.ev, AV.asB] at hx
    | some s' =>
    simp only [Option.getD_some] at hs
    subst hs
    have hs := hX
    clear hX
    obtain ⟨hfw, hs⟩ : (draw && !fwdL 0 ops.toList) = false ∧ (slimOps P E.T A ops (basesOf ops.toList) ops.toList).map (fun l =>
        let c := bif draw then .dops (unords (Region.before ops).toList 0 (Region.before ops).toList) l else .ops l
        match find? id A.m with
        | some m => .seq (.mark m) c
        | none => c) = some s' := by
      cases hc : (draw && !fwdL 0 ops.toList) with
      | true => rw [hc] at hs; cases hs
      | false => rw [hc] at hs; exact ⟨rfl, hs⟩
    simp only [Option.map_eq_some_iff] at hs
    obtain ⟨l, hl, hs⟩ := hs
    have core : ∀ σ0, RelE E w a σ0 → exec C n (bif draw then .dops (unords (Region.before ops).toList 0 (Region.before ops).toList) l else .ops l) σ0 K = some r → (Code.region id ops draw).wp P Q a w := by
      intro σ0 h' hx
      cases draw with
      | false =>
        simp only [cond_false, exec] at hx
        exact region_ok hC hL h6 (fun σ' a' w' h2 hk => hQ .norm σ' a' w' h2 hk) hl hx h'
      | true =>
        simp only [cond_true, exec] at hx
        exact draw_ok hC hL hm h6 (by simpa using hfw) hl hx h' (fun σ' a' w' h2 hk => hQ .norm σ' a' w' h2 hk)
    cases hm : find? id A.m with
    | none =>
      rw [hm] at hs
      subst hs
      exact core σ h hx
    | some m =>
      rw [hm] at hs
      subst hs
      simp only [exec, Option.bind_eq_some_iff] at hx
      obtain ⟨σ0, h0, hx⟩ := hx
      exact core σ0 (mark_ok h h0) hx
  | _ => intro A s hs; simp [slim] at hs

end Go.Ab

namespace Go.Ab
open Go Go.RowKit

variable {P : Program} {E : Ent} {μ : Nat → Nat} {S : Cells} {w : World} {a : Act} {σ : St} {C : Orc}

theorem args0_same : ∀ (as : List PV) (i : Nat) (σ : St), (args0 i as σ).dep = σ.dep ∧ (args0 i as σ).rt = σ.rt ∧ (args0 i as σ).b = σ.b ∧ (args0 i as σ).rb = σ.rb
  | [], i, σ => ⟨rfl, rfl, rfl, rfl⟩
  | q :: as, i, σ => by
    cases q <;> (simp only [args0]; exact args0_same as (i + 1) _)

theorem args0_t : ∀ (as : List PV) (i : Nat) (σ : St) (j : Nat), (j < i → (args0 i as σ).t j = σ.t j) ∧ (i ≤ j → (args0 i as σ).t j = match as[j - i]? with | some (.val v) => v | _ => σ.t j)
  | [], i, σ, j => ⟨fun _ => rfl, fun _ => rfl⟩
  | q :: as, i, σ, j => by
    have key : ∀ σ', (∀ j, j ≠ i → σ'.t j = σ.t j) → σ'.t i = (match q with | .val v => v | _ => σ.t i) →
        (j < i → (args0 (i + 1) as σ').t j = σ.t j) ∧ (i ≤ j → (args0 (i + 1) as σ').t j = match (q :: as)[j - i]? with | some (.val v) => v | _ => σ.t j) := by
      intro σ' h1 h2
      obtain ⟨g1, g2⟩ := args0_t as (i + 1) σ' j
      refine ⟨fun hj => by rw [g1 (by omega), h1 j (by omega)], fun hj => ?_⟩
      by_cases e : j = i
      · subst e
        rw [g1 (by omega), h2]
        simp
        cases q <;> rfl
      · rw [g2 (by omega), show j - i = (j - (i + 1)) + 1 by omega, h1 j e]
        rfl
    cases q with
    | val v => simp only [args0]; exact key _ (fun j hj => by simp [upd_ne _ _ hj]) (by simp [upd_self])
    | _ => simp only [args0]; exact key _ (fun j hj => rfl) rfl

theorem args0_p : ∀ (as : List PV) (i : Nat) (σ : St) (j : Nat), (j < i → (args0 i as σ).p j = σ.p j) ∧ (i ≤ j → (args0 i as σ).p j = match as[j - i]? with | some (.val _) => σ.p j | some q => q | none => σ.p j)
  | [], i, σ, j => ⟨fun _ => rfl, fun _ => rfl⟩
  | q :: as, i, σ, j => by
    have key : ∀ σ', (∀ j, j ≠ i → σ'.p j = σ.p j) → σ'.p i = (match q with | .val _ => σ.p i | q => q) →
        (j < i → (args0 (i + 1) as σ').p j = σ.p j) ∧ (i ≤ j → (args0 (i + 1) as σ').p j = match (q :: as)[j - i]? with | some (.val _) => σ.p j | some q => q | none => σ.p j) := by
      intro σ' h1 h2
      obtain ⟨g1, g2⟩ := args0_p as (i + 1) σ' j
      refine ⟨fun hj => by rw [g1 (by omega), h1 j (by omega)], fun hj => ?_⟩
      by_cases e : j = i
      · subst e
        rw [g1 (by omega), h2]
        simp
        cases q <;> rfl
      · rw [g2 (by omega), show j - i = (j - (i + 1)) + 1 by omega, h1 j e]
        rfl
    cases q with
    | val v => simp only [args0]; exact key _ (fun j hj => rfl) rfl
    | _ => simp only [args0]; exact key _ (fun j hj => by simp [upd_ne _ _ hj]) (by simp [upd_self])

theorem refs0_get : ∀ (bs : List (List AV)) (i j : Nat), refs0 i bs j = if i ≤ j then bs[j - i]? else none
  | [], i, j => by simp [refs0]
  | c :: bs, i, j => by
    simp only [refs0, upd_eq]
    by_cases e : j = i
    · subst e; simp
    · rw [if_neg e, refs0_get bs (i + 1) j]
      by_cases h : i ≤ j
      · rw [if_pos h, if_pos (by omega), show j - i = (j - (i + 1)) + 1 by omega]; rfl
      · rw [if_neg h, if_neg (by omega)]

end Go.Ab

namespace Go.Ab
open Go Go.RowKit

variable {P : Program} {E : Ent} {μ : Nat → Nat} {S : Cells} {w : World} {a : Act} {σ : St} {C : Orc}

theorem nodup_inj : ∀ {l : List Nat}, l.Nodup → ∀ {i j b : Nat}, l[i]? = some b → l[j]? = some b → i = j
  | [], _, i, j, b, h, _ => by simp at h
  | x :: l, hn, i, j, b, hi, hj => by
    obtain ⟨h1, h2⟩ := List.nodup_cons.1 hn
    cases i with
    | zero =>
      cases j with
      | zero => rfl
      | succ j => simp at hi hj; subst hi; exact absurd (List.mem_of_getElem? hj) h1
    | succ i =>
      cases j with
      | zero => simp at hi hj; subst hj; exact absurd (List.mem_of_getElem? hi) h1
      | succ j => rw [nodup_inj h2 (i := i) (j := j) (by simpa using hi) (by simpa using hj)]

/-- How a call begins. -/
theorem start_ok {T : Nat} {as : List PV} {bs : List (List AV)} {ν : List Nat} {args : Array Value} (hin : CallIn w S ν bs) (hT : as.length ≤ T) (hs : args.size = as.length) (hcap : capAll as = true)
    (hrp : ∀ (j : Nat) q v, as[j]? = some q → args[j]? = some v → RP w S (muOf ν) (liveOf ν) S (fun _ => Go.undef) (fun _ => 0) v q) :
    Rel ⟨w, ν, S, T⟩ (muOf ν) S w { tmps := args ++ Array.replicate (T - args.size) Go.undef, defers := [] } (start as bs) := by
  obtain ⟨e1, e2, e3, e4⟩ := args0_same as 0 { t := fun _ => .dead, p := fun _ => .no, dep := fun _ => none, rt := fun _ => 0, b := refs0 1000000 bs, rb := fun _ _ => 0 }
  have hb : ∀ k, (start as bs).b k = if 1000000 ≤ k then bs[k - 1000000]? else none := fun k => by
    show (args0 0 as _).b k = _
    rw [e3]; exact refs0_get bs 1000000 k
  have hdep : ∀ i, (start as bs).dep i = none := fun i => by show (args0 0 as _).dep i = _; rw [e1]
  have hrt : ∀ i, (start as bs).rt i = 0 := fun i => by show (args0 0 as _).rt i = _; rw [e2]
  have hrb : ∀ k o, (start as bs).rb k o = 0 := fun k o => by show (args0 0 as _).rb k o = _; rw [e4]
  have hg : ∀ l, (start as bs).grade l = 0 := fun l => by cases l <;> simp [St.grade, hrt, hrb]
  have htie : ∀ i, (start as bs).tie i = none := fun i => by simp [St.tie, hrt, hdep, wr_zero]
  have hlive : ∀ k, (start as bs).b k ≠ none ↔ liveOf ν k := by
    intro k
    rw [hb k]
    unfold liveOf
    split
    · rename_i hk
      rw [hin.len]
      constructor
      · intro h
        refine ⟨hk, Classical.byContradiction fun hn => h (List.getElem?_eq_none (by omega))⟩
      · rintro ⟨_, h⟩ e
        rw [List.getElem?_eq_none_iff] at e
        omega
    · rename_i hk
      constructor
      · intro h; exact absurd rfl h
      · intro h; exact absurd h.1 hk
  have hget : ∀ k, liveOf ν k → ∃ b, ν[k - 1000000]? = some b ∧ muOf ν k = b := fun k hl => by
    obtain ⟨b, hb⟩ : ∃ b, ν[k - 1000000]? = some b := ⟨_, List.getElem?_eq_getElem hl.2⟩
    exact ⟨b, hb, by simp only [muOf, hb, Option.getD_some]⟩
  have htv : ∀ i, tv { tmps := args ++ Array.replicate (T - args.size) Go.undef, defers := [] } i = (args[i]?).getD Go.undef := by
    intro i
    simp only [tv, Array.getD_eq_getD_getElem?]
    by_cases hi : i < args.size
    · rw [Array.getElem?_append_left hi]
    · rw [Array.getElem?_append_right (by omega), Array.getElem?_eq_none (by omega : args.size ≤ i)]
      rw [Array.getElem?_replicate]
      split <;> rfl
  have hnt : ∀ i, ∀ cv, tieB (start as bs) cv i = none := fun i cv => by simp [tieB, htie]
  have hcl : ∀ k o cv, cellB (start as bs) cv k o = none := fun k o cv => by simp [cellB, hrb, wr_zero]
  have argAt : ∀ (i : Nat) (q : PV), as[i]? = some q → ∃ v, args[i]? = some v := fun i q hq => by
    have := (List.getElem?_eq_some_iff.1 hq).1
    exact ⟨_, Array.getElem?_eq_getElem (by omega)⟩
  have ht : ∀ i, (start as bs).t i = match as[i]? with | some (.val v) => v | _ => .dead := fun i => by
    have := (args0_t as 0 { t := fun _ => .dead, p := fun _ => .no, dep := fun _ => none, rt := fun _ => 0, b := refs0 1000000 bs, rb := fun _ _ => 0 } i).2 (Nat.zero_le _)
    simp only [Nat.sub_zero] at this; exact this
  have hp : ∀ i, (start as bs).p i = match as[i]? with | some (.val _) => .no | some q => q | none => .no := fun i => by
    have := (args0_p as 0 { t := fun _ => .dead, p := fun _ => .no, dep := fun _ => none, rt := fun _ => 0, b := refs0 1000000 bs, rb := fun _ _ => 0 } i).2 (Nat.zero_le _)
    simp only [Nat.sub_zero] at this; exact this
  have hcapi : ∀ (i : Nat) (q : PV), as[i]? = some q → q.welOf = none := fun i q hq => cap_wel (capAll_get hcap i q hq)
  have hpw : ∀ i, ((start as bs).p i).welOf = none := fun i => by
    rw [hp i]
    cases hq : as[i]? with
    | none => rfl
    | some q => have := hcapi i q hq; cases q <;> first | rfl | exact this
  refine ⟨⟨rfl, rfl, rfl, Nat.le_refl _, fun _ _ _ => rfl, fun b c e z h => ⟨c, h, rfl⟩⟩, rfl, ?_, ?_, ?_, ?_, ?_, ?_, ?_, ?_, fun _ _ h => h, fun _ _ h => .inl h, ?_, ?_, ?_, ?_, ?_, ?_, ?_⟩
  · simp; omega
  · intro i
    rw [hnt, orB_none, ht i, htv i]
    cases hq : as[i]? with
    | none => exact RV.dead _
    | some q =>
      obtain ⟨v, hv⟩ := argAt i q hq
      have := hrp i q v hq hv
      cases q with
      | val x =>
        rw [hv]
        cases this with
        | val _ _ h => exact RVx.of (fun _ _ h => h) h
      | _ => exact RV.dead _
  · intro i
    rw [hnt, orB_none, hp i, htv i]
    cases hq : as[i]? with
    | none => exact .no _
    | some q =>
      obtain ⟨v, hv⟩ := argAt i q hq
      have h1 := hrp i q v hq hv
      have h2 : RP w S (muOf ν) (fun k => (start as bs).b k ≠ none) S (cvl (muOf ν) w { tmps := args ++ Array.replicate (T - args.size) Go.undef, defers := [] }) (start as bs).cz v q :=
        RP.grow (Grow.refl _ _) (Grow.refl _ _) (fun k hk => ⟨(hlive k).2 hk, rfl⟩) (fun l hl => by rw [hcapi i q hq] at hl; cases hl) h1
      rw [hv]
      cases q with
      | val x => exact .no _
      | _ => exact h2
  · intro k cs hk
    have hl := (hlive k).1 (by rw [hk]; simp)
    rw [hb k, if_pos hl.1] at hk
    obtain ⟨b, hb2, hmu⟩ := hget k hl
    obtain ⟨c, e, h1, h2⟩ := hin.blk (k - 1000000) b cs hb2 hk
    exact ⟨c, e, by rw [hmu]; exact h1, agg_size h2, agg_one h2⟩
  · intro k cs o x hk ho
    have hl := (hlive k).1 (by rw [hk]; simp)
    rw [hb k, if_pos hl.1] at hk
    obtain ⟨b, hb2, hmu⟩ := hget k hl
    obtain ⟨c, e, h1, h2⟩ := hin.blk (k - 1000000) b cs hb2 hk
    rw [hcl, orB_none]
    obtain ⟨u, hu, hux, _⟩ := agg_get h2 ho
    have : cvl (muOf ν) w { tmps := args ++ Array.replicate (T - args.size) Go.undef, defers := [] } (.cell k o) = u := by
      simp only [cvl, hmu, cell_at h1, hu, Option.getD_some]
    rw [this]; exact RVx.of (fun _ _ h => h) hux
  · intro k k' hk hk' he
    have l1 := (hlive k).1 hk
    have l2 := (hlive k').1 hk'
    obtain ⟨b, hb1, hm1⟩ := hget k l1
    obtain ⟨b', hb2, hm2⟩ := hget k' l2
    rw [hm1, hm2] at he
    subst he
    have h1 := l1.1
    have h2 := l2.1
    have := nodup_inj hin.nd hb1 hb2
    omega
  · intro k hk
    obtain ⟨b, hb2, hmu⟩ := hget k ((hlive k).1 hk)
    left
    rw [hmu]; exact List.mem_of_getElem? hb2
  · intro b o hb'
    refine ⟨(hin.st b o hb').1, fun k hk e => (hin.st b o hb').2 ?_⟩
    obtain ⟨b2, hb2, hmu⟩ := hget k ((hlive k).1 hk)
    rw [← e, hmu]; exact List.mem_of_getElem? hb2
  · intro j b hj; simp [muOf, hj]
  · intro l hl; exact absurd (hg l) hl
  · intro l l' b ⟨h, _⟩; exact absurd (hg l) h
  · intro i l h; rw [hdep i] at h; cases h
  · intro i l h; rw [hpw i] at h; cases h
  · intro k o h; exact absurd (hrb k o) h
  · intro i l f ec rows _ h; rw [hdep i] at h; cases h

end Go.Ab

namespace Go.Ab
open Go Go.RowKit

variable {P : Program} {E : Ent} {μ : Nat → Nat} {S : Cells} {w : World} {a : Act} {σ : St} {C : Orc}

/-- What is stable when a call ends: the blocks of what could be written, too. -/
def endS (S : Cells) (μ : Nat → Nat) (w : World) (a : Act) (σ : St) : Cells := fun b o => S b o ∨ ∃ l, wr (σ.grade l) = true ∧ blockOf (cvl μ w a l) = some b

theorem end_grow : Grow w S w (endS S μ w a σ) := fun b o hb => ⟨.inl hb, rfl⟩

theorem end_tmp (h : Rel E μ S w a σ) (i : Nat) : RV w (endS S μ w a σ) (tv a i) (σ.t i) := by
  refine RVx.self ((h.t i).grow end_grow fun b o hb => ⟨?_, rfl⟩)
  rcases hb with hb | hb
  · exact .inl hb
  · simp only [tieB] at hb
    cases ht : σ.tie i with
    | none => rw [ht] at hb; cases hb
    | some l => rw [ht] at hb; exact .inr ⟨l, tie_wr h i l ht, hb⟩

theorem end_cell (h : Rel E μ S w a σ) {k : Nat} {cs : List AV} (hk : σ.b k = some cs) : ∃ c e, w.heap[μ k]? = some (.cells c e (0, 0)) ∧ RV w (endS S μ w a σ) (.agg c) (.agg cs) := by
  obtain ⟨c, e, h1, h2, h3⟩ := h.b k cs hk
  refine ⟨c, e, h1, agg_mk h2 fun o x hx => ?_⟩
  obtain ⟨u, hu, hrx, hcv, h10⟩ := h.cell hk hx
  have hu' := hu
  rw [cell_at h1] at hu'
  refine ⟨u, hu', RVx.self (hrx.grow end_grow fun b o' hb => ⟨?_, rfl⟩), h10⟩
  rcases hb with hb | hb
  · exact .inl hb
  · simp only [cellB] at hb
    cases hw : wr (σ.rb k o) with
    | false => rw [hw] at hb; cases hb
    | true => rw [hw] at hb; exact .inr ⟨.cell k o, hw, hb⟩

end Go.Ab

namespace Go.Ab
open Go Go.RowKit

variable {P : Program} {E : Ent} {μ : Nat → Nat} {S : Cells} {w : World} {a : Act} {σ : St} {C : Orc}

def resOne (tmps : Array Value) : ResultVar → Sem Value
  | .tmp t => pure (tmps.getD t Go.undef)
  | .cell x t => do loadVar t (← asAddr (tmps.getD x Go.undef))

/-- What the results are. -/
theorem ress_ok (h : Rel E μ S w a σ) : ∀ (rs : List ResultVar) (ts : List TypeId) (out : List Res) (vs : List AV), slimRes P rs ts = some out → ress σ out = some vs →
    ∃ us : List Value, (rs.mapM (resOne a.tmps)).run P w = .ok us w ∧ us.length = vs.length ∧
      ∀ (j : Nat) u v, us[j]? = some u → vs[j]? = some v → RV w (endS S μ w a σ) u v
  | [], ts, out, vs, ho, hv => by
    simp [slimRes] at ho
    subst ho
    simp [ress] at hv
    subst hv
    exact ⟨[], by simp, rfl, fun j u v hu => by simp at hu⟩
  | .tmp t :: rs, [], out, vs, ho, hv => by simp [slimRes] at ho
  | .cell x t :: rs, [], out, vs, ho, hv => by simp [slimRes] at ho
  | .tmp t :: rs, ty :: ts, out, vs, ho, hv => by
    simp only [slimRes, Option.map_eq_some_iff] at ho
    obtain ⟨out', h1, rfl⟩ := ho
    simp only [ress, Option.bind_eq_some_iff, Option.map_eq_some_iff] at hv
    obtain ⟨v, h2, vs', h3, rfl⟩ := hv
    obtain ⟨us, h4, h5, h6⟩ := ress_ok h rs ts out' vs' h1 h3
    cases hp : isPtr P ty with
    | true => rw [hp] at h2; simp [Res.ev] at h2
    | false =>
      rw [hp] at h2
      simp [Res.ev] at h2
      subst h2
      refine ⟨tv a t :: us, ?_, by simp [h5], ?_⟩
      · have e1 : (resOne a.tmps (.tmp t)).run P w = .ok (tv a t) w := rfl
        simp only [List.mapM_cons, Sem.run_bind, e1, Result.andThen_ok, h4]
        rfl
      · intro j u v hu hv
        cases j with
        | zero => simp at hu hv; subst hu; subst hv; exact end_tmp h t
        | succ j => exact h6 j u v (by simpa using hu) (by simpa using hv)
  | .cell x t :: rs, ty :: ts, out, vs, ho, hv => by
    simp only [slimRes, Option.bind_eq_some_iff, Option.map_eq_some_iff] at ho
    obtain ⟨ag, hag, sz, hsz, out', h1, rfl⟩ := ho
    simp only [ress, Option.bind_eq_some_iff, Option.map_eq_some_iff] at hv
    obtain ⟨v, h2, vs', h3, rfl⟩ := hv
    obtain ⟨us, h4, h5, h6⟩ := ress_ok h rs ts out' vs' h1 h3
    simp only [Res.ev] at h2
    split at h2
    case h_2 => cases h2
    rename_i k o hp
    simp only [Option.bind_eq_some_iff] at h2
    obtain ⟨cs, hk, ys, hys, hone⟩ := h2
    have hpx := h.p x
    rw [hp] at hpx
    have hv : tv a x = .pointer (some ⟨μ k, o, none⟩) := (rp_ptr hpx).1
    obtain ⟨c, e, hc, hrv⟩ := end_cell h hk
    obtain ⟨hle, _, hl, hget⟩ := sub_get hys
    obtain ⟨u, hu, hur⟩ := run_loadVar (P := P) (t := t) (w := w) (S := endS S μ w a σ) (ad := ⟨μ k, o, none⟩) hag (fun _ => hsz) hl rfl (fun j y hj => by
      have hjs : j < sz := by rw [← hl]; exact (List.getElem?_eq_some_iff.1 hj).1
      rw [hget j hjs] at hj
      obtain ⟨u, hu, h7, h8⟩ := agg_get hrv hj
      exact ⟨u, by rw [cell_at hc]; exact hu, h7, h8⟩) hone
    refine ⟨u :: us, ?_, by simp [h5], ?_⟩
    · have e1 : (resOne a.tmps (.cell x t)).run P w = .ok u w := by
        have e2 : a.tmps.getD x Go.undef = .pointer (some ⟨μ k, o, none⟩) := hv
        simp only [resOne, e2]
        simp [asAddr, hu]
      simp only [List.mapM_cons, Sem.run_bind, e1, Result.andThen_ok, h4]
      rfl
    · intro j u' v' hu' hv'
      cases j with
      | zero => simp at hu' hv'; subst hu'; subst hv'; exact hur
      | succ j => exact h6 j u' v' (by simpa using hu') (by simpa using hv')

end Go.Ab

namespace Go.Ab
open Go Go.RowKit

variable {P : Program} {E : Ent} {μ : Nat → Nat} {S : Cells} {w : World} {a : Act} {σ : St} {C : Orc}

def tupV : List Value → Value
  | [v] => v
  | vs => .tuple vs.toArray

theorem run_results {fn : Func} {tmps : Array Value} {us : List Value} (h : (fn.results.toList.mapM (resOne tmps)).run P w = .ok us w) :
    (results fn tmps).run P w = .ok (tupV us) w := by
  have : results fn tmps = (do
    let vs ← fn.results.mapM (resOne tmps)
    pure (if h : vs.size = 1 then vs[0] else .tuple vs)) := rfl
  rw [this, Array.mapM_eq_mapM_toList]
  have hm : ((List.toArray <$> fn.results.toList.mapM (resOne tmps) : Sem (Array Value))).run P w = .ok us.toArray w := by
    rw [map_eq_pure_bind]
    simp [h]
  simp only [Sem.run_bind, hm, Result.andThen_ok]
  cases us with
  | nil => rfl
  | cons u us => cases us <;> rfl

end Go.Ab

namespace Go.Ab
open Go Go.RowKit

variable {P : Program} {E : Ent} {μ : Nat → Nat} {S : Cells} {w : World} {a : Act} {σ : St} {C : Orc}

theorem back_get : ∀ (n j : Nat) {bs : List (List AV)}, back σ j n = some bs → bs.length = n ∧ ∀ i c, bs[i]? = some c → σ.b (j + i) = some c
  | 0, j, bs, h => by simp [back] at h; subst h; exact ⟨rfl, fun i c hi => by simp at hi⟩
  | n + 1, j, bs, h => by
    simp only [back, Option.bind_eq_some_iff, Option.map_eq_some_iff] at h
    obtain ⟨c, h1, bs', h2, rfl⟩ := h
    obtain ⟨h3, h4⟩ := back_get n (j + 1) h2
    refine ⟨by simp [h3], fun i c' hi => ?_⟩
    cases i with
    | zero => simp at hi; subst hi; exact h1
    | succ i => rw [show j + (i + 1) = j + 1 + i by omega]; exact h4 i c' (by simpa using hi)

theorem end_callIn (h : Rel E μ S w a σ) {bs : List (List AV)} (hnd : E.ν.Nodup) (hb : back σ 1000000 E.ν.length = some bs) : CallIn w (endS S μ w a σ) E.ν bs := by
  obtain ⟨hl, hg⟩ := back_get _ _ hb
  have live : ∀ (j : Nat) b, E.ν[j]? = some b → ∃ cs, bs[j]? = some cs ∧ σ.b (1000000 + j) = some cs ∧ μ (1000000 + j) = b := by
    intro j b hj
    have hjl := (List.getElem?_eq_some_iff.1 hj).1
    have : bs[j]? = some (bs[j]'(by omega)) := List.getElem?_eq_getElem _
    exact ⟨_, this, hg j _ this, h.hν j b hj⟩
  refine ⟨hl.symm, hnd, ?_, ?_⟩
  · intro b o hb'
    have notin : (∀ k, σ.b k ≠ none → μ k ≠ b) → b ∉ E.ν := by
      intro hk hm
      obtain ⟨j, hj⟩ := List.mem_iff_getElem?.1 hm
      obtain ⟨cs, _, h2, h3⟩ := live j b hj
      exact hk _ (by rw [h2]; simp) h3
    rcases hb' with hb' | ⟨l, h1, h2⟩
    · exact ⟨(h.st b o hb').1, notin (h.st b o hb').2⟩
    · obtain ⟨x, n, c, e, _⟩ := h.own l (wr_ne h1)
      have e' := e
      rw [e] at h2
      obtain ⟨ad, rfl, h3, h4⟩ := blockOf_some h2
      obtain ⟨h5, _, h6⟩ := h.owning_lt ⟨wr_ne h1, ad, n, c, e', h3, .inr ⟨h1, h4⟩⟩
      exact ⟨h5, notin h6⟩
  · intro j b cs hj hcs
    obtain ⟨cs', h1, h2, h3⟩ := live j b hj
    rw [hcs] at h1; injection h1 with h1; subst h1
    obtain ⟨c, e, h4, h5⟩ := end_cell h h2
    exact ⟨c, e, by rw [← h3]; exact h4, h5⟩

theorem end_s1 (h : Rel E μ S w a σ) : ∀ b o, endS S μ w a σ b o → E.S0 b o ∨ E.w0.heap.size ≤ b := by
  intro b o hb
  rcases hb with hb | ⟨l, h1, h2⟩
  · exact h.s1 b o hb
  · obtain ⟨x, n, c, e, _⟩ := h.own l (wr_ne h1)
    have e' := e
    rw [e] at h2
    obtain ⟨ad, rfl, h3, h4⟩ := blockOf_some h2
    exact .inr (h.owning_lt ⟨wr_ne h1, ad, n, c, e', h3, .inr ⟨h1, h4⟩⟩).2.1

end Go.Ab

namespace Go.Ab
open Go Go.RowKit

variable {P : Program} {E : Ent} {μ : Nat → Nat} {S : Cells} {w : World} {a : Act} {σ : St} {C : Orc}

theorem rv_tupled {w : World} {S : Cells} {us : List Value} {vs : List AV} (hl : us.length = vs.length)
    (h : ∀ (j : Nat) u v, us[j]? = some u → vs[j]? = some v → RV w S u v) : RV w S (tupV us) (tupled vs) := by
  have key : RV w S (.tuple us.toArray) (.tup vs) := by
    refine .tup _ _ (fun j => us.getD j Go.undef) (by simpa using hl) ?_ ?_
    · intro j x hj
      have := (List.getElem?_eq_some_iff.1 hj).1
      have hj' : us[j]? = some (us[j]'(by omega)) := List.getElem?_eq_getElem _
      simp [List.getD_eq_getElem?_getD, hj']
    · intro j x hj
      have := (List.getElem?_eq_some_iff.1 hj).1
      have hj' : us[j]? = some (us[j]'(by omega)) := List.getElem?_eq_getElem _
      rw [List.getD_eq_getElem?_getD, hj', Option.getD_some]
      exact h j _ x hj' hj
  cases us with
  | nil => cases vs with
    | nil => exact key
    | cons => simp at hl
  | cons u us => cases us with
    | nil => cases vs with
      | nil => simp at hl
      | cons v vs => cases vs with
        | nil => exact h 0 u v rfl rfl
        | cons => simp at hl
    | cons u2 us => cases vs with
      | nil => simp at hl
      | cons v vs => cases vs with
        | nil => simp at hl
        | cons v2 vs => exact key

/-- The end of a call. -/
theorem finish_ok (h : Rel E μ S w a σ) {fn : Func} {F : SF} {r : PV × List (List AV)} (hnd : E.ν.Nodup) (hres : slimRes P fn.results.toList fn.resultTypes.toList = some F.res)
    (hf : finish F E.ν.length σ = some r) : ∃ v, (results fn a.tmps).run P w = .ok v w ∧ CallOut E.w0 E.S0 E.ν r v w := by
  unfold finish at hf
  simp only [Option.bind_eq_some_iff] at hf
  obtain ⟨bs, hback, hf⟩ := hf
  have hin := end_callIn h hnd hback
  have h0 : ∀ b o, E.S0 b o → endS S μ w a σ b o := fun b o hb => .inl (h.s0 b o hb)
  have h1 := end_s1 h
  have gen : (ress σ F.res).map (fun vs => (PV.val (tupled vs), bs)) = some r → ∃ v, (results fn a.tmps).run P w = .ok v w ∧ CallOut E.w0 E.S0 E.ν r v w := by
    intro hf
    simp only [Option.map_eq_some_iff] at hf
    obtain ⟨vs, hvs, rfl⟩ := hf
    obtain ⟨us, hrun, hl, hrv⟩ := ress_ok h _ _ _ _ hres hvs
    exact ⟨_, run_results hrun, endS S μ w a σ, bs, h.keep, h0, h1, hin, .inl ⟨_, rfl, rv_tupled hl hrv⟩⟩
  split at hf
  case h_2 => exact gen hf
  rename_i t hF
  split at hf
  case h_2 => cases hf
  rename_i k o hp
  obtain ⟨hk, hf⟩ := bif_some hf
  simp only [Option.map_eq_some_iff] at hf
  obtain ⟨c, hc, rfl⟩ := hf
  have hk : k < 1000000 := by simpa using hk
  rw [hF] at hres
  -- the result is one temporary
  have hr1 : fn.results.toList = [.tmp t] := by
    generalize fn.results.toList = rs at hres
    generalize fn.resultTypes.toList = ts at hres
    cases rs with
    | nil => simp [slimRes] at hres
    | cons x rs =>
      cases x with
      | cell x t' =>
        cases ts with
        | nil => simp [slimRes] at hres
        | cons ty ts => simp [slimRes, Option.bind_eq_some_iff] at hres
      | tmp t' =>
        cases ts with
        | nil => simp [slimRes] at hres
        | cons ty ts =>
          simp only [slimRes, Option.map_eq_some_iff] at hres
          obtain ⟨out, h2, h3⟩ := hres
          cases rs with
          | cons y rs =>
            cases out with
            | cons => simp at h3
            | nil =>
              cases y with
              | tmp =>
                cases ts with
                | nil => simp [slimRes] at h2
                | cons => simp [slimRes] at h2
              | cell =>
                cases ts with
                | nil => simp [slimRes] at h2
                | cons => simp [slimRes, Option.bind_eq_some_iff] at h2
          | nil =>
            simp [slimRes] at h2
            subst h2
            cases hpt : isPtr P ty with
            | true => rw [hpt] at h3; simp at h3; rw [h3]
            | false => rw [hpt] at h3; simp at h3
  have hpx := h.p t
  rw [hp] at hpx
  have hv : tv a t = .pointer (some ⟨μ k, o, none⟩) := (rp_ptr hpx).1
  have hrun : (results fn a.tmps).run P w = .ok (.pointer (some ⟨μ k, o, none⟩)) w := by
    have hm : (fn.results.toList.mapM (resOne a.tmps)).run P w = .ok [.pointer (some ⟨μ k, o, none⟩)] w := by
      rw [hr1]
      have e1 : (resOne a.tmps (.tmp t)).run P w = .ok (tv a t) w := rfl
      simp only [List.mapM_cons, List.mapM_nil, Sem.run_bind, e1, Result.andThen_ok, hv]
      rfl
    exact run_results hm
  obtain ⟨arr, e, harr, hrv⟩ := end_cell h hc
  have hlive : σ.b k ≠ none := by rw [hc]; simp
  obtain ⟨hl, hg⟩ := back_get _ _ hback
  refine ⟨_, hrun, endS S μ w a σ, bs, h.keep, h0, h1, hin, .inr ⟨0, o, μ k, c, arr, e, rfl, rfl, ?_, ?_, harr, hrv⟩⟩
  · rcases h.mine k hlive with hm | hm
    · exfalso
      obtain ⟨j, hj⟩ := List.mem_iff_getElem?.1 hm
      have hjl := (List.getElem?_eq_some_iff.1 hj).1
      have hb := hg j _ (List.getElem?_eq_getElem (by omega))
      have := h.inj k (1000000 + j) hlive (by rw [hb]; simp) (h.hν j _ hj).symm
      omega
    · exact hm
  · intro o' hb
    rcases hb with hb | ⟨l, h2, h3⟩
    · exact (h.st _ _ hb).2 k hlive rfl
    · obtain ⟨x, n, c', e', _⟩ := h.own l (wr_ne h2)
      have e2 := e'
      rw [e'] at h3
      obtain ⟨ad, rfl, h4, h5⟩ := blockOf_some h3
      obtain ⟨x', n', c2, e3, h6⟩ := h.own l (wr_ne h2)
      rw [e2] at e3
      injection e3 with e3 e4 e5
      subst e3; subst e4
      have := (h6.2.2 ad rfl (.inr ⟨h2, h5⟩)).2.2.2.2 k hlive
      exact this h4.symm

theorem body_ok (hC : Sound P C) (hL : LibOK P) (hm : P.follows .mixedOrders = true) {A : Ann} {f : FuncId} {F : SF} (hF : slimF P A f = some F) {k : Nat} {as : List PV} {bs : List (List AV)} {r : PV × List (List AV)}
    (hb : body C k F as bs = some r) : Callable P f ∧ ∀ (args : Array Value) w S ν, CallIn w S ν bs → args.size = as.length →
    (∀ (j : Nat) q v, as[j]? = some q → args[j]? = some v → RP w S (muOf ν) (liveOf ν) S (fun _ => Go.undef) (fun _ => 0) v q) →
    Calls P f args w fun e w' => ∃ v, e = .returned v ∧ CallOut w S ν r v w' := by
  unfold slimF at hF
  simp only [Option.bind_eq_some_iff] at hF
  obtain ⟨fn, hfn, c, hbody, hF⟩ := hF
  obtain ⟨hc, hF⟩ := bif_some hF
  simp only [Bool.and_eq_true, Option.bind_eq_some_iff, Option.map_eq_some_iff] at hc hF
  obtain ⟨b, hsl, rs, hrs, rfl⟩ := hF
  have h6 : fn.ntmps ≤ 1000000 := by simpa using hc.1
  refine ⟨⟨fn, hfn, by have := hc.2; simpa using this, by rw [hbody]; rfl⟩, ?_⟩
  intro args w S ν hin hsz hrp
  unfold body at hb
  obtain ⟨hc2, hb⟩ := bif_some hb
  simp only [Bool.and_eq_true] at hc2
  have hT : as.length ≤ fn.ntmps := by simpa using hc2.1
  refine calls_of_wp hfn hbody ?_
  have hst := start_ok (T := fn.ntmps) hin hT hsz hc2.2 hrp
  refine exec_ok (E := ⟨w, ν, S, fn.ntmps⟩) hC hL hm h6 c A b hsl _ _ _ w _ hb ⟨_, _, hst⟩ ?_
  intro o σ' a' w' ⟨μ', S', h'⟩ hk
  have key : ∀ o, (o = .norm ∨ o = .ret) → finish ⟨fn.ntmps, b, rs⟩ bs.length σ' = some r → bodyPost P fn (fun e w' => ∃ v, e = .returned v ∧ CallOut w S ν r v w') (outE o) a' w' := by
    intro o ho hk
    rw [← hin.len] at hk
    obtain ⟨v, h1, h2⟩ := finish_ok h' (fn := fn) (F := ⟨fn.ntmps, b, rs⟩) hin.nd hrs hk
    rcases ho with rfl | rfl
    · exact ⟨h'.hd, v, h1, v, rfl, h2⟩
    · exact ⟨h'.hd, v, h1, v, rfl, h2⟩
  cases o with
  | norm => exact key _ (.inl rfl) hk
  | ret => exact key _ (.inr rfl) hk
  | exit id => simp [fin] at hk

/-- One function more. -/
theorem sound_ext (hC : Sound P C) (hL : LibOK P) (hm : P.follows .mixedOrders = true) {A : Ann} {f : FuncId} {F : SF} (hF : slimF P A f = some F)
    (g : List PV → List (List AV) → Option (PV × List (List AV))) (hg : ∀ as bs r, g as bs = some r → ∃ k, body C k F as bs = some r) :
    Sound P fun f' as bs => bif Nat.beq f' f then g as bs else C f' as bs := by
  intro f' as bs r h
  cases hb : Nat.beq f' f with
  | true =>
    have := Nat.eq_of_beq_eq_true hb
    subst this
    simp only [hb, cond_true] at h
    obtain ⟨k, hk⟩ := hg as bs r h
    exact body_ok hC hL hm hF hk
  | false =>
    simp only [hb, cond_false] at h
    exact hC f' as bs r h

end Go.Ab

namespace Go.Ab
open Go

/-- What must hold for the operation not to panic; 'ok': nothing. -/
inductive Ck where
  | ok
  | chk (b : Bool)

def Ck.val : Ck → Bool
  | .ok => true
  | .chk b => b
def Ck.and : Ck → Ck → Ck
  | .ok, c => c
  | c, .ok => c
  | .chk a, .chk b => .chk (a && b)
def Ck.under (b : Bool) : Ck → Ck
  | .ok => .ok
  | .chk c => .chk (!b || c)
def Ck.go {R : Type} (c : Ck) (x : Option R) : Option R :=
  match c with
  | .ok => x
  | .chk b => bif b then x else none

/-- Calls: what must hold, the result, what the blocks behind the pointers hold then. -/
abbrev OrcT := FuncId → List PV → List (List AV) → Option (Ck × (PV × List (List AV)))
def OrcT.orc (C : OrcT) : Orc := fun f as bs => match C f as bs with
  | some (c, r) => c.go (some r)
  | none => none

def intT (op : BinOp) (k : IntKind) (a b : Int) : Option (Ck × AV) :=
  match op with
  | .quo => some (.chk (!decide (b = 0)), .int k (k.wrap (a.tdiv b)))
  | .rem => some (.chk (!decide (b = 0)), .int k (a.tmod b))
  | op => (intOp op k a b).map fun v => (.ok, v)
def strT (op : BinOp) (x y : List UInt8) : Option (Ck × AV) :=
  match op with
  | .add => some (.chk (Nat.ble (x.length + y.length) most), .str (x ++ y))
  | op => (strOp op x y).map fun v => (.ok, v)
def binT (op : BinOp) : AV → AV → Option (Ck × AV)
  | .int k a, .int k' b =>
    match op with
    | .shl => some (.chk (decide (0 ≤ b)), .int k (k.wrap (a * 2 ^ (min b.toNat k.bits))))
    | .shr => some (.chk (decide (0 ≤ b)), .int k (a.fdiv (2 ^ (min b.toNat k.bits))))
    | op => if k = k' then intT op k a b else none
  | .str a, .str b => strT op a b
  | _, _ => none

def slcT (sz : Nat) (x : AV) (lo hi : Option Int) : Option (Ck × AV) :=
  match x with
  | .sl _ c l => bif Nat.beq (csz c) sz || Nat.beq (csz c) 0 then match lo, hi with
      | none, none => some (.ok, .sl false c l)
      | some a, none => some (.chk (decide (0 ≤ a) && decide (a ≤ l.length)), .sl false c (l.drop a.toNat))
      | none, some b => some (.chk (decide (0 ≤ b) && decide (b ≤ l.length)), .sl false c (l.take b.toNat))
      | some a, some b => some (.chk (decide (0 ≤ a) && (decide (a ≤ b) && decide (b ≤ l.length))), .sl false c ((l.take b.toNat).drop a.toNat))
    else none
  | _ => none
def sstrT (x : AV) (lo hi : Option Int) : Option (Ck × AV) :=
  match x with
  | .str s => match lo, hi with
      | none, none => some (.ok, .str s)
      | some a, none => some (.chk (decide (0 ≤ a) && decide (a ≤ s.length)), .str (s.drop a.toNat))
      | none, some b => some (.chk (decide (0 ≤ b) && decide (b ≤ s.length)), .str (s.take b.toNat))
      | some a, some b => some (.chk (decide (0 ≤ a) && (decide (a ≤ b) && decide (b ≤ s.length))), .str ((s.take b.toNat).drop a.toNat))
  | _ => none
def ixsT (x i : AV) : Option (Ck × AV) :=
  match x, i with
  | .str s, .int _ j => some (.chk (decide (0 ≤ j) && Nat.blt j.toNat s.length), .int .u8 (s.getD j.toNat 0).toNat)
  | _, _ => none
def ixaT (agg : Bool) (n sz : Nat) (x i : AV) : Option (Ck × AV) :=
  match x, i with
  | .agg cs, .int _ j => ((selN cs 0 n sz j.toNat 0 sz).bind (one agg)).map fun v => (.chk (decide (0 ≤ j) && decide (j < n)), v)
  | _, _ => none

def pickT (t : Bool) : AV → AV → AV
  | .bool x, .bool y => .bool (bif t then x else y)
  | x, y => bif t then x else y
def POp.evT (f : POp) (xs : List AV) : Option (Ck × AV) :=
  match f, xs with
  | .pick, [c, a, b] => c.asB.map fun t => (.ok, pickT t a b)
  | .bin op, [x, y] => binT op x y
  | .slc sz false false, [x] => slcT sz x none none
  | .slc sz true false, [x, l] => l.asI.bind fun l => slcT sz x (some l) none
  | .slc sz false true, [x, h] => h.asI.bind fun h => slcT sz x none (some h)
  | .slc sz true true, [x, l, h] => l.asI.bind fun l => h.asI.bind fun h => slcT sz x (some l) (some h)
  | .sstr false false, [x] => sstrT x none none
  | .sstr true false, [x, l] => l.asI.bind fun l => sstrT x (some l) none
  | .sstr false true, [x, h] => h.asI.bind fun h => sstrT x none (some h)
  | .sstr true true, [x, l, h] => l.asI.bind fun l => h.asI.bind fun h => sstrT x (some l) (some h)
  | .ixs, [x, i] => ixsT x i
  | .ixa agg n sz, [x, i] => ixaT agg n sz x i
  | f, xs => (f.ev xs).map fun v => (.ok, v)

/-- Of an array's element at a computed index. -/
def ixpT (n sz : Nat) (x : PV) (i : AV) : Option (Ck × PV) :=
  match i with
  | .int _ j => match x with
      | .ptr k o => some (.chk (decide (0 ≤ j) && decide (j < n)), .arr k o n sz j.toNat 0)
      | .row cs => (selN cs 0 n sz j.toNat 0 sz).map fun ys => (.chk (decide (0 ≤ j) && decide (j < n)), .row ys)
      | _ => none
  | _ => none

def onGrade (σ : St) (d : Nat) (x : Option (Ck × St)) : Option (Ck × St) := bif !wr (σ.rt d) then x else none

/-- An operation that is carried out: what must hold, what it comes to. -/
def stepT (C : OrcT) (o : SOp) (σ : St) : Option (Ck × St) :=
  match o with
  | .pure d f xs esc => bif σ.free esc && !wr (σ.rt d) then (f.evT (xs.map σ.ev)).map fun r => (r.1, σ.put d r.2) else none
  | .ixp d n sz x i => bif !wr (σ.rt d) && !wr (σ.rt x) then (ixpT n sz (σ.p x) (σ.ev i)).map fun r => (r.1, σ.putP d r.2 (σ.dep x)) else none
  | .ixr d sz x i => onGrade σ d (match σ.t x, σ.ev i with
      | .sl _ c l, .int _ n => bif Nat.beq (csz c) sz then some (.chk (decide (0 ≤ n) && Nat.blt n.toNat l.length), σ.putP d (.row (rowD c l n.toNat)) (σ.tie x)) else none
      | _, _ => none)
  | .ixw d sz x i =>
    match σ.tie x with
    | some l => onGrade σ d (bif Nat.beq (szg (σ.grade l)) sz then match σ.t x, σ.ev i with
        | .sl _ _ rows, .int _ n => some (.chk (decide (0 ≤ n) && Nat.blt n.toNat rows.length), σ.putP d (.wel l n.toNat 0) (some l))
        | _, _ => none else none)
    | none => none
  | .load d ag sz x =>
    match σ.p x with
    | .wel l i o => onGrade σ d (match σ.at l with
        | .sl _ c rows => ((sub (rowD c rows i) o sz).bind (one ag)).map fun v => (.chk (Nat.blt i rows.length), σ.put d v)
        | _ => none)
    | _ => (step C.orc none (.load d ag sz x) σ some).map fun σ' => (.ok, σ')
  | .store sz p x esc =>
    match σ.p p with
    | .wel l i o =>
      match σ.at l with
      | .sl f c rows =>
        bif σ.free esc && wr (σ.grade l) then
          bif Nat.beq (σ.ev x).cells.length sz && Nat.ble (o + sz) (csz c) then
            (dec c (splice (rowD c rows i) o (σ.ev x).cells)).map fun r => (.chk (Nat.blt i rows.length), (σ.kill false l).setAt l (.sl f c (rows.set i r)))
          else none
        else none
      | _ => none
    | _ => (step C.orc none (.store sz p x esc) σ some).map fun σ' => (.ok, σ')
  | .app d sz bytes x y str w => onGrade σ d (
      (appY str (σ.ev y)).bind fun ys => match σ.ev x, ys with
      | .sl _ c l, .sl _ c' l' => bif Nat.ble bytes 65536 && (szOk sz c && szOk sz c') then match appSl c l c' l' with
        | .dead => none
        | z => (match x with
          | .k v => bif v.full then some { σ.put d z with rt := upd σ.rt d (rts sz w) } else none
          | .t i =>
            match σ.rt i with
            | 0 => bif (σ.t i).full && σ.free [i] then some { σ.put d z with rt := upd σ.rt d (rts sz false) } else none
            | r => bif Nat.beq (szg r) sz && (match σ.dep i with | none => true | some _ => wr r) then
              let σ0 := bif wr r then { (σ.kill true (.tmp i)) with t := upd (σ.kill true (.tmp i)).t i .dead } else σ
              let σ' := σ0.put d z
              some { σ' with rt := upd (upd σ'.rt i 0) d r } else none).map fun σ' => (.chk (Nat.ble (l.length + l'.length) most), σ')
        else none
      | _, _ => none)
  | .mk d sz bytes e zero n c w => onGrade σ d (match σ.ev n, σ.ev c with
      | .int _ n, .int _ c => (dec e zero).bind fun z => bif Nat.beq (csz e) sz && Nat.ble bytes 65536 then
          some (.chk (decide (0 ≤ n) && (decide (n ≤ c) && decide (c ≤ most))), { σ.put d (.sl false e (List.replicate n.toNat z)) with rt := upd σ.rt d (rts sz w) }) else none
      | _, _ => none)
  | .lib d o sz bytes x w => onGrade σ d (match σ.ev x with
      | .sl _ c rs => bif Nat.ble bytes 65536 && szOk sz c then match o with
          | .clone => some (.chk (Nat.ble rs.length most), { σ.put d (.sl false c rs) with rt := upd σ.rt d (rts sz w) })
          | .clip => bif σ.free (match x with | .t i => [i] | .k _ => []) then some (.chk (Nat.ble rs.length most), σ.put d (.sl true c rs)) else none
          | .delete => none
        else none
      | _ => none)
  | .del d sz bytes x i j => onGrade σ d (match σ.t x, σ.ev i, σ.ev j with
      | .sl _ c rs, .int .i64 i, .int .i64 j => bif Nat.ble bytes 65536 && (szOk sz c && (wr (σ.rt x) && Nat.beq (szg (σ.rt x)) sz)) then
          let r := σ.rt x
          let σ0 := { (σ.kill true (.tmp x)) with t := upd (σ.kill true (.tmp x)).t x .dead }
          let σ' := σ0.put d (.sl false c (rs.take i.toNat ++ rs.drop j.toNat))
          some (.chk (decide (0 ≤ i) && (decide (i < j) && (decide (j ≤ (rs.length : Int)) && Nat.ble rs.length most))), { σ' with rt := upd (upd σ'.rt x 0) d r })
        else none
      | _, _, _ => none)
  | .call d f args esc fresh =>
    bif σ.free esc && !wr (σ.rt d) then
      let as := args.map (Arg.ev σ)
      let refs := keysAll [] as
      (getBlks σ.b refs).bind fun bs => bif freeB σ.rb refs bs then
        (wireAll refs as).bind fun as => (C f as bs).bind fun r =>
          match fresh with
          | false => r.2.1.asV.bind fun v => (setBlks σ.b refs r.2.2).map fun b => (r.1, { σ.put d v with b := b, rb := clrB σ.rb refs })
          | true =>
            match σ.b d, r.2.1 with
            | none, .ptr _ o => (setBlks σ.b (refs ++ [d]) r.2.2).map fun b => (r.1, { σ.putP d (.ptr d o) with b := b, rb := clrB σ.rb (refs ++ [d]) })
            | _, _ => none
      else none
    else none
  | .calld d x args esc =>
    match σ.p x with
    | .fn f a c =>
      bif σ.free esc && !wr (σ.rt d) then
        let as := a ++ args.map (Arg.ev σ) ++ c
        let refs := keysAll [] as
        (getBlks σ.b refs).bind fun bs => bif freeB σ.rb refs bs then
          (wireAll refs as).bind fun as => (C f as bs).bind fun r => r.2.1.asV.bind fun v => (setBlks σ.b refs r.2.2).map fun b => (r.1, { σ.put d v with b := b, rb := clrB σ.rb refs })
          else none
      else none
    | _ => none
  | o => (step C.orc none o σ some).map fun σ' => (.ok, σ')

end Go.Ab

namespace Go.Ab
open Go

theorem intT_ok {op : BinOp} {k : IntKind} {a b : Int} {ck : Ck} {v : AV} (h : intT op k a b = some (ck, v)) (hc : ck.val = true) : intOp op k a b = some v := by
  cases op <;> simp only [intT, Option.map_eq_some_iff] at h
  case quo =>
    injection h with h; injection h with h1 h2; subst h1; subst h2
    simp [Ck.val] at hc
    simp [intOp, hc]
  case rem =>
    injection h with h; injection h with h1 h2; subst h1; subst h2
    simp [Ck.val] at hc
    simp [intOp, hc]
  all_goals
    obtain ⟨x, hx, h⟩ := h
    injection h with h1 h2; subst h2
    exact hx

theorem strT_ok {op : BinOp} {a b : List UInt8} {ck : Ck} {v : AV} (h : strT op a b = some (ck, v)) (hc : ck.val = true) : strOp op a b = some v := by
  cases op <;> simp only [strT, Option.map_eq_some_iff] at h
  case add =>
    injection h with h; injection h with h1 h2; subst h1; subst h2
    have hc : Nat.ble (a.length + b.length) most = true := hc
    simp only [strOp, hc, cond_true]
  all_goals
    obtain ⟨x, hx, h⟩ := h
    injection h with h1 h2; subst h2
    exact hx

theorem binT_ok {op : BinOp} {x y : AV} {ck : Ck} {v : AV} (h : binT op x y = some (ck, v)) (hc : ck.val = true) : binA op x y = some v := by
  cases x <;> cases y <;> simp only [binT] at h <;> try (cases h; done)
  · rename_i k a k' b
    have gen : (if k = k' then intT op k a b else none) = some (ck, v) → (if k = k' then intOp op k a b else none) = some v := by
      intro h
      split at h
      · rename_i e; rw [if_pos e]; exact intT_ok h hc
      · cases h
    cases op <;> simp only at h gen ⊢
    case shl =>
      injection h with h; injection h with h1 h2; subst h1; subst h2
      have hc : 0 ≤ b := by simpa [Ck.val] using hc
      simp [binA, shiftOp, show ¬ b < 0 by omega]
    case shr =>
      injection h with h; injection h with h1 h2; subst h1; subst h2
      have hc : 0 ≤ b := by simpa [Ck.val] using hc
      simp [binA, shiftOp, show ¬ b < 0 by omega]
    all_goals exact gen h
  · exact strT_ok h hc

theorem slcT_ok {sz : Nat} {x : AV} {lo hi : Option Int} {ck : Ck} {v : AV} (h : slcT sz x lo hi = some (ck, v)) (hc : ck.val = true) : slcAt sz x lo hi = some v := by
  cases x <;> simp only [slcT] at h <;> try (cases h; done)
  rename_i f c l
  obtain ⟨h0, h⟩ := bif_some0 h
  have e : ∀ a b, rng l.length a b = some (a.toNat, b.toNat) → slcAt sz (.sl f c l) (some a) (some b) = some (.sl false c ((l.take b.toNat).drop a.toNat)) := by
    intro a b hr
    simp only [slcAt, h0, cond_true, Option.getD_some, hr, Option.map_some]
  cases lo with
  | none =>
    cases hi with
    | none =>
      injection h with h; injection h with h1 h2; subst h2
      simp only [slcAt, h0, cond_true, Option.getD_none]
      simp [rng]
    | some b =>
      injection h with h; injection h with h1 h2; subst h1; subst h2
      simp only [Ck.val, Bool.and_eq_true, decide_eq_true_iff] at hc
      simp only [slcAt, h0, cond_true, Option.getD_none, Option.getD_some]
      simp [rng, hc]
  | some a =>
    cases hi with
    | none =>
      injection h with h; injection h with h1 h2; subst h1; subst h2
      simp only [Ck.val, Bool.and_eq_true, decide_eq_true_iff] at hc
      simp only [slcAt, h0, cond_true, Option.getD_none, Option.getD_some]
      simp [rng, hc]
    | some b =>
      injection h with h; injection h with h1 h2; subst h1; subst h2
      simp only [Ck.val, Bool.and_eq_true, decide_eq_true_iff] at hc
      simp only [slcAt, h0, cond_true, Option.getD_some]
      simp [rng, hc]

theorem sstrT_ok {x : AV} {lo hi : Option Int} {ck : Ck} {v : AV} (h : sstrT x lo hi = some (ck, v)) (hc : ck.val = true) : sstrAt x lo hi = some v := by
  cases x <;> simp only [sstrT] at h <;> try (cases h; done)
  rename_i s
  cases lo with
  | none =>
    cases hi with
    | none =>
      injection h with h; injection h with h1 h2; subst h2
      simp [sstrAt, rng]
    | some b =>
      injection h with h; injection h with h1 h2; subst h1; subst h2
      simp only [Ck.val, Bool.and_eq_true, decide_eq_true_iff] at hc
      simp [sstrAt, rng, hc]
  | some a =>
    cases hi with
    | none =>
      injection h with h; injection h with h1 h2; subst h1; subst h2
      simp only [Ck.val, Bool.and_eq_true, decide_eq_true_iff] at hc
      simp [sstrAt, rng, hc]
    | some b =>
      injection h with h; injection h with h1 h2; subst h1; subst h2
      simp only [Ck.val, Bool.and_eq_true, decide_eq_true_iff] at hc
      simp [sstrAt, rng, hc]

theorem ixsT_ok {x i : AV} {ck : Ck} {v : AV} (h : ixsT x i = some (ck, v)) (hc : ck.val = true) : ixsAt x i = some v := by
  cases x <;> cases i <;> simp only [ixsT] at h <;> try (cases h; done)
  rename_i s k j
  injection h with h; injection h with h1 h2; subst h1; subst h2
  simp only [Ck.val, Bool.and_eq_true, decide_eq_true_iff] at hc
  have hlt : j.toNat < s.length := by simpa [Nat.blt_eq] using hc.2
  simp [ixsAt, hc.1, hlt]

theorem ixaT_ok {ag : Bool} {n sz : Nat} {x i : AV} {ck : Ck} {v : AV} (h : ixaT ag n sz x i = some (ck, v)) (hc : ck.val = true) : ixaAt ag n sz x i = some v := by
  cases x <;> cases i <;> simp only [ixaT] at h <;> try (cases h; done)
  simp only [Option.map_eq_some_iff] at h
  obtain ⟨y, hy, h⟩ := h
  injection h with h1 h2; subst h1; subst h2
  simp only [Ck.val, Bool.and_eq_true, decide_eq_true_iff] at hc
  simp only [ixaAt]
  rw [if_pos hc]; exact hy

theorem pickT_eq (t : Bool) (a b : AV) : pickT t a b = bif t then a else b := by
  cases a <;> cases b <;> cases t <;> rfl

theorem evT_ok {f : POp} {xs : List AV} {ck : Ck} {v : AV} (h : f.evT xs = some (ck, v)) (hc : ck.val = true) : f.ev xs = some v := by
  unfold POp.evT at h
  split at h
  · rename_i c a b
    simp only [Option.map_eq_some_iff] at h
    obtain ⟨t, ht, h⟩ := h
    injection h with h1 h2; subst h2
    simp only [POp.ev, ht, Option.map_some, pickT_eq]
  · exact binT_ok h hc
  · exact slcT_ok h hc
  · simp only [Option.bind_eq_some_iff] at h
    obtain ⟨l, hl, h⟩ := h
    simp only [POp.ev, hl, Option.bind_some]; exact slcT_ok h hc
  · simp only [Option.bind_eq_some_iff] at h
    obtain ⟨l, hl, h⟩ := h
    simp only [POp.ev, hl, Option.bind_some]; exact slcT_ok h hc
  · simp only [Option.bind_eq_some_iff] at h
    obtain ⟨l, hl, u, hu, h⟩ := h
    simp only [POp.ev, hl, hu, Option.bind_some]; exact slcT_ok h hc
  · exact sstrT_ok h hc
  · simp only [Option.bind_eq_some_iff] at h
    obtain ⟨l, hl, h⟩ := h
    simp only [POp.ev, hl, Option.bind_some]; exact sstrT_ok h hc
  · simp only [Option.bind_eq_some_iff] at h
    obtain ⟨l, hl, h⟩ := h
    simp only [POp.ev, hl, Option.bind_some]; exact sstrT_ok h hc
  · simp only [Option.bind_eq_some_iff] at h
    obtain ⟨l, hl, u, hu, h⟩ := h
    simp only [POp.ev, hl, hu, Option.bind_some]; exact sstrT_ok h hc
  · exact ixsT_ok h hc
  · exact ixaT_ok h hc
  · simp only [Option.map_eq_some_iff] at h
    obtain ⟨y, hy, h⟩ := h
    injection h with h1 h2; subst h2
    exact hy

variable {C : OrcT} {σ σ' : St} {ck : Ck}

theorem onGrade_some {d : Nat} {x : Option (Ck × St)} {r : Ck × St} (h : onGrade σ d x = some r) : (!wr (σ.rt d)) = true ∧ x = some r := bif_some0 h

theorem blt_lt {a b : Nat} (h : Nat.blt a b = true) : a < b := by simpa [Nat.blt_eq] using h

theorem step_gen {o : SOp} (h : ((step C.orc none o σ some).map fun σ' => (Ck.ok, σ')) = some (ck, σ')) : step C.orc none o σ some = some σ' := by
  simp only [Option.map_eq_some_iff] at h
  obtain ⟨y, hy, h⟩ := h
  injection h with h1 h2; subst h2; exact hy

theorem orc_some {f : FuncId} {as : List PV} {bs : List (List AV)} {r : Ck × (PV × List (List AV))} (h : C f as bs = some r) (hc : r.1.val = true) : C.orc f as bs = some r.2 := by
  obtain ⟨c, r⟩ := r
  simp only [OrcT.orc, h]
  cases c with
  | ok => rfl
  | chk b => have : b = true := hc; subst this; rfl

theorem ixpT_ok {n sz : Nat} {x : PV} {i : AV} {q : PV} (hq : ixpT n sz x i = some (ck, q)) (hc : ck.val = true) : ixpAt n sz x i = some q := by
  unfold ixpT at hq
  cases i <;> simp only at hq <;> try (cases hq; done)
  cases x <;> simp only at hq <;> try (cases hq; done)
  · injection hq with hq; injection hq with h1 h2; subst h1; subst h2
    simp only [Ck.val, Bool.and_eq_true, decide_eq_true_iff] at hc
    simp only [ixpAt]
    rw [if_pos hc]
  · simp only [Option.map_eq_some_iff] at hq
    obtain ⟨ys, hys, hq⟩ := hq
    injection hq with h1 h2; subst h1; subst h2
    simp only [Ck.val, Bool.and_eq_true, decide_eq_true_iff] at hc
    simp only [ixpAt]
    rw [if_pos hc, hys]; rfl

theorem stepT_ok {o : SOp} (h : stepT C o σ = some (ck, σ')) (hc : ck.val = true) : step C.orc none o σ some = some σ' := by
  cases o with
  | pure d f xs esc =>
    simp only [stepT] at h
    obtain ⟨h0, h⟩ := bif_some0 h
    simp only [Option.map_eq_some_iff] at h
    obtain ⟨⟨ck', v⟩, hv, h⟩ := h
    injection h with h1 h2; subst h1; subst h2
    simp only [step, h0, cond_true, gd, evT_ok hv hc, Option.bind_some]
  | ixp d n sz x i =>
    simp only [stepT] at h
    obtain ⟨h0, h⟩ := bif_some0 h
    simp only [Option.map_eq_some_iff] at h
    obtain ⟨⟨ck', q⟩, hq, h⟩ := h
    injection h with h1 h2; subst h1; subst h2
    simp only [step, h0, cond_true]
    unfold ixpT at hq
    cases hi : σ.ev i <;> rw [hi] at hq <;> simp only at hq <;> try (cases hq; done)
    cases hp : σ.p x <;> rw [hp] at hq <;> simp only at hq <;> try (cases hq; done)
    · injection hq with hq; injection hq with h1 h2; subst h1; subst h2
      simp only [Ck.val, Bool.and_eq_true, decide_eq_true_iff] at hc
      simp only [PV.force, ixpAt]
      rw [if_pos hc]; rfl
    · simp only [Option.map_eq_some_iff] at hq
      obtain ⟨ys, hys, hq⟩ := hq
      injection hq with h1 h2; subst h1; subst h2
      simp only [Ck.val, Bool.and_eq_true, decide_eq_true_iff] at hc
      simp only [PV.force, ixpAt]
      rw [if_pos hc, hys]; rfl
  | ixr d sz x i =>
    simp only [stepT] at h
    obtain ⟨h0, h⟩ := onGrade_some h
    split at h
    case h_2 => cases h
    rename_i f c l k n hx hi
    obtain ⟨hz, h⟩ := bif_some0 h
    injection h with h; injection h with h1 h2; subst h1; subst h2
    simp only [Ck.val, Bool.and_eq_true, decide_eq_true_iff] at hc
    have hlt := blt_lt hc.2
    have hg : l[n.toNat]? = some (l[n.toNat]) := List.getElem?_eq_getElem hlt
    simp only [step, h0, cond_true, hx, hi, ixrAt, hz, if_pos hc.1, hg, Option.map_some, Option.bind_some, rowD_get c l _ _ hg]
  | ixw d sz x i =>
    simp only [stepT] at h
    split at h
    case h_2 => cases h
    rename_i l hl
    obtain ⟨h0, h⟩ := onGrade_some h
    obtain ⟨hz, h⟩ := bif_some0 h
    split at h
    case h_2 => cases h
    rename_i f c rows k n hx hi
    injection h with h; injection h with h1 h2; subst h1; subst h2
    simp only [Ck.val, Bool.and_eq_true, decide_eq_true_iff] at hc
    have hlt := blt_lt hc.2
    simp only [step, hl, h0, cond_true, hz, hx, hi, AV.asI, Option.bind_some]
    rw [if_pos ⟨hc.1, by omega⟩]
  | load d ag sz x =>
    simp only [stepT] at h
    split at h
    case h_2 => exact step_gen h
    rename_i l i o hp
    obtain ⟨h0, h⟩ := onGrade_some h
    split at h
    case h_2 => cases h
    rename_i f c rows hat
    simp only [Option.map_eq_some_iff] at h
    obtain ⟨v, hv, h⟩ := h
    injection h with h1 h2; subst h1; subst h2
    have hlt := blt_lt hc
    have hg : rows[i]? = some (rows[i]) := List.getElem?_eq_getElem hlt
    rw [rowD_get c rows _ _ hg] at hv
    simp only [step, h0, cond_true, hp, PV.force, ldAt, hat, hg, Option.bind_some, hv, gd]
  | store sz p x esc =>
    simp only [stepT] at h
    split at h
    case h_2 => exact step_gen h
    rename_i l i o hp
    split at h
    case h_2 => cases h
    rename_i f c rows hat
    obtain ⟨h0, h⟩ := bif_some0 h
    obtain ⟨h1, h⟩ := bif_some0 h
    simp only [Option.map_eq_some_iff] at h
    obtain ⟨r, hr, h⟩ := h
    injection h with h2 h3; subst h2; subst h3
    have hlt := blt_lt hc
    have hg : rows[i]? = some (rows[i]) := List.getElem?_eq_getElem hlt
    rw [rowD_get c rows _ _ hg] at hr
    simp only [Bool.and_eq_true] at h1
    have e1 := Nat.eq_of_beq_eq_true h1.1
    have e2 := Nat.le_of_ble_eq_true h1.2
    simp only [step, hp, hat, h0, cond_true, hg, Option.bind_some, hr]
    rw [if_pos ⟨e1, e2⟩]
  | app d sz bytes x y str w =>
    simp only [stepT] at h
    obtain ⟨h0, h⟩ := onGrade_some h
    simp only [Option.bind_eq_some_iff] at h
    obtain ⟨ys, hys, h⟩ := h
    split at h
    case h_2 => cases h
    rename_i f c l f' c' l' hx
    obtain ⟨h1, h⟩ := bif_some0 h
    have key : ∀ z, z ≠ .dead → appSl c l c' l' = z → Nat.ble (l.length + l'.length) most = true → appAt sz bytes (σ.ev x) (.sl f' c' l') = some z := by
      intro z hz ha hl
      simp only [appAt, hx, h1, cond_true, hl, ha]
    cases ha : appSl c l c' l' <;> rw [ha] at h <;> simp only at h <;> try (cases h; done)
    all_goals
      simp only [Option.map_eq_some_iff] at h
      obtain ⟨σ1, h2, h⟩ := h
      injection h with h3 h4; subst h3; subst h4
      have hl : Nat.ble (l.length + l'.length) most = true := hc
      have := key _ (by simp) ha hl
      simp only [step, h0, cond_true, hys, Option.bind_some, this]
      cases x with
      | k v => exact h2
      | t i =>
        simp only at h2 ⊢
        cases hr : σ.rt i with
        | zero => rw [hr] at h2; exact h2
        | succ r => rw [hr] at h2; exact h2
  | mk d sz bytes e zero n c w =>
    simp only [stepT] at h
    obtain ⟨h0, h⟩ := onGrade_some h
    split at h
    case h_2 => cases h
    rename_i k1 n' k2 c' hn hc'
    simp only [Option.bind_eq_some_iff] at h
    obtain ⟨z, hz, h⟩ := h
    obtain ⟨h1, h⟩ := bif_some0 h
    injection h with h; injection h with h2 h3; subst h2; subst h3
    simp only [Ck.val, Bool.and_eq_true, decide_eq_true_iff] at hc
    simp only [step, h0, cond_true, hn, hc', AV.asI, Option.bind_some, hz, h1]
    rw [if_pos ⟨hc.1, hc.2.1, hc.2.2⟩]
  | lib d o sz bytes x w =>
    simp only [stepT] at h
    obtain ⟨h0, h⟩ := onGrade_some h
    split at h
    case h_2 => cases h
    rename_i f c rs hx
    obtain ⟨h1, h⟩ := bif_some0 h
    cases o with
    | clone =>
      injection h with h; injection h with h2 h3; subst h2; subst h3
      have hl : Nat.ble rs.length most = true := hc
      simp only [step, h0, cond_true, hx, h1, hl]
    | delete => cases h
    | clip =>
      simp only at h
      obtain ⟨h4, h⟩ := bif_some0 h
      injection h with h; injection h with h2 h3; subst h2; subst h3
      have hl : Nat.ble rs.length most = true := hc
      simp only [step, h0, cond_true, hx, h1, hl]
      cases x <;> (simp only at h4 ⊢; rw [h4]; rfl)
  | del d sz bytes x i j =>
    simp only [stepT] at h
    obtain ⟨h0, h⟩ := onGrade_some h
    split at h
    case h_2 => cases h
    rename_i f c rs i' j' hx hi hj
    obtain ⟨h1, h⟩ := bif_some0 h
    injection h with h; injection h with h2 h3; subst h2; subst h3
    simp only [Ck.val, Bool.and_eq_true, decide_eq_true_iff] at hc
    simp only [step, h0, cond_true, hx, hi, hj, AV.as64, Option.bind_some, h1]
    rw [if_pos ⟨hc.1, hc.2.1, hc.2.2.1, by have := Nat.le_of_ble_eq_true hc.2.2.2; omega⟩]
  | call d f args esc fresh =>
    simp only [stepT] at h
    obtain ⟨h0, h⟩ := bif_some0 h
    simp only [Option.bind_eq_some_iff] at h
    obtain ⟨bs, hbs, h⟩ := h
    obtain ⟨h1, h⟩ := bif_some0 h
    simp only [Option.bind_eq_some_iff] at h
    obtain ⟨as, has, r, hr, h⟩ := h
    cases fresh with
    | false =>
      simp only [Option.bind_eq_some_iff, Option.map_eq_some_iff] at h
      obtain ⟨v, hv, b, hb, h⟩ := h
      injection h with h2 h3; subst h2; subst h3
      have ho := orc_some hr hc
      simp only [step, h0, cond_true, hbs, Option.bind_some, h1, gd, has, ho, hv, Option.map_some, hb]
    | true =>
      simp only at h
      split at h
      case h_2 => cases h
      rename_i k o hd hk
      simp only [Option.map_eq_some_iff] at h
      obtain ⟨b, hb, h⟩ := h
      injection h with h2 h3; subst h2; subst h3
      have ho := orc_some hr hc
      simp only [step, h0, cond_true, hbs, Option.bind_some, h1, hd, has, ho, hk, hb]
  | calld d x args esc =>
    simp only [stepT] at h
    split at h
    case h_2 => cases h
    rename_i f a c hp
    obtain ⟨h0, h⟩ := bif_some0 h
    simp only [Option.bind_eq_some_iff] at h
    obtain ⟨bs, hbs, h⟩ := h
    obtain ⟨h1, h⟩ := bif_some0 h
    simp only [Option.bind_eq_some_iff, Option.map_eq_some_iff] at h
    obtain ⟨as, has, r, hr, v, hv, b, hb, h⟩ := h
    injection h with h2 h3; subst h2; subst h3
    have ho := orc_some hr hc
    simp only [step, hp, h0, cond_true, hbs, Option.bind_some, h1, gd, has, ho, hv, Option.map_some, hb]
  | pmv d x => exact step_gen h
  | nilc d x => exact step_gen h
  | fa d off x => exact step_gen h
  | mkfn d f a c => exact step_gen h
  | cpy d x => exact step_gen h
  | take d x => exact step_gen h
  | alloc d cells => exact step_gen h
  | box d sz x esc => exact step_gen h
  | loads d x => exact step_gen h
  | loadt d x => exact step_gen h
  | stores p x => exact step_gen h

end Go.Ab

namespace Go.Ab
open Go

variable {R : Type}

/-- A guarded operation that is wanted. -/
def stepW (C : OrcT) (g : Option (Nat × Bool)) (o : SOp) (σ : St) (K : St → Option R) : Option R :=
  match o with
  | .pure d f xs esc => bif σ.free esc && !wr (σ.rt d) then (f.evT (xs.map σ.ev)).bind fun r => r.1.go (K (σ.put d r.2)) else none
  | .ixr d sz x i => bif !wr (σ.rt d) then (match σ.t x, σ.ev i with
      | .sl _ c l, .int _ n => bif Nat.beq (csz c) sz then (Ck.chk (decide (0 ≤ n) && Nat.blt n.toNat l.length)).go (K (σ.putP d (.cnd true (.row (rowD c l n.toNat))) (σ.tie x))) else none
      | _, _ => none) else none
  | .ixp d n sz x i => bif !wr (σ.rt d) && !wr (σ.rt x) then (σ.p x).force fun q => (ixpT n sz q (σ.ev i)).bind fun r => r.1.go (K (σ.putP d (.cnd true r.2) (σ.dep x))) else none
  | .call d f args esc false =>
    bif σ.free esc && !wr (σ.rt d) then
      let as := args.map (Arg.ev σ)
      let refs := keysAll [] as
      (getBlks σ.b refs).bind fun bs => bif freeB σ.rb refs bs then
        (wireAll refs as).bind fun as => (C f as bs).bind fun r => r.2.1.asV.bind fun v => (setBlks σ.b refs r.2.2).bind fun b => r.1.go (K { σ.put d v with b := b, rb := clrB σ.rb refs })
      else none
    else none
  | .calld d x args esc =>
    match σ.p x with
    | .fn f a c =>
      bif σ.free esc && !wr (σ.rt d) then
        let as := a ++ args.map (Arg.ev σ) ++ c
        let refs := keysAll [] as
        (getBlks σ.b refs).bind fun bs => bif freeB σ.rb refs bs then
          (wireAll refs as).bind fun as => (C f as bs).bind fun r => r.2.1.asV.bind fun v => (setBlks σ.b refs r.2.2).bind fun b => r.1.go (K { σ.put d v with b := b, rb := clrB σ.rb refs })
          else none
      else none
    | _ => none
  | o => step C.orc g o σ K

def stepX (C : OrcT) (g : Option (Nat × Bool)) (o : SOp) (σ : St) (K : St → Option R) : Option R :=
  match g with
  | none => (stepT C o σ).bind fun r => r.1.go (K r.2)
  | some (j, w) => match σ.t j with
    | .bool b => bif eqb w b then stepW C (some (j, w)) o { σ with t := upd σ.t j (.bool w) } K else step C.orc (some (j, w)) o { σ with t := upd σ.t j (.bool (!w)) } K
    | _ => step C.orc (some (j, w)) o σ K

theorem ck_go {c : Ck} {x : Option R} {r : R} (h : c.go x = some r) : c.val = true ∧ x = some r := by
  cases c with
  | ok => exact ⟨rfl, h⟩
  | chk b => cases b <;> simp [Ck.go, Ck.val] at h ⊢; exact h

theorem gd_wants {α : Type} {σ : St} {j : Nat} {w : Bool} {v : Option α} {els : α} (hj : σ.t j = .bool w) : gd σ (some (j, w)) v els = v := by
  simp only [gd, hj, AV.wants, Option.bind_some]
  cases w <;> rfl

theorem stepW_ok {C : OrcT} {j : Nat} {w : Bool} {o : SOp} {σ : St} {K : St → Option R} {r : R} (hj : σ.t j = .bool w) (h : stepW C (some (j, w)) o σ K = some r) :
    step C.orc (some (j, w)) o σ K = some r := by
  cases o with
  | pure d f xs esc =>
    simp only [stepW] at h
    obtain ⟨h0, h⟩ := bif_some0 h
    simp only [Option.bind_eq_some_iff] at h
    obtain ⟨⟨ck, v⟩, hv, h⟩ := h
    obtain ⟨hc, h⟩ := ck_go h
    simp only [step, h0, cond_true, gd_wants hj, evT_ok hv hc, Option.bind_some]
    exact h
  | ixr d sz x i =>
    simp only [stepW] at h
    obtain ⟨h0, h⟩ := bif_some0 h
    split at h
    case h_2 => cases h
    rename_i f c l k n hx hi
    obtain ⟨hz, h⟩ := bif_some0 h
    obtain ⟨hc, h⟩ := ck_go h
    simp only [Ck.val, Bool.and_eq_true, decide_eq_true_iff] at hc
    have hlt := blt_lt hc.2
    have hg : l[n.toNat]? = some (l[n.toNat]) := List.getElem?_eq_getElem hlt
    have hw : (AV.bool w).wants w = some true := by cases w <;> rfl
    simp only [step, h0, cond_true, hj, hw, hx, hi, ixrAt, hz, if_pos hc.1, hg, Option.map_some, Option.bind_some]
    rw [rowD_get c l _ _ hg] at h
    exact h
  | ixp d n sz x i =>
    simp only [stepW] at h
    obtain ⟨h0, h⟩ := bif_some0 h
    rw [force_cps] at h
    obtain ⟨q, hq, h⟩ := Option.bind_eq_some_iff.1 h
    simp only [Option.bind_eq_some_iff] at h
    obtain ⟨⟨ck, q2⟩, hq2, h⟩ := h
    obtain ⟨hc, h⟩ := ck_go h
    have hw : (AV.bool w).wants w = some true := by cases w <;> rfl
    simp only [step, h0, cond_true, hj, hw, Option.bind_some]
    rw [force_cps, hq, Option.bind_some, ixpT_ok hq2 hc]
    exact h
  | call d f args esc fresh =>
    cases fresh with
    | true => exact h
    | false =>
      simp only [stepW] at h
      obtain ⟨h0, h⟩ := bif_some0 h
      simp only [Option.bind_eq_some_iff] at h
      obtain ⟨bs, hbs, h⟩ := h
      obtain ⟨h1, h⟩ := bif_some0 h
      simp only [Option.bind_eq_some_iff] at h
      obtain ⟨as, has, ⟨ck, r1⟩, hr, v, hv, b, hb, h⟩ := h
      obtain ⟨hc, h⟩ := ck_go h
      simp only [step, h0, cond_true, hbs, h1, gd_wants hj, has, Option.bind_some, orc_some hr hc, hv, Option.map_some, hb]
      exact h
  | calld d x args esc =>
    simp only [stepW] at h
    split at h
    case h_2 => cases h
    rename_i f a c hp
    obtain ⟨h0, h⟩ := bif_some0 h
    simp only [Option.bind_eq_some_iff] at h
    obtain ⟨bs, hbs, h⟩ := h
    obtain ⟨h1, h⟩ := bif_some0 h
    simp only [Option.bind_eq_some_iff] at h
    obtain ⟨as, has, ⟨ck, r1⟩, hr, v, hv, b, hb, h⟩ := h
    obtain ⟨hc, h⟩ := ck_go h
    simp only [step, hp, h0, cond_true, hbs, h1, gd_wants hj, has, Option.bind_some, orc_some hr hc, hv, Option.map_some, hb]
    exact h
  | _ => exact h

theorem upd_same {α : Type} (f : Nat → α) (i : Nat) : upd f i (f i) = f := by
  funext j
  simp only [upd]
  cases h : Nat.beq j i with
  | true => rw [Nat.eq_of_beq_eq_true h]; rfl
  | false => rfl

theorem stepX_ok {C : OrcT} {g : Option (Nat × Bool)} {o : SOp} {σ : St} {K : St → Option R} {r : R} (h : stepX C g o σ K = some r) :
    step C.orc g o σ K = some r := by
  cases g with
  | none =>
    simp only [stepX, Option.bind_eq_some_iff] at h
    obtain ⟨⟨ck, σ'⟩, hs, h⟩ := h
    obtain ⟨hc, h⟩ := ck_go h
    rw [step_cps, stepT_ok hs hc]
    exact h
  | some jw =>
    obtain ⟨j, w⟩ := jw
    simp only [stepX] at h
    split at h
    case h_2 => exact h
    rename_i b hb
    have e : ∀ b', b = b' → { σ with t := upd σ.t j (.bool b') } = σ := by
      intro b' e; subst e; rw [← hb, upd_same]
    cases hw : eqb w b with
    | true =>
      have : b = w := by cases w <;> cases b <;> simp_all [eqb]
      rw [hw, cond_true, e w this] at h
      exact stepW_ok (by rw [hb, this]) h
    | false =>
      have : b = !w := by cases w <;> cases b <;> simp_all [eqb]
      rw [hw, cond_false, e (!w) this] at h
      exact h

def runT (C : OrcT) : List GOp → St → (St → Option R) → Option R
  | [], σ, K => K σ
  | o :: l, σ, K => stepX C o.guard o.op σ fun σ => runT C l σ K
def runDT (C : OrcT) (u : List (Nat × Nat)) : List FP → List GOp → St → (St → Option R) → Option R
  | fs, [], σ, K => bif apartAll fs.reverse u then K σ else none
  | fs, o :: l, σ, K => stepX C o.guard o.op σ fun σ' => runDT C u (o.op.fp σ o.guard :: fs) l σ' K
def execT (C : OrcT) (n : Nat) : SC → St → (Out → St → Option R) → Option R
  | .nop, σ, K => K .norm σ
  | .ops l, σ, K => runT C l σ (K .norm)
  | .dops u l, σ, K => runDT C u [] l σ (K .norm)
  | .seq a b, σ, K => execT C n a σ fun o σ' => match o with
    | .norm => execT C n b σ' K
    | o => K o σ'
  | .cond c a b, σ, K => (σ.ev c).asB.bind fun t => bif t then execT C n a σ K else execT C n b σ K
  | .block id a, σ, K => execT C n a σ fun o σ' => match o with
    | .exit j => bif Nat.beq j id then K .norm σ' else K (.exit j) σ'
    | o => K o σ'
  | .loop _ m es a, σ, K => (mark m σ).bind (loopN (fun σ K => execT C n a σ K) m es K n)
  | .cut _ m es a, σ, K => (mark m σ).bind fun σ => execT C n a σ (exitE es K)
  | .mark m, σ, K => (mark m σ).bind (K .norm)
  | .exit id, σ, K => K (.exit id) σ
  | .ret, σ, K => K .ret σ
def bodyT (C : OrcT) (k : Nat) (F : SF) (as : List PV) (bs : List (List AV)) : Option (PV × List (List AV)) :=
  bif Nat.ble as.length F.n && capAll as then execT C k F.body (start as bs) (fin F bs.length) else none

theorem step_mono {C : Orc} {g : Option (Nat × Bool)} {o : SOp} {σ : St} {K K' : St → Option R} {r : R} (h : step C g o σ K = some r) (hK : ∀ σ, K σ = some r → K' σ = some r) : step C g o σ K' = some r := by
  rw [step_cps] at h ⊢
  obtain ⟨σ', h1, h2⟩ := Option.bind_eq_some_iff.1 h
  rw [h1]; exact hK _ h2

theorem runT_ok {C : OrcT} {K K' : St → Option R} {r : R} (hK : ∀ σ, K σ = some r → K' σ = some r) : ∀ (l : List GOp) (σ : St), runT C l σ K = some r → run C.orc l σ K' = some r
  | [], σ, h => hK σ h
  | o :: l, σ, h => step_mono (stepX_ok h) fun σ h => runT_ok hK l σ h
theorem runDT_ok {C : OrcT} {u : List (Nat × Nat)} {K K' : St → Option R} {r : R} (hK : ∀ σ, K σ = some r → K' σ = some r) : ∀ (l : List GOp) (fs : List FP) (σ : St), runDT C u fs l σ K = some r → runD C.orc u fs l σ K' = some r
  | [], fs, σ, h => by
    obtain ⟨h0, h⟩ := bif_some0 h
    simp only [runD, h0, cond_true]; exact hK σ h
  | o :: l, fs, σ, h => step_mono (stepX_ok h) fun σ h => runDT_ok hK l _ σ h

theorem execT_ok {C : OrcT} {n : Nat} : ∀ (s : SC) (σ : St) (K K' : Out → St → Option R) (r : R), execT C n s σ K = some r → (∀ o σ, K o σ = some r → K' o σ = some r) → exec C.orc n s σ K' = some r := by
  intro s
  induction s with
  | nop => intro σ K K' r h hK; exact hK _ _ h
  | exit id => intro σ K K' r h hK; exact hK _ _ h
  | ret => intro σ K K' r h hK; exact hK _ _ h
  | ops l => intro σ K K' r h hK; exact runT_ok (hK .norm) l σ h
  | dops u l => intro σ K K' r h hK; exact runDT_ok (hK .norm) l [] σ h
  | mark m =>
    intro σ K K' r h hK
    simp only [execT, Option.bind_eq_some_iff] at h
    obtain ⟨σ', h1, h⟩ := h
    simp only [exec, h1, Option.bind_some]; exact hK _ _ h
  | seq a b iha ihb =>
    intro σ K K' r h hK
    refine iha σ _ _ r h ?_
    intro o σ' h
    cases o with
    | norm => exact ihb σ' K K' r h hK
    | exit id => exact hK _ _ h
    | ret => exact hK _ _ h
  | cond c a b iha ihb =>
    intro σ K K' r h hK
    simp only [execT, Option.bind_eq_some_iff] at h
    obtain ⟨t, h1, h⟩ := h
    simp only [exec, h1, Option.bind_some]
    cases t with
    | true => exact iha σ K K' r h hK
    | false => exact ihb σ K K' r h hK
  | block id a iha =>
    intro σ K K' r h hK
    refine iha σ _ _ r h ?_
    intro o σ' h
    cases o with
    | norm => exact hK _ _ h
    | ret => exact hK _ _ h
    | exit j =>
      simp only at h ⊢
      cases hb : Nat.beq j id <;> rw [hb] at h <;> exact hK _ _ h
  | cut i m es a iha =>
    intro σ K K' r h hK
    simp only [execT, Option.bind_eq_some_iff] at h
    obtain ⟨σ', h1, h⟩ := h
    simp only [exec, h1, Option.bind_some]
    refine iha σ' _ _ r h ?_
    intro o σ h
    simp only [exitE, Option.bind_eq_some_iff] at h ⊢
    obtain ⟨me, h3, σ4, h4, h⟩ := h
    exact ⟨me, h3, σ4, h4, hK _ _ h⟩
  | loop i m es a iha =>
    intro σ K K' r h hK
    simp only [execT, Option.bind_eq_some_iff] at h
    obtain ⟨σ0, h1, h⟩ := h
    simp only [exec, h1, Option.bind_some]
    have key : ∀ k σ, loopN (fun σ K => execT C n a σ K) m es K k σ = some r → loopN (fun σ K => exec C.orc n a σ K) m es K' k σ = some r := by
      intro k
      induction k with
      | zero => intro σ h; simp [loopN] at h
      | succ k ih =>
        intro σ h
        refine iha σ _ _ r h ?_
        intro o σ' h
        cases o with
        | norm =>
          simp only [Option.bind_eq_some_iff] at h ⊢
          obtain ⟨σ2, h2, h⟩ := h
          exact ⟨σ2, h2, ih σ2 h⟩
        | exit j =>
          simp only [exitE, Option.bind_eq_some_iff] at h ⊢
          obtain ⟨me, h3, σ4, h4, h⟩ := h
          exact ⟨me, h3, σ4, h4, hK _ _ h⟩
        | ret =>
          simp only [exitE, Option.bind_eq_some_iff] at h ⊢
          obtain ⟨me, h3, σ4, h4, h⟩ := h
          exact ⟨me, h3, σ4, h4, hK _ _ h⟩
    exact key n σ0 h

/-- An oracle's entries are right. -/
def SoundT (P : Program) (C : OrcT) : Prop := Sound P C.orc

theorem bodyT_ok {C : OrcT} {k : Nat} {F : SF} {as : List PV} {bs : List (List AV)} {r : PV × List (List AV)} (h : bodyT C k F as bs = some r) : body C.orc k F as bs = some r := by
  obtain ⟨h0, h⟩ := bif_some0 h
  simp only [body, h0, cond_true]
  exact execT_ok _ _ _ _ _ h fun _ _ h => h

theorem soundT_ext {P : Program} {C : OrcT} (hC : SoundT P C) (hL : LibOK P) (hm : P.follows .mixedOrders = true) {A : Ann} {f : FuncId} {F : SF} (hF : slimF P A f = some F)
    (g : List PV → List (List AV) → Option (Ck × (PV × List (List AV)))) (hg : ∀ as bs c r, g as bs = some (c, r) → c.val = true → ∃ k, bodyT C k F as bs = some r) :
    SoundT P fun f' as bs => bif Nat.beq f' f then g as bs else C f' as bs := by
  have := sound_ext hC hL hm hF (fun as bs => match g as bs with | some (c, r) => c.go (some r) | none => none) (by
    intro as bs r h
    cases hgs : g as bs with
    | none => rw [hgs] at h; cases h
    | some cr =>
      obtain ⟨c, r'⟩ := cr
      rw [hgs] at h
      obtain ⟨hc, h⟩ := ck_go h
      injection h with h; subst h
      obtain ⟨k, hk⟩ := hg as bs c r' hgs hc
      exact ⟨k, bodyT_ok hk⟩)
  have e : (fun f' as bs => bif Nat.beq f' f then (match g as bs with | some (c, r) => c.go (some r) | none => none) else C.orc f' as bs) = OrcT.orc (fun f' as bs => bif Nat.beq f' f then g as bs else C f' as bs) := by
    funext f' as bs
    simp only [OrcT.orc]
    cases hb : Nat.beq f' f <;> rfl
  unfold SoundT
  rw [← e]
  exact this

end Go.Ab

namespace Go.Ab
open Go

abbrev Rs := PV × List (List AV)
/-- What loops and parts come to, by their numbers. -/
abbrev LoopT (O : Type) := Nat → Snap → (Out → St → Option O) → Option O
variable {O : Type}

def execL (C : OrcT) (L : LoopT O) : SC → St → (Out → St → Option O) → Option O
  | .nop, σ, K => K .norm σ
  | .ops l, σ, K => runT C l σ (K .norm)
  | .dops u l, σ, K => runDT C u [] l σ (K .norm)
  | .seq a b, σ, K => execL C L a σ fun o σ' => match o with
    | .norm => execL C L b σ' K
    | o => K o σ'
  | .cond c a b, σ, K => (σ.ev c).asB.bind fun t => bif t then execL C L a σ K else execL C L b σ K
  | .block id a, σ, K => execL C L a σ fun o σ' => match o with
    | .exit j => bif Nat.beq j id then K .norm σ' else K (.exit j) σ'
    | o => K o σ'
  | .loop i m _ _, σ, K => (mark m σ).bind fun σ => L i (snap m σ) K
  | .cut i m _ _, σ, K => (mark m σ).bind fun σ => L i (snap m σ) K
  | .mark m, σ, K => (mark m σ).bind (K .norm)
  | .exit id, σ, K => K (.exit id) σ
  | .ret, σ, K => K .ret σ
def LoopsOK (C : OrcT) (L : LoopT O) : SC → Prop
  | .seq a b => LoopsOK C L a ∧ LoopsOK C L b
  | .cond _ a b => LoopsOK C L a ∧ LoopsOK C L b
  | .block _ a => LoopsOK C L a
  | .loop i m es a => LoopsOK C L a ∧ ∀ s K r, L i s K = some r → ∃ n, loopN (fun σ K => execL C L a σ K) m es K n (stOf m s) = some r
  | .cut i m es a => LoopsOK C L a ∧ ∀ s K r, L i s K = some r → execL C L a (stOf m s) (exitE es K) = some r
  | _ => True

/-- The parts of a code that have numbers: loops, others. -/
def partsOf : SC → List (Nat × Bool × Mark × List (Nat × Mark) × SC)
  | .seq a b => partsOf a ++ partsOf b
  | .cond _ a b => partsOf a ++ partsOf b
  | .block _ a => partsOf a
  | .loop i m es a => (i, true, m, es, a) :: partsOf a
  | .cut i m es a => (i, false, m, es, a) :: partsOf a
  | _ => []
def subOf (i : Nat) : List (Nat × Bool × Mark × List (Nat × Mark) × SC) → SC
  | [] => .nop
  | (j, _, _, _, a) :: l => bif Nat.beq i j then a else subOf i l
def PartOK (C : OrcT) (L : LoopT O) (x : Nat × Bool × Mark × List (Nat × Mark) × SC) : Prop :=
  match x with
  | (i, true, m, es, a) => ∀ s K r, L i s K = some r → ∃ n, loopN (fun σ K => execL C L a σ K) m es K n (stOf m s) = some r
  | (i, false, m, es, a) => ∀ s K r, L i s K = some r → execL C L a (stOf m s) (exitE es K) = some r

theorem loopsOK {C : OrcT} {L : LoopT O} : ∀ (s : SC), (∀ x ∈ partsOf s, PartOK C L x) → LoopsOK C L s
  | .seq a b, h => ⟨loopsOK a fun x hx => h x (by simp [partsOf, hx]), loopsOK b fun x hx => h x (by simp [partsOf, hx])⟩
  | .cond _ a b, h => ⟨loopsOK a fun x hx => h x (by simp [partsOf, hx]), loopsOK b fun x hx => h x (by simp [partsOf, hx])⟩
  | .block _ a, h => loopsOK a fun x hx => h x (by simp [partsOf, hx])
  | .loop i m es a, h => ⟨loopsOK a fun x hx => h x (by simp [partsOf, hx]), h (i, true, m, es, a) (by simp [partsOf])⟩
  | .cut i m es a, h => ⟨loopsOK a fun x hx => h x (by simp [partsOf, hx]), h (i, false, m, es, a) (by simp [partsOf])⟩
  | .nop, _ | .ops _, _ | .dops _ _, _ | .mark _, _ | .exit _, _ | .ret, _ => trivial

def partsF (F : SF) := partsOf F.body
structure LOKs (C : OrcT) (L : LoopT O) (F : SF) : Prop where
  ok : LoopsOK C L F.body
theorem loks {C : OrcT} {L : LoopT O} {F : SF} {l : List (Nat × Bool × Mark × List (Nat × Mark) × SC)} (e : partsF F = l) (h : ∀ x ∈ l, PartOK C L x) : LOKs C L F := ⟨loopsOK _ (show ∀ x ∈ partsF F, _ from e ▸ h)⟩
theorem all_nil {α : Type} {Q : α → Prop} : ∀ x ∈ ([] : List α), Q x := fun _ h => nomatch h
theorem all_cons {α : Type} {Q : α → Prop} {y : α} {l : List α} (h : Q y) (k : ∀ x ∈ l, Q x) : ∀ x ∈ y :: l, Q x := by
  intro x hx
  rcases List.mem_cons.1 hx with e | e
  · rw [e]; exact h
  · exact k x e

variable {R R' : Type}

theorem bind_go {α : Type} (x : Option α) (c : α → Ck) (f : α → St) (K : St → Option R) :
    (x.bind fun r => (c r).go (K (f r))) = (x.bind fun r => (c r).go (some (f r))).bind K := by
  cases x with
  | none => rfl
  | some r =>
    simp only [Option.bind_some]
    cases c r with
    | ok => rfl
    | chk b => cases b <;> rfl

theorem go_bind (c : Ck) (x : St) (K : St → Option R) : c.go (K x) = (c.go (some x)).bind K := by
  cases c with
  | ok => rfl
  | chk b => cases b <;> rfl

theorem bif_bind {α β : Type} (b : Bool) (x y : Option α) (K : α → Option β) : (bif b then x else y).bind K = bif b then x.bind K else y.bind K := by
  cases b <;> rfl

theorem stepW_cps (C : OrcT) (g : Option (Nat × Bool)) (o : SOp) (σ : St) (K : St → Option R) : stepW C g o σ K = (stepW C g o σ some).bind K := by
  cases o with
  | pure d f xs esc => simp only [stepW, bif_bind, Option.bind_none, bind_go _ (fun r => r.1) (fun r : Ck × AV => σ.put d r.2) K]
  | ixr d sz x i =>
    simp only [stepW, bif_bind, Option.bind_none]
    split
    · rw [bif_bind, Option.bind_none]; congr 1; congr 1; exact go_bind _ _ _
    · simp
  | ixp d n sz x i =>
    simp only [stepW, bif_bind, Option.bind_none]
    rw [force_cps, force_cps _ fun q => (ixpT n sz q (σ.ev i)).bind fun r => r.1.go (some _), Option.bind_assoc]
    congr 1; congr 1; funext q; simp only [Option.bind_assoc]; congr 1; funext r
    exact go_bind _ _ _
  | call d f args esc fresh =>
    cases fresh with
    | true => simp only [stepW]; exact step_cps ..
    | false =>
      simp only [stepW, bif_bind, Option.bind_none, Option.bind_assoc]
      congr 1; congr 1; funext bs; congr 1; congr 1; funext as; congr 1; funext r; congr 1; funext v; congr 1; funext b
      exact go_bind _ _ _
  | calld d x args esc =>
    simp only [stepW]
    split
    · simp only [bif_bind, Option.bind_none, Option.bind_assoc]
      congr 1; congr 1; funext bs; congr 1; congr 1; funext as; congr 1; funext r; congr 1; funext v; congr 1; funext b
      exact go_bind _ _ _
    · rfl
  | _ => simp only [stepW]; exact step_cps ..

theorem stepX_cps (C : OrcT) (g : Option (Nat × Bool)) (o : SOp) (σ : St) (K : St → Option R) : stepX C g o σ K = (stepX C g o σ some).bind K := by
  cases g with
  | none => exact bind_go _ (fun r => r.1) (fun r : Ck × St => r.2) K
  | some jw =>
    simp only [stepX]
    split
    · rw [bif_bind]; congr 1
      · exact stepW_cps ..
      · exact step_cps ..
    · exact step_cps ..

theorem runT_cps (C : OrcT) (K : St → Option R) : ∀ (l : List GOp) (σ : St), runT C l σ K = (runT C l σ some).bind K
  | [], σ => rfl
  | o :: l, σ => by
    simp only [runT]
    rw [stepX_cps C _ _ _ fun σ => runT C l σ some, stepX_cps, Option.bind_assoc]
    congr 1; funext σ'; exact runT_cps C K l σ'
theorem runDT_cps (C : OrcT) (u : List (Nat × Nat)) (K : St → Option R) : ∀ (l : List GOp) (fs : List FP) (σ : St), runDT C u fs l σ K = (runDT C u fs l σ some).bind K
  | [], fs, σ => by simp only [runDT, bif_bind, Option.bind_none, Option.bind_some]
  | o :: l, fs, σ => by
    simp only [runDT]
    rw [stepX_cps C _ _ _ fun σ' => runDT C u _ l σ' some, stepX_cps, Option.bind_assoc]
    congr 1; funext σ'; exact runDT_cps C u K l _ σ'

def ends (o : Out) (σ : St) : Option (Out × St) := some (o, σ)
def onE (K : Out → St → Option R) (x : Out × St) : Option R := K x.1 x.2

theorem exitE_cps (es : List (Nat × Mark)) (K : Out → St → Option R) (o : Out) (σ : St) : exitE es K o σ = (exitE es ends o σ).bind (onE K) := by
  simp only [exitE, Option.bind_assoc]
  rfl

theorem execT_cps (C : OrcT) (n : Nat) : ∀ (s : SC) {R : Type} (σ : St) (K : Out → St → Option R), execT C n s σ K = (execT C n s σ ends).bind (onE K) := by
  intro s
  induction s with
  | nop => intro R σ K; rfl
  | exit id => intro R σ K; rfl
  | ret => intro R σ K; rfl
  | ops l =>
    intro R σ K
    simp only [execT]
    rw [runT_cps, runT_cps C (ends .norm), Option.bind_assoc]; rfl
  | dops u l =>
    intro R σ K
    simp only [execT]
    rw [runDT_cps, runDT_cps C u (ends .norm), Option.bind_assoc]; rfl
  | mark m => intro R σ K; simp only [execT, Option.bind_assoc]; rfl
  | seq a b iha ihb =>
    intro R σ K
    simp only [execT]
    refine (iha σ _).trans (.trans ?_ (congrArg (Option.bind · (onE K)) (iha σ _)).symm)
    simp only [Option.bind_assoc]
    congr 1; funext ⟨o, σ'⟩
    cases o with
    | norm => exact ihb σ' K
    | exit id => rfl
    | ret => rfl
  | cond c a b iha ihb =>
    intro R σ K
    simp only [execT, Option.bind_assoc]
    congr 1; funext t
    rw [bif_bind]; congr 1
    · exact iha σ K
    · exact ihb σ K
  | block id a iha =>
    intro R σ K
    simp only [execT]
    refine (iha σ _).trans (.trans ?_ (congrArg (Option.bind · (onE K)) (iha σ _)).symm)
    simp only [Option.bind_assoc]
    congr 1; funext ⟨o, σ'⟩
    cases o with
    | norm => rfl
    | ret => rfl
    | exit j => simp only [onE]; rw [bif_bind]; rfl
  | cut i m es a iha =>
    intro R σ K
    simp only [execT, Option.bind_assoc]
    congr 1; funext σ'
    rw [iha, iha σ' (exitE es ends), Option.bind_assoc]
    congr 1; funext ⟨o, σ2⟩
    exact exitE_cps es K o σ2
  | loop i m es a iha =>
    intro R σ K
    simp only [execT, Option.bind_assoc]
    congr 1; funext σ0
    have key : ∀ k σ, loopN (fun σ K => execT C n a σ K) m es K k σ = (loopN (fun σ K => execT C n a σ K) m es ends k σ).bind (onE K) := by
      intro k
      induction k with
      | zero => intro σ; rfl
      | succ k ih =>
        intro σ
        simp only [loopN]
        refine (iha σ _).trans (.trans ?_ (congrArg (Option.bind · (onE K)) (iha σ _)).symm)
        simp only [Option.bind_assoc]
        congr 1; funext ⟨o, σ'⟩
        cases o with
        | norm => simp only [onE, Option.bind_assoc]; congr 1; funext σ2; exact ih σ2
        | exit j => exact exitE_cps es K _ σ'
        | ret => exact exitE_cps es K _ σ'
    exact key n σ0

theorem loopN_mono {b b' : St → (Out → St → Option R) → Option R} {m : Mark} {es : List (Nat × Mark)}
    (hb : ∀ σ K K' r, b σ K = some r → (∀ o σ', K o σ' = some r → K' o σ' = some r) → b' σ K' = some r) :
    ∀ (n n' : Nat) (σ : St) (K K' : Out → St → Option R) (r : R), n ≤ n' → loopN b m es K n σ = some r → (∀ o σ', K o σ' = some r → K' o σ' = some r) → loopN b' m es K' n' σ = some r
  | 0, _, σ, K, K', r, _, h, _ => by simp [loopN] at h
  | n + 1, 0, σ, K, K', r, hn, _, _ => by omega
  | n + 1, n' + 1, σ, K, K', r, hn, h, hK => by
    simp only [loopN] at h ⊢
    refine hb σ _ _ r h ?_
    intro o σ' h
    have ex : ∀ o, exitE es K o σ' = some r → exitE es K' o σ' = some r := by
      intro o h
      simp only [exitE, Option.bind_eq_some_iff] at h ⊢
      obtain ⟨me, h3, σ4, h4, h⟩ := h
      exact ⟨me, h3, σ4, h4, hK _ _ h⟩
    cases o with
    | norm =>
      simp only [Option.bind_eq_some_iff] at h ⊢
      obtain ⟨σ2, h2, h⟩ := h
      exact ⟨σ2, h2, loopN_mono hb n n' σ2 K K' r (by omega) h hK⟩
    | exit j => exact ex _ h
    | ret => exact ex _ h

theorem bindK {α : Type} {x : Option α} {K K' : α → Option R} {r : R} (h : x.bind K = some r) (hK : ∀ a, K a = some r → K' a = some r) : x.bind K' = some r := by
  obtain ⟨a, h1, h2⟩ := Option.bind_eq_some_iff.1 h
  rw [h1]; exact hK a h2

theorem execT_mono {C : OrcT} {n n' : Nat} (hn : n ≤ n') : ∀ (s : SC) {R : Type} (σ : St) (K K' : Out → St → Option R) (r : R), execT C n s σ K = some r → (∀ o σ, K o σ = some r → K' o σ = some r) → execT C n' s σ K' = some r := by
  intro s
  induction s with
  | nop => intro R σ K K' r h hK; exact hK _ _ h
  | exit id => intro R σ K K' r h hK; exact hK _ _ h
  | ret => intro R σ K K' r h hK; exact hK _ _ h
  | ops l => intro R σ K K' r h hK; simp only [execT] at h ⊢; rw [runT_cps] at h ⊢; exact bindK h fun a => hK .norm a
  | dops u l => intro R σ K K' r h hK; simp only [execT] at h ⊢; rw [runDT_cps] at h ⊢; exact bindK h fun a => hK .norm a
  | mark m => intro R σ K K' r h hK; exact bindK h fun a => hK .norm a
  | seq a b iha ihb =>
    intro R σ K K' r h hK
    refine iha σ _ _ r h ?_
    intro o σ' h
    cases o with
    | norm => exact ihb σ' K K' r h hK
    | exit id => exact hK _ _ h
    | ret => exact hK _ _ h
  | cond c a b iha ihb =>
    intro R σ K K' r h hK
    refine bindK h ?_
    intro t h
    cases t with
    | true => exact iha σ K K' r h hK
    | false => exact ihb σ K K' r h hK
  | block id a iha =>
    intro R σ K K' r h hK
    refine iha σ _ _ r h ?_
    intro o σ' h
    cases o with
    | norm => exact hK _ _ h
    | ret => exact hK _ _ h
    | exit j =>
      simp only at h ⊢
      cases hb : Nat.beq j id <;> rw [hb] at h <;> exact hK _ _ h
  | cut i m es a iha =>
    intro R σ K K' r h hK
    refine bindK h ?_
    intro σ' h
    refine iha σ' _ _ r h ?_
    intro o σ h
    refine bindK h ?_
    intro me h
    exact bindK h fun a => hK o a
  | loop i m es a iha =>
    intro R σ K K' r h hK
    refine bindK h ?_
    intro σ0 h
    exact loopN_mono (fun σ K K' r h hK => iha σ K K' r h hK) n n' σ0 K K' r hn h hK

theorem loopL_ok {C : OrcT} {L : LoopT O} {a : SC} (ha : ∀ σ K r, execL C L a σ K = some r → ∃ n, execT C n a σ K = some r) {m : Mark} {es : List (Nat × Mark)} {K : Out → St → Option O} {r : O} :
    ∀ (n : Nat) (σ : St), loopN (fun σ K => execL C L a σ K) m es K n σ = some r → ∃ n', loopN (fun σ K => execT C n' a σ K) m es K n' σ = some r := by
  intro n
  induction n with
  | zero => intro σ h; simp [loopN] at h
  | succ n ih =>
    intro σ h
    simp only [loopN] at h
    obtain ⟨n1, h1⟩ := ha _ _ _ h
    rw [execT_cps] at h1
    obtain ⟨⟨o, σ'⟩, h2, h3⟩ := Option.bind_eq_some_iff.1 h1
    simp only [onE] at h3
    have fin : ∀ n2, n1 ≤ n2 + 1 → (match (motive := Out → Option O) o with
        | .norm => (mark m σ').bind (loopN (fun σ K => execT C (n2 + 1) a σ K) m es K n2)
        | o => exitE es K o σ') = some r → ∃ n', loopN (fun σ K => execT C n' a σ K) m es K n' σ = some r := by
      intro n2 hn h4
      refine ⟨n2 + 1, ?_⟩
      simp only [loopN]
      rw [execT_cps, execT_mono hn a σ ends ends _ h2 fun _ _ h => h]
      exact h4
    cases o with
    | norm =>
      simp only [Option.bind_eq_some_iff] at h3
      obtain ⟨σ2, h4, h5⟩ := h3
      obtain ⟨n2, h6⟩ := ih σ2 h5
      refine fin (max n1 n2) (by omega) ?_
      simp only [h4, Option.bind_some]
      exact loopN_mono (fun σ K K' r h hK => execT_mono (by omega) a σ K K' r h hK) n2 _ σ2 K K r (by omega) h6 fun _ _ h => h
    | exit j => exact fin n1 (by omega) h3
    | ret => exact fin n1 (by omega) h3

theorem execL_ok {C : OrcT} {L : LoopT O} : ∀ (s : SC), LoopsOK C L s → ∀ (σ : St) (K : Out → St → Option O) (r : O), execL C L s σ K = some r → ∃ n, execT C n s σ K = some r := by
  intro s
  induction s with
  | nop => intro _ σ K r h; exact ⟨0, h⟩
  | exit id => intro _ σ K r h; exact ⟨0, h⟩
  | ret => intro _ σ K r h; exact ⟨0, h⟩
  | ops l => intro _ σ K r h; exact ⟨0, h⟩
  | dops u l => intro _ σ K r h; exact ⟨0, h⟩
  | mark m => intro _ σ K r h; exact ⟨0, h⟩
  | seq a b iha ihb =>
    intro hl σ K r h
    simp only [LoopsOK] at hl
    obtain ⟨n1, h1⟩ := iha hl.1 σ _ r h
    rw [execT_cps] at h1
    obtain ⟨⟨o, σ'⟩, h2, h3⟩ := Option.bind_eq_some_iff.1 h1
    simp only [onE] at h3
    cases o with
    | norm =>
      obtain ⟨n2, h4⟩ := ihb hl.2 σ' K r h3
      refine ⟨max n1 n2, ?_⟩
      simp only [execT]
      rw [execT_cps, execT_mono (Nat.le_max_left n1 n2) a σ ends ends _ h2 fun _ _ h => h]
      exact execT_mono (Nat.le_max_right n1 n2) b σ' K K r h4 fun _ _ h => h
    | exit id =>
      refine ⟨n1, ?_⟩
      simp only [execT]
      rw [execT_cps, h2]; exact h3
    | ret =>
      refine ⟨n1, ?_⟩
      simp only [execT]
      rw [execT_cps, h2]; exact h3
  | cond c a b iha ihb =>
    intro hl σ K r h
    simp only [LoopsOK] at hl
    simp only [execL] at h
    obtain ⟨t, ht, h⟩ := Option.bind_eq_some_iff.1 h
    cases t with
    | true =>
      obtain ⟨n, h⟩ := iha hl.1 σ K r h
      exact ⟨n, by simp only [execT, ht, Option.bind_some, cond_true]; exact h⟩
    | false =>
      obtain ⟨n, h⟩ := ihb hl.2 σ K r h
      exact ⟨n, by simp only [execT, ht, Option.bind_some, cond_false]; exact h⟩
  | block id a iha =>
    intro hl σ K r h
    obtain ⟨n, h⟩ := iha hl σ _ r h
    exact ⟨n, h⟩
  | cut i m es a iha =>
    intro hl σ K r h
    simp only [LoopsOK] at hl
    simp only [execL] at h
    obtain ⟨σ0, h0, h⟩ := Option.bind_eq_some_iff.1 h
    obtain ⟨n, h1⟩ := iha hl.1 _ _ r (hl.2 _ K r h)
    rw [mark_st h0] at h1
    exact ⟨n, by simp only [execT, h0, Option.bind_some]; exact h1⟩
  | loop i m es a iha =>
    intro hl σ K r h
    simp only [LoopsOK] at hl
    simp only [execL] at h
    obtain ⟨σ0, h0, h⟩ := Option.bind_eq_some_iff.1 h
    obtain ⟨n, h1⟩ := hl.2 _ K r h
    rw [mark_st h0] at h1
    obtain ⟨n', h2⟩ := loopL_ok (fun σ K r h => iha hl.1 σ K r h) n σ0 h1
    exact ⟨n', by simp only [execT, h0, Option.bind_some]; exact h2⟩

end Go.Ab

namespace Go.Ab
open Go

/-- Less is known of what is handed over. -/
inductive WeakP : PV → PV → Prop
  | refl (q) : WeakP q q
  | val (x y) (h : Weak x y) : WeakP (.val x) (.val y)
  | agg (x y) (h : WeakL x y) : WeakP (.val (.agg x)) (.val (.agg y))

theorem RP.weak {w : World} {S : Cells} {μ : Nat → Nat} {live : Nat → Prop} {T : Cells} {cv : Loc → Value} {cz : Loc → Nat} {v : Value} {q q' : PV}
    (h : RP w S μ live T cv cz v q) (k : WeakP q q') : RP w S μ live T cv cz v q' := by
  cases k with
  | refl => exact h
  | val x y k => cases h with | val _ _ h => exact .val _ _ (h.weak k)
  | agg x y k => cases h with | val _ _ h => exact .val _ _ (agg_weak h k)

def WeakPs (l m : List PV) : Prop := l.length = m.length ∧ ∀ (j : Nat) x y, l[j]? = some x → m[j]? = some y → WeakP x y
def WeakBs (l m : List (List AV)) : Prop := l.length = m.length ∧ ∀ (j : Nat) x y, l[j]? = some x → m[j]? = some y → WeakL x y

theorem WeakPs.nil : WeakPs [] [] := ⟨rfl, fun j x y h => by simp at h⟩
theorem WeakPs.cons {x y : PV} {l m : List PV} (h : WeakP x y) (k : WeakPs l m) : WeakPs (x :: l) (y :: m) :=
  ⟨by simp [k.1], fun j a b h1 h2 => by
    cases j with
    | zero => simp at h1 h2; subst h1; subst h2; exact h
    | succ j => exact k.2 j a b (by simpa using h1) (by simpa using h2)⟩
theorem WeakBs.nil : WeakBs [] [] := ⟨rfl, fun j x y h => by simp at h⟩
theorem WeakBs.cons {x y : List AV} {l m : List (List AV)} (h : WeakL x y) (k : WeakBs l m) : WeakBs (x :: l) (y :: m) :=
  ⟨by simp [k.1], fun j a b h1 h2 => by
    cases j with
    | zero => simp at h1 h2; subst h1; subst h2; exact h
    | succ j => exact k.2 j a b (by simpa using h1) (by simpa using h2)⟩

theorem CallIn.weak {w : World} {S : Cells} {ν : List Nat} {bs bs' : List (List AV)} (h : CallIn w S ν bs) (k : WeakBs bs bs') : CallIn w S ν bs' := by
  refine ⟨by rw [h.len, k.1], h.nd, h.st, ?_⟩
  intro j b cs h1 h2
  have hlt := (List.getElem?_eq_some_iff.1 h2).1
  have h3 : bs[j]? = some (bs[j]'(by rw [k.1]; exact hlt)) := List.getElem?_eq_getElem _
  obtain ⟨c, e, h4, h5⟩ := h.blk j b _ h1 h3
  exact ⟨c, e, h4, agg_weak h5 (k.2 j _ _ h3 h2)⟩

/-- What is said of a result. -/
inductive RT where
  | any
  | el (c : EC)
  | sl (c : EC)
def normV : RT → AV → Option AV
  | .any, v => some v
  | .el c, .agg cs => (dec c cs).map fun x => .agg (enc c x)
  | .sl c, .sl _ c' l => (castSl c c' l).map fun l => .sl false c l
  | _, _ => none
def normT : List RT → List AV → Option (List AV)
  | [], [] => some []
  | t :: ts, v :: vs => (normV t v).bind fun v => (normT ts vs).map (v :: ·)
  | _, _ => none
def normB : List EC → List (List AV) → Option (List (List AV))
  | [], [] => some []
  | c :: ts, v :: vs => (dec c v).bind fun x => (normB ts vs).map (enc c x :: ·)
  | _, _ => none
def normQ (rt : List RT) : PV → Option PV
  | .val v => match rt with
    | [t] => (normV t v).map .val
    | ts => match v with
      | .tup vs => (normT ts vs).map fun vs => .val (.tup vs)
      | _ => none
  | q => some q
def normR (rt : List RT) (bt : List EC) (r : Rs) : Option Rs := (normQ rt r.1).bind fun q => (normB bt r.2).map fun b => (q, b)

variable {w : World} {S : Cells}

theorem rv_norm {t : RT} {u : Value} {x y : AV} (h : RV w S u x) (k : normV t x = some y) : RV w S u y := by
  cases t with
  | any => simp [normV] at k; subst k; exact h
  | el c =>
    cases x <;> simp [normV] at k
    obtain ⟨z, hz, rfl⟩ := k
    exact agg_weak h (dec_ok hz)
  | sl c =>
    cases x <;> simp [normV] at k
    obtain ⟨z, hz, rfl⟩ := k
    exact h.weak (castSl_ok hz)

theorem normT_get : ∀ {ts : List RT} {vs ws : List AV}, normT ts vs = some ws → vs.length = ws.length ∧ ∀ (j : Nat) y, ws[j]? = some y → ∃ t x, vs[j]? = some x ∧ normV t x = some y
  | [], [], ws, h => by simp [normT] at h; subst h; exact ⟨rfl, fun j y h => by simp at h⟩
  | [], _ :: _, ws, h => by simp [normT] at h
  | _ :: _, [], ws, h => by simp [normT] at h
  | t :: ts, v :: vs, ws, h => by
    simp only [normT, Option.bind_eq_some_iff, Option.map_eq_some_iff] at h
    obtain ⟨v', h1, ws', h2, rfl⟩ := h
    obtain ⟨e, g⟩ := normT_get h2
    refine ⟨by simp [e], fun j y hj => ?_⟩
    cases j with
    | zero => simp at hj; subst hj; exact ⟨t, v, rfl, h1⟩
    | succ j => obtain ⟨t', x, h3, h4⟩ := g j y (by simpa using hj); exact ⟨t', x, by simpa using h3, h4⟩

theorem normB_weak : ∀ {ts : List EC} {vs ws : List (List AV)}, normB ts vs = some ws → WeakBs vs ws
  | [], [], ws, h => by simp [normB] at h; subst h; exact .nil
  | [], _ :: _, ws, h => by simp [normB] at h
  | _ :: _, [], ws, h => by simp [normB] at h
  | t :: ts, v :: vs, ws, h => by
    simp only [normB, Option.bind_eq_some_iff, Option.map_eq_some_iff] at h
    obtain ⟨x, h1, ws', h2, rfl⟩ := h
    exact .cons (dec_ok h1) (normB_weak h2)

theorem rv_normQ {rt : List RT} {u : Value} {x : AV} {q : PV} (h : RV w S u x) (k : normQ rt (.val x) = some q) : ∃ y, q = .val y ∧ RV w S u y := by
  have tupc : ∀ ts, (match x with | .tup vs => (normT ts vs).map fun vs => PV.val (.tup vs) | _ => none) = some q → ∃ y, q = .val y ∧ RV w S u y := by
    intro ts k
    split at k
    case h_2 => cases k
    rename_i vs
    simp only [Option.map_eq_some_iff] at k
    obtain ⟨ws, hw, rfl⟩ := k
    refine ⟨_, rfl, ?_⟩
    obtain ⟨e, g⟩ := normT_get hw
    cases h with
    | tup cs _ U hl hU hQ =>
      refine .tup cs _ U (by rw [hl, e]) ?_ ?_
      · intro j y hj; obtain ⟨t, x, h1, _⟩ := g j y hj; exact hU j x h1
      · intro j y hj; obtain ⟨t, x, h1, h2⟩ := g j y hj; exact rv_norm (hQ j x h1) h2
  unfold normQ at k
  simp only at k
  split at k
  · simp only [Option.map_eq_some_iff] at k
    obtain ⟨y, hy, rfl⟩ := k
    exact ⟨y, rfl, rv_norm h hy⟩
  · exact tupc _ k

theorem CallOut.norm {ν : List Nat} {rt : List RT} {bt : List EC} {r r' : Rs} {v : Value} {w' : World} (h : CallOut w S ν r v w') (k : normR rt bt r = some r') : CallOut w S ν r' v w' := by
  obtain ⟨S', bs', h1, h2, h3, h4, h5⟩ := h
  unfold normR at k
  simp only [Option.bind_eq_some_iff, Option.map_eq_some_iff] at k
  obtain ⟨q, hq, b, hb, rfl⟩ := k
  have hw := normB_weak hb
  rcases h5 with ⟨x, rfl, hx⟩ | ⟨k, o, B, c, arr, e, rfl, hv, hB, hS, harr, hx⟩
  · obtain ⟨y, rfl, hy⟩ := rv_normQ hx hq
    exact ⟨S', b, h1, h2, h3, h4.weak hw, .inl ⟨y, rfl, hy⟩⟩
  · have hq : q = .ptr k o := by simp [normQ] at hq; exact hq.symm
    subst hq
    -- the last block is the result's
    have hl : b.length = bs'.length + 1 := by rw [← hw.1]; simp
    have hb2 : b = b.take bs'.length ++ [b[bs'.length]'(by omega)] := by
      apply List.ext_getElem?
      intro i
      rcases Nat.lt_trichotomy i bs'.length with hi | hi | hi
      · rw [List.getElem?_append_left (by simp; omega), List.getElem?_take]; simp [hi]
      · subst hi; rw [List.getElem?_append_right (by simp; omega)]; simp [hl]
      · rw [List.getElem?_eq_none (by omega), List.getElem?_eq_none (by simp; omega)]
    have hw1 : WeakBs bs' (b.take bs'.length) := by
      refine ⟨by simp; omega, ?_⟩
      intro j x y hx hy
      have hj := (List.getElem?_eq_some_iff.1 hx).1
      refine hw.2 j x y (by rw [List.getElem?_append_left hj]; exact hx) ?_
      rw [List.getElem?_take] at hy; simpa [hj] using hy
    have hw2 : WeakL c (b[bs'.length]'(by omega)) := hw.2 bs'.length _ _ (by simp) (List.getElem?_eq_getElem _)
    refine ⟨S', b.take bs'.length, h1, h2, h3, h4.weak hw1, .inr ⟨k, o, B, _, arr, e, ?_, hv, hB, hS, harr, agg_weak hx hw2⟩⟩
    rw [← hb2]

def EntOK (P : Program) (f : FuncId) (g : List PV → List (List AV) → Option (Ck × Rs)) : Prop := SoundT P fun f' as bs => bif Nat.beq f' f then g as bs else none

abbrev Ents := List (FuncId × (List PV → List (List AV) → Option (Ck × Rs)))
def tbl : Ents → OrcT
  | [], _, _, _ => none
  | (i, g) :: l, f, as, bs => bif Nat.beq f i then g as bs else tbl l f as bs

theorem tbl_nil {P : Program} : SoundT P (tbl []) := by
  intro f as bs r h; simp [OrcT.orc, tbl] at h
theorem tbl_cons {P : Program} {i : FuncId} {g : List PV → List (List AV) → Option (Ck × Rs)} {l : Ents} (h : EntOK P i g) (k : SoundT P (tbl l)) : SoundT P (tbl ((i, g) :: l)) := by
  intro f as bs r hr
  simp only [OrcT.orc, tbl] at hr
  cases hb : Nat.beq f i with
  | true =>
    refine h f as bs r ?_
    simp only [OrcT.orc, hb, cond_true] at hr ⊢
    exact hr
  | false =>
    refine k f as bs r ?_
    simp only [OrcT.orc, hb, cond_false] at hr ⊢
    exact hr

end Go.Ab

namespace Go.Ab
open Go

def bodyN (C : OrcT) (L : LoopT Rs) (F : SF) (rt : List RT) (bt : List EC) (as : List PV) (bs : List (List AV)) : Option Rs :=
  bif Nat.ble as.length F.n && capAll as then execL C L F.body (start as bs) (fun o σ => (fin F bs.length o σ).bind (normR rt bt)) else none

theorem bodyN_ok {C : OrcT} {L : LoopT Rs} {F : SF} {rt : List RT} {bt : List EC} (hl : LoopsOK C L F.body) {as : List PV} {bs : List (List AV)} {r : Rs} (h : bodyN C L F rt bt as bs = some r) :
    ∃ k r0, bodyT C k F as bs = some r0 ∧ normR rt bt r0 = some r := by
  obtain ⟨h0, h⟩ := bif_some0 h
  obtain ⟨n, h⟩ := execL_ok F.body hl _ _ _ h
  rw [execT_cps] at h
  obtain ⟨⟨o, σ⟩, h1, h2⟩ := Option.bind_eq_some_iff.1 h
  simp only [onE, Option.bind_eq_some_iff] at h2
  obtain ⟨r0, h3, h4⟩ := h2
  refine ⟨n, r0, ?_, h4⟩
  simp only [bodyT, h0, cond_true]
  rw [execT_cps, h1]
  exact h3

theorem ent_ok {P : Program} {C : OrcT} (hC : SoundT P C) (hL : LibOK P) (hm : P.follows .mixedOrders = true) {A : Ann} {f : FuncId} {F : SF} (hF : slimF P A f = some F)
    {rt : List RT} {bt : List EC} {g : List PV → List (List AV) → Option (Ck × Rs)}
    (hg : ∀ as bs c r, g as bs = some (c, r) → c.val = true → ∃ as' bs' L, WeakPs as as' ∧ WeakBs bs bs' ∧ LOKs C L F ∧ bodyN C L F rt bt as' bs' = some r) : EntOK P f g := by
  intro f' as bs r h
  cases hb : Nat.beq f' f with
  | false => simp [OrcT.orc, hb] at h
  | true =>
    have := Nat.eq_of_beq_eq_true hb
    subst this
    simp only [OrcT.orc, hb, cond_true] at h
    split at h
    case h_2 => cases h
    rename_i c r1 hgs
    obtain ⟨hc, h⟩ := ck_go h
    injection h with h; subst h
    obtain ⟨as', bs', L, h1, h2, h3, h4⟩ := hg as bs c r1 hgs hc
    obtain ⟨k, r0, h5, h6⟩ := bodyN_ok h3.ok h4
    obtain ⟨h7, h8⟩ := body_ok hC hL hm hF (bodyT_ok h5)
    refine ⟨h7, ?_⟩
    intro args w S ν hin hsz hrp
    refine (h8 args w S ν (hin.weak h2) (by rw [hsz, h1.1]) ?_).mono ?_
    · intro j q v hq hv
      have hlt := (List.getElem?_eq_some_iff.1 hq).1
      have hx : as[j]? = some (as[j]'(by rw [h1.1]; exact hlt)) := List.getElem?_eq_getElem _
      exact (hrp j _ v hx hv).weak (h1.2 j _ _ hx hq)
    · intro e w' ⟨v, he, ho⟩
      exact ⟨v, he, ho.norm h6⟩

end Go.Ab

namespace Go.Ab
open Go

def W (x : Int) : Int := IntKind.i64.wrap x
def W8 (x : Int) : Int := IntKind.u8.wrap x
def W32 (x : Int) : Int := IntKind.u32.wrap x
def WU (x : Int) : Int := IntKind.u64.wrap x
/-- Rounds enough. -/
def big : Nat := 18446744073709551616

theorem W_id {x : Int} (h : -9223372036854775808 ≤ x) (h2 : x ≤ 9223372036854775807) : W x = x := by
  have e : (2 : Int) ^ IntKind.i64.bits = 18446744073709551616 := by decide
  have e2 : (2 : Int) ^ (IntKind.i64.bits - 1) = 9223372036854775808 := by decide
  unfold W IntKind.wrap
  simp only [e, e2, show IntKind.i64.signed = true from rfl, Bool.true_and]
  split <;> rename_i hs
  · have := of_decide_eq_true hs
    omega
  · have : ¬ (x % 18446744073709551616 ≥ 9223372036854775808) := fun h => hs (decide_eq_true h)
    omega
theorem WU_id {x : Int} (h : 0 ≤ x) (h2 : x < 18446744073709551616) : WU x = x := by
  have e : (2 : Int) ^ IntKind.u64.bits = 18446744073709551616 := by decide
  unfold WU IntKind.wrap
  simp only [e, show IntKind.u64.signed = false from rfl, Bool.false_and]
  simp only [Bool.false_eq_true, if_false]
  omega
theorem W8_id {x : Int} (h : 0 ≤ x) (h2 : x < 256) : W8 x = x := by
  have e : (2 : Int) ^ IntKind.u8.bits = 256 := by decide
  unfold W8 IntKind.wrap
  simp only [e, show IntKind.u8.signed = false from rfl, Bool.false_and]
  simp only [Bool.false_eq_true, if_false]
  omega
theorem W32_id {x : Int} (h : 0 ≤ x) (h2 : x < 4294967296) : W32 x = x := by
  have e : (2 : Int) ^ IntKind.u32.bits = 4294967296 := by decide
  unfold W32 IntKind.wrap
  simp only [e, show IntKind.u32.signed = false from rfl, Bool.false_and]
  simp only [Bool.false_eq_true, if_false]
  omega
theorem W_range (x : Int) : -9223372036854775808 ≤ W x ∧ W x ≤ 9223372036854775807 := by
  have e : (2 : Int) ^ IntKind.i64.bits = 18446744073709551616 := by decide
  have e2 : (2 : Int) ^ (IntKind.i64.bits - 1) = 9223372036854775808 := by decide
  unfold W IntKind.wrap
  simp only [e, e2, show IntKind.i64.signed = true from rfl, Bool.true_and]
  split <;> rename_i hs
  · have := of_decide_eq_true hs
    omega
  · have : ¬ (x % 18446744073709551616 ≥ 9223372036854775808) := fun h => hs (decide_eq_true h)
    omega

end Go.Ab

namespace Go.Ab
open Go Go.RowKit

/-- A function whose contract is known otherwise. -/
theorem ent_hand {P : Program} {f : FuncId} {g : List PV → List (List AV) → Option (Ck × Rs)}
    (hg : ∀ (qs : List PV) us c r, g qs us = some (c, r) → c.val = true → us = [] ∧ Callable P f ∧ ∃ x, r = (.val x, []) ∧ ∀ (args : Array Value) (w : World) (S : Cells), args.size = qs.length →
      (∀ (j : Nat) q v, qs[j]? = some q → args[j]? = some v → RP w S (muOf []) (liveOf []) S (fun _ => Go.undef) (fun _ => 0) v q) →
      Calls P f args w fun e w' => ∃ v, e = .returned v ∧ Below w.heap.size w w' ∧ RV w' S v x) : EntOK P f g := by
  intro f' qs us r h
  cases hb : Nat.beq f' f with
  | false => simp [OrcT.orc, hb] at h
  | true =>
    have := Nat.eq_of_beq_eq_true hb
    subst this
    simp only [OrcT.orc, hb, cond_true] at h
    split at h
    case h_2 => cases h
    rename_i c r1 hgs
    obtain ⟨hc, h⟩ := ck_go h
    injection h with h; subst h
    obtain ⟨rfl, hcal, x, rfl, hcalls⟩ := hg qs us c r1 hgs hc
    refine ⟨hcal, ?_⟩
    intro args w S ν hin hsz hrp
    have hν : ν = [] := by
      have := hin.len
      simpa using this
    subst hν
    refine (hcalls args w S hsz hrp).mono ?_
    rintro e w' ⟨v, rfl, hb, hrv⟩
    refine ⟨v, rfl, S, [], ⟨hb.os, hb.tape, hb.output, hb.size, fun b h _ => hb.block b h, ?_⟩, fun _ _ h => h, fun _ _ h => .inl h, ?_, .inl ⟨x, rfl, hrv⟩⟩
    · intro b c e z hbz
      have hlt := (Array.getElem?_eq_some_iff.1 hbz).1
      exact ⟨c, by rw [hb.block b hlt]; exact hbz, rfl⟩
    · exact ⟨rfl, List.nodup_nil, fun b o hS => ⟨Nat.lt_of_lt_of_le (hin.st b o hS).1 hb.size, by simp⟩, fun j b cs h => by simp at h⟩

theorem rv_str {w : World} {S : Cells} {v : Value} {s : List UInt8} (h : RV w S v (.str s)) : ∃ b : ByteArray, v = .string b ∧ b.data.toList = s := by
  cases h with
  | str b => exact ⟨b, rfl, rfl⟩
theorem rv_int {w : World} {S : Cells} {v : Value} {k : IntKind} {n : Int} (h : RV w S v (.int k n)) : v = .int k n := by
  cases h; rfl
theorem rp_val {w : World} {S : Cells} {μ : Nat → Nat} {live : Nat → Prop} {T : Cells} {cv : Loc → Value} {cz : Loc → Nat} {v : Value} {x : AV} (h : RP w S μ live T cv cz v (.val x)) : RV w S v x := by
  cases h; assumption

end Go.Ab
