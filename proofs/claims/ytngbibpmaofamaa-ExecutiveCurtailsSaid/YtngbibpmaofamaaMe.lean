/- A sort by a comparison of one's own: from a pure call of the calculus to what the sorts ask of the comparison; a row whose places are put in another order. -/
import Derived.Test.YtngbibpmaofamaaMb
import Derived.Shelf.SlSortCmp.Kit1
import Derived.Sort.WalkB2
import Derived.Sort.WalkB12
import Derived.Deep.LoopGhost
import Derived.BigRegion
import Derived.WalkKit
import Derived.Lib.Hide
import Derived.Test.YtngbibpmaofamaaProg
import Derived.Test.YtngbibpmaofamaaMd
import Derived.Sort.WalkA
import Derived.Deep.DeepCutAuto
import Derived.Outline
import Derived.Shelf.Small.Bits
import Derived.Shelf.Small.Wraps
import Derived.Shelf.Strconv.Itoa0
import Derived.Shelf.Sort.Plain
import Derived.Shelf.Slices.Turned
import Derived.Ground.Names2Prog
import Derived.Shelf.Slices.CompactI
import Derived.Shelf.Slices.SearchI
import Derived.Shelf.Slices.Cells
import Derived.Shelf.Slices.In.SortNone
set_option linter.all false
set_option linter.unusedSimpArgs false
set_option linter.unusedVariables false
-- BrS
namespace Go.Proofs.Ytngbibpmaofamaa.Ab
open Go Go.Sort

variable {P : Program}

/-- What a captured variable is, while nothing but the row that is sorted changes. -/
inductive Iced (σ : H) (b : Nat) : V → V → Prop
  | pure {v : V} (h : v.Pure) : Iced σ b v v
  | ptr {b' r c : Nat} {e : TypeId} {xs : List (List V)} {row : List V} (hne : b' ≠ b) (hb : σ.get b' = some (.rows e xs)) (hr : xs[r]? = some row) (hp : ∀ x ∈ row, x.Pure) : Iced σ b (.ptr b' r c) (.iptr row c)

theorem Iced.vr {W : World} {σ : H} {ρ : Lay} {F G Fall : Part} {w : World} (h : Rel P W σ ρ F G w) {b : Nat} (hF : F.le Fall) (hG : ∀ b' x l', σ.get b' = some x → b' ≠ b → ρ b' = some l' → Fall l'.k = w.heap[l'.k]?) {v v' : V} {u : Value} (hi : Iced σ b v v') (hv : VR F ρ v u) : VR Fall (fun _ => none) v' u := by
  cases hi with
  | pure hp => exact (hv.mono hF (Lay.le_refl _)).pure hp
  | ptr hne hb hr hp =>
    rename_i b' r c e xs row
    cases hv with
    | ptr hρ =>
      rename_i l
      obtain ⟨l', g1, g2, g3, k1, k2, cc, k3, k4, k5, k6⟩ := h.live b' _ hb
      rw [hρ] at g1; injection g1 with g1; subst g1
      obtain ⟨m1, m2⟩ := k6 r row hr
      refine .iptr (fun j => (cc[l.o + r * l.sz + j]?).getD undef) (cc := cc) (e := l.e) (fr := (0, 0)) (by rw [hG b' _ l hb hne hρ, k3, k1]) (fun j x hx => ?_) (fun j x hx => ?_)
      · obtain ⟨_, y, hy, _⟩ := m2 j x hx
        rw [hy]; rfl
      · obtain ⟨_, y, hy, hvy⟩ := m2 j x hx
        rw [hy]
        exact (hvy.mono hF (Lay.le_refl _)).pure (hp x (mem_of_get hx))

theorem heap_sortWorld {α : Type} [Inhabited α] (enc : α → Value) (w : World) (blk off m : Nat) (dk : Array α) (os : Array Obj) {k : Nat} {o : Obj} (hk : k ≠ blk) (ho : w.heap[k]? = some o) : (sortWorld enc w blk off m dk os).heap[k]? = some o := by
  have hlt := (Array.getElem?_eq_some_iff.1 ho).1
  show ((w.heap.modify blk (onCells (putCells enc off dk))) ++ os)[k]? = some o
  rw [Array.getElem?_append_left (by simpa using hlt), Array.getElem?_modify, if_neg (fun e => hk e.symm), ho]

/-- A world in which all old memory holds still has grown only. -/
theorem grown_of {W w : World} (h1 : w.os = W.os) (h2 : w.tape = W.tape) (h3 : w.output = W.output) (h4 : W.drawn ≤ w.drawn) (h5 : ∀ (k : Nat) o, W.heap[k]? = some o → w.heap[k]? = some o) : ∃ q os, w = grow (W.drewN q) os := by
  refine ⟨w.drawn - W.drawn, w.heap.extract W.heap.size w.heap.size, ?_⟩
  obtain ⟨wh, wt, wd, wo, wu⟩ := w
  obtain ⟨vh, vt, vd, vo, vu⟩ := W
  simp only at h1 h2 h3 h4 h5
  subst h1 h2 h3
  unfold grow World.drewN
  simp only [World.mk.injEq, true_and, and_true]
  have hsz : vh.size ≤ wh.size := by
    rcases Nat.lt_or_ge wh.size vh.size with h | h
    · have := h5 wh.size vh[wh.size] (by simp [h])
      have := (Array.getElem?_eq_some_iff.1 this).1
      omega
    · exact h
  refine ⟨?_, by omega⟩
  apply Array.ext_getElem?
  intro k
  by_cases hk : k < vh.size
  · rw [Array.getElem?_append_left hk]
    have e := Array.getElem?_eq_getElem hk
    rw [e, h5 k _ e]
  · rw [Array.getElem?_append_right (by omega), Array.getElem?_extract]
    by_cases hk2 : k < wh.size
    · rw [if_pos (by omega)]; congr 1; omega
    · rw [if_neg (by omega), Array.getElem?_eq_none (by omega)]

/-- What the sorts ask of a comparison, from a pure call. -/
theorem lays_of_run {α : Type} [Inhabited α] {W : World} {σ : H} {ρ : Lay} {F G : Part} {w : World} (hr : Rel P W σ ρ F G w) {b : Nat} {x : Blk} {l : Loc} (hb : σ.get b = some x) (hl : ρ b = some l) {g : FuncId} {enc : α → Value} {encV : α → V} {cf : α → α → Int} {caps caps' : List V} {cb : List Value} {off size : Nat}
    (hcb : VRL F ρ caps cb) (hlen : caps'.length = caps.length) (hice : ∀ (i : Nat) c c', caps[i]? = some c → caps'[i]? = some c' → Iced σ b c c') (henc : ∀ a, VR F ρ (encV a) (enc a) ∧ (encV a).Pure)
    (hcmp : ∀ a a' : α, PRun P g ([encV a, encV a'] ++ caps') (fun r => r = .int .i64 (cf a a'))) : CmpLays1 P g cb.toArray enc cf l.k off size w := by
  intro m os dk hdk a a'
  obtain ⟨l', g1, g2, g3, _⟩ := hr.live b _ hb
  rw [hl] at g1; injection g1 with g1; subst g1
  obtain ⟨w2, hw2⟩ : ∃ w2, w2 = sortWorld enc w l.k off m dk os := ⟨_, rfl⟩
  rw [← hw2]
  have old : ∀ (k : Nat) o, k ≠ l.k → w.heap[k]? = some o → w2.heap[k]? = some o := fun k o hk ho => by rw [hw2]; exact heap_sortWorld enc w l.k off m dk os hk ho
  have hF : F.le (fun k => w2.heap[k]?) := fun k o hk => old k o (fun e => by rw [e, g2] at hk; simp at hk) (hr.frz k o hk)
  have hG : ∀ b' x l', σ.get b' = some x → b' ≠ b → ρ b' = some l' → w2.heap[l'.k]? = w.heap[l'.k]? := by
    intro b' x' l' hb' hne hl'
    obtain ⟨l2, m1, m2, m3, m4⟩ := hr.live b' x' hb'
    rw [hl'] at m1; injection m1 with m1; subst m1
    have hk : l'.k ≠ l.k := fun e => hne (hr.inj b' b _ _ _ _ hb' hb hl' hl e)
    obtain ⟨o, ho⟩ : ∃ o, w.heap[l'.k]? = some o := by
      cases x' with
      | rows e xs => obtain ⟨_, _, c, g, _⟩ := m4; exact ⟨_, g⟩
      | map es => obtain ⟨es', cl, g, _⟩ := m4; exact ⟨_, g⟩
    rw [ho, old _ _ hk ho]
  have rel : Rel P w2 H.empty (fun _ => none) (fun k => w2.heap[k]?) (fun _ => none) w2 :=
    ⟨rfl, rfl, ⟨rfl, Nat.le_refl _⟩, fun k o h => h, fun k o h => by simp at h, fun k o h => rfl, fun b x h => by simp at h, fun b b' x x' l l' h => by simp at h, fun _ _ => rfl⟩
  have hargs : VRL (fun k => w2.heap[k]?) (fun _ => none) ([encV a, encV a'] ++ caps') ([enc a, enc a'] ++ cb) := by
    refine ⟨by simp [hcb.1, hlen], fun i x y hx hy => ?_⟩
    match i with
    | 0 => simp at hx hy; subst hx; subst hy; exact ((henc a).1.mono hF (Lay.le_refl _)).pure (henc a).2
    | 1 => simp at hx hy; subst hx; subst hy; exact ((henc a').1.mono hF (Lay.le_refl _)).pure (henc a').2
    | i + 2 =>
      simp at hx hy
      have hil := (List.getElem?_eq_some_iff.1 hx).1
      obtain ⟨c, hc⟩ : ∃ c, caps[i]? = some c := ⟨_, List.getElem?_eq_getElem (by omega)⟩
      exact Iced.vr hr hF hG (hice i c x hc hx) (hcb.2 i c y hc hy)
  have hrun := hcmp a a' w2 _ _ _ w2 _ rel hargs
  have e : (#[enc a, enc a'] ++ cb.toArray) = ([enc a, enc a'] ++ cb).toArray := by simp
  rw [e]
  refine hrun.mono ?_
  rintro ex w' ⟨v, r, σ', ρ', F', he, ⟨_, hq⟩, h1, h2, h3, h4⟩
  subst hq
  rw [vr_int h4] at he
  exact ⟨he, grown_of h3.os h3.tape h3.out.1 h3.out.2 fun k o hk => h3.frz k o (h2 k o hk)⟩

/-- A row of one cell each whose places are put in another order. -/
theorem Rel.permRow {W : World} {σ : H} {ρ : Lay} {F G : Part} {w : World} (h : Rel P W σ ρ F G w) {b : Nat} {e : TypeId} {xs : List (List V)} {l : Loc} {c : Array Value} [Inhabited (Fin xs.length)] (hb : σ.get b = some (.rows e xs)) (hl : ρ b = some l) (hsz : P.cellsOf e = 1)
    (hc : w.heap[l.k]? = some (.cells c e (0, 0))) (D : List (Fin xs.length)) (hD : D.length = xs.length) :
    Rel P W (σ.set b (.rows e (D.map fun i => xs[i]))) ρ F G (Sort.putRow (fun i : Fin xs.length => (c[l.o + i.1]?).getD undef) w l.k l.o D.toArray) := by
  obtain ⟨l', g1, g2, g3, k1, k2, c', k3, k4, k5, k6⟩ := h.live b _ hb
  rw [hl] at g1; injection g1 with g1; subst g1
  rw [hc] at k3; injection k3 with k3; injection k3 with k3; subst k3
  have hz1 : l.sz = 1 := by rw [k2, hsz]
  have key := h.setRows (xs' := D.map fun i => xs[i]) (c' := Sort.putCells (fun i : Fin xs.length => (c[l.o + i.1]?).getD undef) l.o D.toArray c) hb hl hc (by simp [Sort.putCells]) (by rw [hz1]; simp [hD]; simpa [hz1] using k5) (by
    intro i row hi
    rw [List.getElem?_map] at hi
    cases hzi : D[i]? with
    | none => rw [hzi] at hi; simp at hi
    | some z =>
      rw [hzi] at hi
      injection hi with hi; subst hi
      obtain ⟨m1, m2⟩ := k6 z.1 xs[z] (List.getElem?_eq_getElem z.2)
      refine ⟨m1, fun j x hj => ?_⟩
      obtain ⟨m3, y, m4, m5⟩ := m2 j x hj
      have hjl : j < l.sz := by rw [← m1]; exact (List.getElem?_eq_some_iff.1 hj).1
      have hj0 : j = 0 := by omega
      subst hj0
      have hil : i < D.length := (List.getElem?_eq_some_iff.1 hzi).1
      have hlt : l.o + i < c.size := by rw [k4]; simp [hz1] at k5; omega
      refine ⟨m3, y, ?_, m5⟩
      rw [hz1]
      rw [hz1] at m4
      have ez : D[i] = z := by rw [List.getElem?_eq_getElem hil] at hzi; injection hzi
      simp at m4
      simp [Sort.putCells, hlt, hil, ez, m4])
  have e : Sort.putRow (fun i : Fin xs.length => (c[l.o + i.1]?).getD undef) w l.k l.o D.toArray = w.setRow l.k (Sort.putCells (fun i : Fin xs.length => (c[l.o + i.1]?).getD undef) l.o D.toArray c) := by
    unfold Sort.putRow Sort.mapBlock World.setRow
    congr 1
    apply Array.ext_getElem?
    intro k
    rw [Array.getElem?_modify, Array.getElem?_modify]
    by_cases hk : l.k = k
    · subst hk; rw [if_pos rfl, if_pos rfl, hc]; rfl
    · rw [if_neg hk, if_neg hk]
  rw [e]
  exact key

/-- A call of a sort with a comparison of one's own, from the sort's contract; `ord` is what the contract says of the order. -/
theorem Run.sortsBy {f g : FuncId} {σ : H} {K : V → H → Prop} {b n : Nat} {e : TypeId} {ex : Bool} {xs : List (List V)} {caps caps' : List V} (hb : σ.get b = some (.rows e xs)) (hn : n = xs.length) (h0 : 0 < xs.length) (hsz : P.cellsOf e = 1) (encV : Fin xs.length → V) (hxs : ∀ i : Fin xs.length, xs[i] = [encV i] ∧ (encV i).Pure)
    (cf : Fin xs.length → Fin xs.length → Int) (hlen : caps'.length = caps.length) (hice : ∀ (i : Nat) c c', caps[i]? = some c → caps'[i]? = some c' → Iced σ b c c')
    (hcmp : ∀ i j, PRun P g ([encV i, encV j] ++ caps') (fun r => r = .int .i64 (cf i j))) (ord : List (Fin xs.length) → Prop) 
    (hc : ∀ (inst : Inhabited (Fin xs.length)) (enc : Fin xs.length → Value) (cb : Array Value) (blk off cap : Nat) (w : World), CmpLays1 P g cb enc cf blk off xs.length w → Row1 enc w blk off (List.finRange xs.length).toArray →
      Calls P f #[.slice (some ⟨blk, off, none⟩) xs.length cap, .func (.func g) #[] cb] w fun e w' => e = .returned (.tuple #[]) ∧ ∃ D : List (Fin xs.length), D.Perm (List.finRange xs.length) ∧ ord D ∧ SW enc w blk off D.toArray w')
    (k : ∀ D : List (Fin xs.length), D.Perm (List.finRange xs.length) → ord D → K (.tup []) (σ.set b (.rows e (D.map fun i => xs[i])))) : Run P f [.sl 1 b 0 n ex, .fn g caps] σ K := by
  subst hn
  intro W ρ F G w ys hr hy
  obtain ⟨y1, y2, rfl⟩ : ∃ y1 y2, ys = [y1, y2] := by
    match ys, hy.1 with
    | [y1, y2], _ => exact ⟨y1, y2, rfl⟩
  have hv := hy.2 0 _ y1 rfl rfl
  have hv2 := hy.2 1 _ y2 rfl rfl
  cases hv2 with
  | fn cb hcl hcv =>
  cases hv with
  | sl hl hz hle hx hk hs ha hn =>
    rename_i l a cap
    have hcap : cap ≠ 0 := by omega
    have hao : a.off = l.o := by have := ha hcap; omega
    have haeq : a = ⟨l.k, l.o, none⟩ := by
      obtain ⟨ab, ao, asp⟩ := a
      simp only at hk hs hao
      rw [hk, hs, hao]
    obtain ⟨l', g1, g2, g3, k1, k2, c, k3, k4, k5, k6⟩ := hr.live b _ hb
    rw [hl] at g1; injection g1 with g1; subst g1
    have hz1 : l.sz = 1 := by rw [k2, hsz]
    haveI inst : Inhabited (Fin xs.length) := ⟨⟨0, h0⟩⟩
    obtain ⟨enc, henc⟩ : ∃ enc : Fin xs.length → Value, enc = fun i => (c[l.o + i.1]?).getD undef := ⟨_, rfl⟩
    have hcell : ∀ i : Fin xs.length, c[l.o + i.1]? = some (enc i) ∧ VR F ρ (encV i) (enc i) ∧ (encV i).one = true := by
      intro i
      obtain ⟨m1, m2⟩ := k6 i.1 xs[i] (List.getElem?_eq_getElem i.2)
      obtain ⟨m3, y, m4, m5⟩ := m2 0 (encV i) (by rw [(hxs i).1]; rfl)
      rw [hz1] at m4
      simp at m4
      rw [henc]
      simp only [m4]
      exact ⟨rfl, m5, m3⟩
    have hlays : CmpLays1 P g cb.toArray enc cf l.k l.o xs.length w := lays_of_run (P := P) hr hb hl (cf := cf) (encV := encV) ⟨hcl, hcv⟩ hlen hice (fun i => ⟨(hcell i).2.1, (hxs i).2⟩) hcmp
    have hrow : Row1 enc w l.k l.o (List.finRange xs.length).toArray := by
      refine ⟨fun i => (hcell i).2.1.one (hcell i).2.2, ?_, (Array.getElem?_eq_some_iff.1 k3).1⟩
      intro j hj
      have hj' : j < xs.length := by simpa using hj
      have ej : (List.finRange xs.length).toArray[j]! = ⟨j, hj'⟩ := by
        rw [getElem!_pos _ j (by simpa using hj')]
        simp
      rw [ej]
      refine ⟨?_, ?_⟩
      · unfold World.cell?
        simp [k3, (hcell ⟨j, hj'⟩).1]
      · unfold World.frozen?
        simp [k3]
    have := hc inst enc cb.toArray l.k l.o cap w hlays hrow
    rw [haeq]
    refine this.mono ?_
    rintro ex w' ⟨he, D, hD, hord, m, os, rfl⟩
    have hDl : D.length = xs.length := by rw [hD.length_eq]; simp
    have hr1 := hr.grow m #[]
    rw [Sort.grow_empty] at hr1
    have hr2 := (hr1.permRow hb hl hsz (c := c) (by exact k3) D hDl).grow 0 os
    rw [← henc] at hr2
    exact ⟨.tuple #[], .tup [], _, ρ, F, he, k D hD hord, Lay.le_refl _, Part.le_refl _, hr2, undefVR⟩

end Go.Proofs.Ytngbibpmaofamaa.Ab

/- slices.swapRangeCmpFunc, rotateCmpFunc and insertionSortCmpFunc at []int: what they do to the row, whatever the comparison. -/
-- Sta1
namespace Go.Proofs.StabW
open Go.Shelf Go.RowKit Go.Lib Go.Sort Go.Proofs.Stab
variable {α : Type} [Inhabited α]

theorem mixed : Try.prog.follows .mixedOrders = true := by kernel_rfl

set_option maxHeartbeats 4000000 in
set_option maxRecDepth 1000000 in
theorem swapRange_s (enc : α → Value) (fv : Value) (blk off cap a b n : Nat) (d0 d : Array α) (w0 w : World)
    (R : Row1 enc w0 blk off d0) (hs : d0.size = d.size) (S : SW enc w0 blk off d w) (ha : a + n ≤ d.size) (hb : b + n ≤ d.size) (hsz : d.size < 4611686018427387904) :
    Calls Try.prog 162 #[.slice (some ⟨blk, off, none⟩) d.size cap, .int .i64 a, .int .i64 b, .int .i64 n, fv] w fun e w' => e = .returned (.tuple #[]) ∧ SW enc w0 blk off (swapFrom a b n 0 d) w' := by
  have hcl0 := R.hO.cells
  simp only [Value.cells] at hcl0
  have hst := R.hO.store Try.prog
  have S0 : Aside (SW enc w0 blk off d w) := S
  clear S
  go_enter Try.func162, Try.ntmps162
  go_wp2
  go_loopg [10] n (fun kx s10 wr => ∃ (i : Nat) (dk : Array α), s10 = .int .i64 i ∧ i ≤ n ∧ n - i ≤ kx ∧ dk.size = d.size ∧ Aside (SW enc w0 blk off dk wr) ∧ Hid (swapFrom a b (n - i) i dk = swapFrom a b n 0 d))
  case atStart => exact ⟨0, d, rfl, by omega, by omega, rfl, S0, rfl⟩
  case round =>
    clear S0
    obtain ⟨i, dk, rfl, hi, hkx, hds, S1, HO⟩ := hrel
    by_cases hlt : i < n
    · have hltz : (i : Int) < (n : Int) := by omega
      go_wp2_with fail
      obtain ⟨iN, hiN⟩ : ∃ q, q = a + i := ⟨_, rfl⟩
      obtain ⟨jN, hjN⟩ : ∃ q, q = b + i := ⟨_, rfl⟩
      have ea : ((a : Int) + (i : Int)).toNat = iN := by omega
      have pa : (0 : Int) ≤ (a : Int) + (i : Int) := by omega
      have ba : (a : Int) + (i : Int) < (d.size : Int) := by omega
      have ra : IntKind.i64.wrap ((a : Int) + (i : Int)) = (a : Int) + (i : Int) := by rw [IntKind.wrap_i64]; omega
      have ec : ((b : Int) + (i : Int)).toNat = jN := by omega
      have pc : (0 : Int) ≤ (b : Int) + (i : Int) := by omega
      have bc : (b : Int) + (i : Int) < (d.size : Int) := by omega
      have rc : IntKind.i64.wrap ((b : Int) + (i : Int)) = (b : Int) + (i : Int) := by rw [IntKind.wrap_i64]; omega
      obtain ⟨x, hx⟩ : ∃ x, x = dk[a + i]! := ⟨_, rfl⟩
      obtain ⟨y, hy⟩ : ∃ x, x = dk[b + i]! := ⟨_, rfl⟩
      have S2 : Aside (SW enc w0 blk off (swp dk (a + i) (b + i)) ((wr.setCell ⟨blk, off + iN, none⟩ (enc y)).setCell ⟨blk, off + jN, none⟩ (enc x)).drew) := by rw [hiN, hjN, hx, hy]; exact S1.out.swapped R (a + i) (b + i) (by omega) (by omega)
      have ca := S1.out.c1 R (by omega) (a + i) (by omega)
      have cb := S1.out.c1 R (by omega) (b + i) (by omega)
      have fa := S1.out.f1 R (by omega) (a + i) (by omega)
      have fb := S1.out.f1 R (by omega) (b + i) (by omega)
      obtain ⟨u, cc⟩ := S1.out.c2 R (by omega) (a + i) (b + i) (by omega) (by omega) (enc y)
      rw [← hjN, ← hiN] at cc
      rw [← hx, ← hiN] at ca
      rw [← hy, ← hjN] at cb
      rw [← hiN] at fa
      rw [← hjN] at fb
      clear S1 hx hy hiN hjN
      go_wp2_with fail
      go_big_region
      clear ca cb cc fa fb
      generalize ((wr.setCell ⟨blk, off + iN, none⟩ (enc y)).setCell ⟨blk, off + jN, none⟩ (enc x)).drew = w2 at S2 ⊢
      clear ea ec
      go_wp2
      go_roundg (n - (i + 1))
      case measure => omega
      case rel => exact ⟨i + 1, swp dk (a + i) (b + i), by go_num, by omega, Nat.le_refl _, by rw [size_swp]; exact hds, S2, (show Hid _ from by rw [← HO.out, show n - i = (n - (i + 1)) + 1 by omega, swapFrom]; exact rfl)⟩
    · have hltz : ¬ (i : Int) < (n : Int) := by omega
      go_wp2
      go_end0
      refine ⟨rfl, ?_⟩
      rw [← HO.out, show n - i = 0 by omega, swapFrom]
      exact S1.out

set_option maxHeartbeats 4000000 in
set_option maxRecDepth 1000000 in
theorem rotate_s (enc : α → Value) (fv : Value) (blk off cap a m b : Nat) (d0 d : Array α) (w0 w : World)
    (R : Row1 enc w0 blk off d0) (hs : d0.size = d.size) (S : SW enc w0 blk off d w) (ham : a < m) (hmb : m < b) (hb : b ≤ d.size) (hsz : d.size < 4611686018427387904) :
    Calls Try.prog 155 #[.slice (some ⟨blk, off, none⟩) d.size cap, .int .i64 a, .int .i64 m, .int .i64 b, fv] w fun e w' => e = .returned (.tuple #[]) ∧ SW enc w0 blk off (rotLoop m (b - a) (m - a) (b - m) d) w' := by
  have S0 : Aside (SW enc w0 blk off d w) := S
  clear S
  have e1 : (m : Int) - (a : Int) = ((m - a : Nat) : Int) := by omega
  have e2 : (b : Int) - (m : Int) = ((b - m : Nat) : Int) := by omega
  have H1 := Lib.hid e1
  have H2 := Lib.hid e2
  clear e1 e2
  go_enter Try.func155, Try.ntmps155
  go_wp2
  go_loopg [10, 11] (b - a) (fun kx s10 s11 wr => ∃ (i j : Nat) (dk : Array α), s10 = .int .i64 i ∧ s11 = .int .i64 j ∧ 0 < i ∧ 0 < j ∧ i ≤ m ∧ m + j ≤ d.size ∧ i + j ≤ kx ∧ dk.size = d.size ∧ Aside (SW enc w0 blk off dk wr) ∧ Hid (rotLoop m kx i j dk = rotLoop m (b - a) (m - a) (b - m) d))
  case atStart => exact ⟨m - a, b - m, d, by rw [H1.out], by rw [H2.out], by omega, by omega, by omega, by omega, by omega, rfl, S0, rfl⟩
  case round =>
    clear S0
    obtain ⟨i, j, dk, rfl, rfl, hi, hj, him, hjs, hkx, hds, S1, HO⟩ := hrel
    obtain ⟨g, rfl⟩ : ∃ q, gk = q + 1 := ⟨gk - 1, by omega⟩
    by_cases hij : i = j
    · subst hij
      have HQ : Hid (swapFrom (m - i) m i 0 dk = rotLoop m (b - a) (m - a) (b - m) d) := by rw [← HO.out, rotLoop, if_pos rfl]; exact rfl
      clear HO
      have hb1 : ((i : Int) != (i : Int)) = false := by simp
      have hc : ∀ W, SW enc w0 blk off dk W → Calls Try.prog 162 #[.slice (some ⟨blk, off, none⟩) d.size cap, .int .i64 ((m - i : Nat) : Int), .int .i64 m, .int .i64 i, fv] W fun e w' => e = .returned (.tuple #[]) ∧ SW enc w0 blk off (swapFrom (m - i) m i 0 dk) w' := fun W hW => by
        rw [← hds]; exact swapRange_s enc fv blk off cap (m - i) m i d0 dk w0 W R (by omega) hW (by omega) (by omega) (by omega)
      have HC := Lib.hid hc
      clear hc
      go_wp2_with fail
      have e3 : (m : Int) - (i : Int) = ((m - i : Nat) : Int) := by omega
      rw [e3]
      clear e3
      refine (HC.out _ S1.out).mono ?_
      rintro e w' ⟨rfl, S2⟩
      rw [HQ.out] at S2
      have S3 := Lib.hid S2
      clear S2
      go_wp2
      go_end0
      exact ⟨rfl, S3.out⟩
    · have hb1 : ((i : Int) != (j : Int)) = true := by rw [bne_iff_ne]; omega
      by_cases hlt : j < i
      · have hltz : (j : Int) < (i : Int) := by omega
        have HQ : Hid (rotLoop m g (i - j) j (swapFrom (m - i) m j 0 dk) = rotLoop m (b - a) (m - a) (b - m) d) := by rw [← HO.out, rotLoop, if_neg hij, if_pos hlt]; exact rfl
        clear HO
        have hc : ∀ W, SW enc w0 blk off dk W → Calls Try.prog 162 #[.slice (some ⟨blk, off, none⟩) d.size cap, .int .i64 ((m - i : Nat) : Int), .int .i64 m, .int .i64 j, fv] W fun e w' => e = .returned (.tuple #[]) ∧ SW enc w0 blk off (swapFrom (m - i) m j 0 dk) w' := fun W hW => by
          rw [← hds]; exact swapRange_s enc fv blk off cap (m - i) m j d0 dk w0 W R (by omega) hW (by omega) (by omega) (by omega)
        have HC := Lib.hid hc
        clear hc
        go_wp2_with fail
        have e3 : (m : Int) - (i : Int) = ((m - i : Nat) : Int) := by omega
        rw [e3]
        clear e3
        refine (HC.out _ S1.out).mono ?_
        rintro e w' ⟨rfl, S2⟩
        have S3 : Aside _ := S2
        clear S2 S1
        go_wp2
        go_roundg g
        case measure => omega
        case rel => exact ⟨i - j, j, _, by go_num, rfl, by omega, hj, by omega, hjs, by omega, by rw [swapFrom_size]; exact hds, S3, HQ⟩
      · have hltz : ¬ (j : Int) < (i : Int) := by omega
        have HQ : Hid (rotLoop m g i (j - i) (swapFrom (m - i) (m + j - i) i 0 dk) = rotLoop m (b - a) (m - a) (b - m) d) := by rw [← HO.out, rotLoop, if_neg hij, if_neg hlt]; exact rfl
        clear HO
        have hc : ∀ W, SW enc w0 blk off dk W → Calls Try.prog 162 #[.slice (some ⟨blk, off, none⟩) d.size cap, .int .i64 ((m - i : Nat) : Int), .int .i64 ((m + j - i : Nat) : Int), .int .i64 i, fv] W fun e w' => e = .returned (.tuple #[]) ∧ SW enc w0 blk off (swapFrom (m - i) (m + j - i) i 0 dk) w' := fun W hW => by
          rw [← hds]; exact swapRange_s enc fv blk off cap (m - i) (m + j - i) i d0 dk w0 W R (by omega) hW (by omega) (by omega) (by omega)
        have HC := Lib.hid hc
        clear hc
        go_wp2_with fail
        have e3 : (m : Int) - (i : Int) = ((m - i : Nat) : Int) := by omega
        have e4 : (m : Int) + (j : Int) - (i : Int) = ((m + j - i : Nat) : Int) := by omega
        rw [e3, e4]
        clear e3 e4
        refine (HC.out _ S1.out).mono ?_
        rintro e w' ⟨rfl, S2⟩
        have S3 : Aside _ := S2
        clear S2 S1
        go_wp2
        go_roundg g
        case measure => omega
        case rel => exact ⟨i, j - i, _, rfl, by go_num, hi, by omega, him, by omega, by omega, by rw [swapFrom_size]; exact hds, S3, HQ⟩
end Go.Proofs.StabW

/- slices.insertionSortCmpFunc at []int: what it does to the row. -/
-- Sta2
namespace Go.Proofs.StabW
open Go.Shelf Go.RowKit Go.Lib Go.Sort Go.Proofs.Stab
variable {α : Type} [Inhabited α]

set_option maxHeartbeats 16000000 in
set_option maxRecDepth 1000000 in
theorem insertion_s (enc : α → Value) (cf : α → α → Int) (g : Nat) (cb : Array Value) (blk off cap a b : Nat) (d0 d : Array α) (w0 w : World)
    (eg : ∀ args w, (callFunc g args).run Try.prog w = .ok (.enter g args) w) (hcmp : CmpLays1 Try.prog g cb enc cf blk off d0.size w0) (R : Row1 enc w0 blk off d0) (hs : d0.size = d.size) (S : SW enc w0 blk off d w) (hab : a ≤ b) (hb : b ≤ d.size) (hsz : d.size < 4611686018427387904) :
    Calls Try.prog 138 #[.slice (some ⟨blk, off, none⟩) d.size cap, .int .i64 a, .int .i64 b, .func (.func g) #[] cb] w fun e w' => e = .returned (.tuple #[]) ∧ SW enc w0 blk off (Sort.insertionSort (ltOf cf) d a b) w' := by
  have mixed := mixed
  have hcl0 := R.hO.cells
  simp only [Value.cells] at hcl0
  have hst := R.hO.store Try.prog
  have HC : Aside _ := hcmp
  have S0 : Aside (SW enc w0 blk off d w) := S
  clear S
  clear hcmp
  go_enter Try.func138, Try.ntmps138
  go_wp2
  go_loopg [8] (b - a) (fun g1 vi wr => ∃ (i : Nat) (dk : Array α), vi = .int .i64 i ∧ a < i ∧ i ≤ b + 1 ∧ b + 1 - i ≤ g1 + 1 ∧ dk.size = d.size ∧ Aside (SW enc w0 blk off dk wr) ∧ Hid (insOuter (ltOf cf) a b i dk = insOuter (ltOf cf) a b (a + 1) d))
  case atStart => exact ⟨a + 1, d, by go_num, by omega, by omega, by omega, rfl, S0, rfl⟩
  case round =>
    clear S0
    obtain ⟨i, dk, rfl, hai, hib, hg1, hsk, S1, HO⟩ := hrel
    by_cases hlt : i < b
    · have hltz : (i : Int) < (b : Int) := by omega
      go_wp2
      -- the inner loop
      go_loopg [9] i (fun g2 vj wr2 => ∃ (j : Nat) (dj : Array α), vj = .int .i64 j ∧ a ≤ j ∧ j ≤ i ∧ j ≤ g2 ∧ dj.size = d.size ∧ Aside (SW enc w0 blk off dj wr2) ∧ Hid (insInner (ltOf cf) a j dj = insInner (ltOf cf) a i dk))
      case atStart => exact ⟨i, dk, rfl, by omega, Nat.le_refl _, Nat.le_refl _, hsk, S1, rfl⟩
      case round =>
        clear S1
        obtain ⟨j, dj, rfl, haj, hji, hg2, hsj, SJ, HI⟩ := hrel
        have out : (j ≤ a ∨ (ltOf cf) dj[j]! dj[j - 1]! = false) → Hid (insOuter (ltOf cf) a b (i + 1) dj = insOuter (ltOf cf) a b (a + 1) d) := fun hs => by
          show _ = _
          rw [← HO.out, insOuter_go _ _ _ _ _ hlt, ← HI.out, insInner_stop _ _ _ _ hs]
        have OUT : Aside _ := out
        clear out
        by_cases hja : a < j
        · have hjaz : (a : Int) < (j : Int) := by omega
          obtain ⟨jp, hjp⟩ : ∃ q, q + 1 = j := ⟨j - 1, by omega⟩
          have zjp : (j : Int) = (jp : Int) + 1 := by omega
          have hjad : decide ((jp : Int) + 1 > (a : Int)) = true := decide_eq_true (by omega)
          have hjaz' : (a : Int) < (jp : Int) + 1 := by omega
          cases hlv : (ltOf cf) dj[j]! dj[j - 1]! with
          | true =>
            obtain ⟨iN1193, hiN1193⟩ : ∃ q, q = j := ⟨_, rfl⟩
            obtain ⟨jN1193, hjN1193⟩ : ∃ q, q = j - 1 := ⟨_, rfl⟩
            have ea1193 : ((jp : Int) + 1).toNat = iN1193 := by omega
            have pa1193 : (0 : Int) ≤ (jp : Int) + 1 := by omega
            have ba1193 : (jp : Int) + 1 < (d.size : Int) := by omega
            have ra1193 : IntKind.i64.wrap ((jp : Int) + 1) = (jp : Int) + 1 := by rw [IntKind.wrap_i64]; omega
            have ec1193 : ((jp : Int)).toNat = jN1193 := by omega
            have pc1193 : (0 : Int) ≤ (jp : Int) := by omega
            have bc1193 : (jp : Int) < (d.size : Int) := by omega
            have rc1193 : IntKind.i64.wrap ((jp : Int)) = (jp : Int) := by rw [IntKind.wrap_i64]; omega
            obtain ⟨x1193, hx1193⟩ : ∃ x, x = dj[j]! := ⟨_, rfl⟩
            obtain ⟨y1193, hy1193⟩ : ∃ x, x = dj[j - 1]! := ⟨_, rfl⟩
            have l1193a := SJ.out.cl R (by omega) (j) (by omega)
            have l1193b := SJ.out.cl R (by omega) (j - 1) (by omega)
            rw [← hx1193, ← hiN1193] at l1193a
            rw [← hy1193, ← hjN1193] at l1193b
            have hc1193 := SJ.out.cmp HC.out (by omega) x1193 y1193
            have hv1193 : cf x1193 y1193 < 0 := by rw [hx1193, hy1193]; exact of_decide_eq_true hlv
            have hd1193 : decide (cf x1193 y1193 < 0) = true := decide_eq_true hv1193
            clear hx1193 hy1193 hiN1193 hjN1193
            go_wp2_with fail
            go_quiet_grown (first | (go_at_fn g; refine Calls.grown_of (hc1193 _ _)))
            have S2 : Aside (SW enc w0 blk off dj (grow (wr.drewN nq) osq)) := SJ.out.grown nq osq
            clear l1193a l1193b hc1193 SJ
            generalize grow (wr.drewN nq) osq = w2 at S2 ⊢
            clear nq osq
            clear ea1193 ec1193
            go_wp2_with fail
            obtain ⟨iN1194, hiN1194⟩ : ∃ q, q = j := ⟨_, rfl⟩
            obtain ⟨jN1194, hjN1194⟩ : ∃ q, q = j - 1 := ⟨_, rfl⟩
            have ea1194 : ((jp : Int) + 1).toNat = iN1194 := by omega
            have pa1194 : (0 : Int) ≤ (jp : Int) + 1 := by omega
            have ba1194 : (jp : Int) + 1 < (d.size : Int) := by omega
            have ra1194 : IntKind.i64.wrap ((jp : Int) + 1) = (jp : Int) + 1 := by rw [IntKind.wrap_i64]; omega
            have ec1194 : ((jp : Int)).toNat = jN1194 := by omega
            have pc1194 : (0 : Int) ≤ (jp : Int) := by omega
            have bc1194 : (jp : Int) < (d.size : Int) := by omega
            have rc1194 : IntKind.i64.wrap ((jp : Int)) = (jp : Int) := by rw [IntKind.wrap_i64]; omega
            obtain ⟨x1194, hx1194⟩ : ∃ x, x = dj[j]! := ⟨_, rfl⟩
            obtain ⟨y1194, hy1194⟩ : ∃ x, x = dj[j - 1]! := ⟨_, rfl⟩
            have S3 : Aside (SW enc w0 blk off (swp dj (j) (j - 1)) ((w2.setCell ⟨blk, off + iN1194, none⟩ (enc y1194)).setCell ⟨blk, off + jN1194, none⟩ (enc x1194)).drew) := by rw [hiN1194, hjN1194, hx1194, hy1194]; exact S2.out.swapped R (j) (j - 1) (by omega) (by omega)
            have c1194a := S2.out.c1 R (by omega) (j) (by omega)
            have c1194b := S2.out.c1 R (by omega) (j - 1) (by omega)
            have f1194a := S2.out.f1 R (by omega) (j) (by omega)
            have f1194b := S2.out.f1 R (by omega) (j - 1) (by omega)
            obtain ⟨u1194, c1194c⟩ := S2.out.c2 R (by omega) (j) (j - 1) (by omega) (by omega) (enc y1194)
            rw [← hjN1194, ← hiN1194] at c1194c
            rw [← hx1194, ← hiN1194] at c1194a
            rw [← hy1194, ← hjN1194] at c1194b
            rw [← hiN1194] at f1194a
            rw [← hjN1194] at f1194b
            clear S2 hx1194 hy1194 hiN1194 hjN1194
            go_wp2_with fail
            go_big_region
            clear c1194a c1194b c1194c f1194a f1194b
            generalize ((w2.setCell ⟨blk, off + iN1194, none⟩ (enc y1194)).setCell ⟨blk, off + jN1194, none⟩ (enc x1194)).drew = w3 at S3 ⊢
            clear ea1194 ec1194
            go_wp2
            go_roundg (j - 1)
            case measure => omega
            case rel => exact ⟨j - 1, swp dj j (j - 1), by first | rfl | go_num | (congr 1; omega), by omega, by omega, Nat.le_refl _, by rw [size_swp]; exact hsj, S3, (show Hid _ from by rw [← HI.out, insInner_go (ltOf cf) a j dj hja hlv]; exact rfl)⟩
          | false =>
            obtain ⟨iN1195, hiN1195⟩ : ∃ q, q = j := ⟨_, rfl⟩
            obtain ⟨jN1195, hjN1195⟩ : ∃ q, q = j - 1 := ⟨_, rfl⟩
            have ea1195 : ((jp : Int) + 1).toNat = iN1195 := by omega
            have pa1195 : (0 : Int) ≤ (jp : Int) + 1 := by omega
            have ba1195 : (jp : Int) + 1 < (d.size : Int) := by omega
            have ra1195 : IntKind.i64.wrap ((jp : Int) + 1) = (jp : Int) + 1 := by rw [IntKind.wrap_i64]; omega
            have ec1195 : ((jp : Int)).toNat = jN1195 := by omega
            have pc1195 : (0 : Int) ≤ (jp : Int) := by omega
            have bc1195 : (jp : Int) < (d.size : Int) := by omega
            have rc1195 : IntKind.i64.wrap ((jp : Int)) = (jp : Int) := by rw [IntKind.wrap_i64]; omega
            obtain ⟨x1195, hx1195⟩ : ∃ x, x = dj[j]! := ⟨_, rfl⟩
            obtain ⟨y1195, hy1195⟩ : ∃ x, x = dj[j - 1]! := ⟨_, rfl⟩
            have l1195a := SJ.out.cl R (by omega) (j) (by omega)
            have l1195b := SJ.out.cl R (by omega) (j - 1) (by omega)
            rw [← hx1195, ← hiN1195] at l1195a
            rw [← hy1195, ← hjN1195] at l1195b
            have hc1195 := SJ.out.cmp HC.out (by omega) x1195 y1195
            have hv1195 : ¬ cf x1195 y1195 < 0 := by rw [hx1195, hy1195]; exact of_decide_eq_false hlv
            have hd1195 : decide (cf x1195 y1195 < 0) = false := decide_eq_false hv1195
            clear hx1195 hy1195 hiN1195 hjN1195
            go_wp2_with fail
            go_quiet_grown (first | (go_at_fn g; refine Calls.grown_of (hc1195 _ _)))
            have S2 : Aside (SW enc w0 blk off dj (grow (wr.drewN nq) osq)) := SJ.out.grown nq osq
            clear l1195a l1195b hc1195 SJ
            generalize grow (wr.drewN nq) osq = w2 at S2 ⊢
            clear nq osq
            clear ea1195 ec1195
            go_wp2
            go_roundg (b - (i + 1))
            case measure => omega
            case rel => exact ⟨i + 1, dj, by go_num, by omega, by omega, by omega, hsj, S2, OUT.out (Or.inr hlv)⟩
        · -- j = a: out of the inner loop (the guard is false: 'cmp' is not called)
          have hjaz : decide ((j : Int) > (a : Int)) = false := decide_eq_false (by omega)
          have hjaz' : ¬ (a : Int) < (j : Int) := by omega
          go_wp2_with fail
          go_big_region
          have S2 : Aside (SW enc w0 blk off dj wr.drew) := SJ.out.drew
          clear SJ
          generalize wr.drew = w2 at S2 ⊢
          go_wp2
          go_roundg (b - (i + 1))
          case measure => omega
          case rel => exact ⟨i + 1, dj, by go_num, by omega, by omega, by omega, hsj, S2, OUT.out (Or.inl (by omega))⟩
    · -- the outer loop is at its end
      have hltz : ¬ (i : Int) < (b : Int) := by omega
      go_wp2
      go_end0
      exact ⟨rfl, by unfold Sort.insertionSort; rw [← HO.out, insOuter_stop _ _ _ _ _ hlt]; exact S1.out⟩


end Go.Proofs.StabW

/- slices.symMergeCmpFunc at []int: what it does to the row. -/
-- Sta3
namespace Go.Proofs.StabW
open Go.Shelf Go.RowKit Go.Lib Go.Sort Go.Proofs.Stab
variable {α : Type} [Inhabited α]

set_option maxHeartbeats 16000000 in
set_option maxRecDepth 1000000 in
/-- One element on the left. -/
theorem symL (enc : α → Value) (cf : α → α → Int) (g : Nat) (cb : Array Value) (blk off cap a m b : Nat) (d0 d : Array α) (w0 w : World)
    (eg : ∀ args w, (callFunc g args).run Try.prog w = .ok (.enter g args) w) (hcmp : CmpLays1 Try.prog g cb enc cf blk off d0.size w0) (R : Row1 enc w0 blk off d0) (hs : d0.size = d.size) (S : SW enc w0 blk off d w) (ham : m = a + 1) (hmb : m < b) (hb : b ≤ d.size) (hsz : d.size < 4611686018427387904) :
    Calls Try.prog 139 #[.slice (some ⟨blk, off, none⟩) d.size cap, .int .i64 a, .int .i64 m, .int .i64 b, .func (.func g) #[] cb] w fun e w' => e = .returned (.tuple #[]) ∧ SW enc w0 blk off (shR (bs (fun h => clt cf d[h]! d[a]!) (b - m) m b - 1 - a) a d) w' := by
  have mixed := mixed
  have hcl0 := R.hO.cells
  simp only [Value.cells] at hcl0
  have hst := R.hO.store Try.prog
  have HC : Aside _ := hcmp
  have S0 : Aside (SW enc w0 blk off d w) := S
  clear S
  clear hcmp
  have H1 : Hid (m = a + 1) := ham
  have ham2 : a < m := by omega
  have hd1 : ((m : Int) - (a : Int) == 1) = true := by rw [beq_iff_eq]; omega
  clear ham
  go_enter Try.func139, Try.ntmps139
  go_wp2
  go_loopg [10, 11, 12] (b - m) (fun kx s10 s11 s12 wr => ∃ (i j : Nat), s10 = .int .i64 i ∧ s11 = .int .i64 j ∧ m ≤ i ∧ i ≤ j ∧ j ≤ b ∧ j - i ≤ kx ∧ Aside (SW enc w0 blk off d wr) ∧ Hid (bs (fun h => clt cf d[h]! d[a]!) kx i j = bs (fun h => clt cf d[h]! d[a]!) (b - m) m b))
  case atStart => exact ⟨m, b, rfl, rfl, by omega, by omega, by omega, by omega, S0, rfl⟩
  case round =>
    clear S0
    obtain ⟨i, j, rfl, rfl, hi, hij, hj, hkx, S1, HO⟩ := hrel
    by_cases hlt : i < j
    · have hltz : (i : Int) < (j : Int) := by omega
      obtain ⟨gg, rfl⟩ : ∃ q, gk = q + 1 := ⟨gk - 1, by omega⟩
      obtain ⟨h, eh⟩ : ∃ h : Nat, h = (i + j) / 2 := ⟨_, rfl⟩
      have hh1 : i ≤ h := by omega
      have hh2 : h < j := by omega
      have HQ : Hid ((if clt cf d[h]! d[a]! = true then bs (fun h => clt cf d[h]! d[a]!) gg (h + 1) j else bs (fun h => clt cf d[h]! d[a]!) gg i h) = bs (fun h => clt cf d[h]! d[a]!) (b - m) m b) := by
        rw [← HO.out, bs, if_pos hlt, eh]; exact rfl
      clear HO
      have EH : Hid (h = (i + j) / 2) := eh
      clear eh
      go_wp2_with fail
      have ez : ((i : Int) + (j : Int)) / 2 = (h : Int) := by have := EH.out; omega
      rw [ez]
      clear ez
      have pa : (0 : Int) ≤ (h : Int) := by omega
      have ba : (h : Int) < (d.size : Int) := by omega
      have pc : (0 : Int) ≤ (a : Int) := by omega
      have bc : (a : Int) < (d.size : Int) := by omega
      obtain ⟨x, hx⟩ : ∃ x, x = d[h]! := ⟨_, rfl⟩
      obtain ⟨y, hy⟩ : ∃ x, x = d[a]! := ⟨_, rfl⟩
      have la := S1.out.cl R (by omega) h (by omega)
      have lb := S1.out.cl R (by omega) a (by omega)
      rw [← hx] at la
      rw [← hy] at lb
      have hc := S1.out.cmp HC.out (by omega) x y
      cases hv : clt cf d[h]! d[a]! with
      | true =>
        have HQ2 : Hid (bs (fun h => clt cf d[h]! d[a]!) gg (h + 1) j = bs (fun h => clt cf d[h]! d[a]!) (b - m) m b) := by rw [← HQ.out, if_pos hv]; exact rfl
        have hv2 : cf x y < 0 := by rw [hx, hy]; exact of_decide_eq_true hv
        have hd : decide (cf x y < 0) = true := decide_eq_true hv2
        clear hx hy hv HQ
        go_quiet_grown (first | (go_at_fn g; refine Calls.grown_of (hc _ _)))
        have S2 : Aside (SW enc w0 blk off d (grow (wr.drewN nq) osq)) := S1.out.grown nq osq
        clear la lb hc S1
        generalize grow (wr.drewN nq) osq = w2 at S2 ⊢
        clear nq osq
        go_wp2
        go_roundg gg
        case measure => omega
        case rel => exact ⟨h + 1, j, by go_num, rfl, by omega, by omega, hj, by omega, S2, HQ2⟩
      | false =>
        have HQ2 : Hid (bs (fun h => clt cf d[h]! d[a]!) gg i h = bs (fun h => clt cf d[h]! d[a]!) (b - m) m b) := by rw [← HQ.out, if_neg (by rw [hv]; simp)]; exact rfl
        have hv2 : ¬ cf x y < 0 := by rw [hx, hy]; exact of_decide_eq_false hv
        have hd : decide (cf x y < 0) = false := decide_eq_false hv2
        clear hx hy hv HQ
        go_quiet_grown (first | (go_at_fn g; refine Calls.grown_of (hc _ _)))
        have S2 : Aside (SW enc w0 blk off d (grow (wr.drewN nq) osq)) := S1.out.grown nq osq
        clear la lb hc S1
        generalize grow (wr.drewN nq) osq = w2 at S2 ⊢
        clear nq osq
        go_wp2
        go_roundg gg
        case measure => omega
        case rel => exact ⟨i, h, rfl, rfl, hi, by omega, by omega, by omega, S2, HQ2⟩
    · have hltz : ¬ (i : Int) < (j : Int) := by omega
      have HQ : Hid (bs (fun h => clt cf d[h]! d[a]!) (b - m) m b = i) := by
        rw [← HO.out]
        cases gk with
        | zero => exact rfl
        | succ gg => rw [bs, if_neg hlt]; exact rfl
      clear HO
      clear hkx
      obtain ⟨i1, e1⟩ : ∃ i1, i = i1 + 1 := ⟨i - 1, by omega⟩
      have hi1 : a ≤ i1 := by omega
      have hi2 : i1 < d.size := by omega
      have E1 : Hid (i = i1 + 1) := e1
      have ez : (i : Int) - 1 = (i1 : Int) := by omega
      have EZ : Hid ((i : Int) - 1 = (i1 : Int)) := ez
      clear e1 ez
      go_wp2
      go_loopg [13] (i1 - a) (fun kx s13 wr => ∃ (k : Nat) (dk : Array α), s13 = .int .i64 k ∧ a ≤ k ∧ k ≤ i1 ∧ i1 - k ≤ kx ∧ dk.size = d.size ∧ Aside (SW enc w0 blk off dk wr) ∧ Hid (shR (i1 - k) k dk = shR (i1 - a) a d))
      case atStart => exact ⟨a, d, rfl, by omega, by omega, by omega, rfl, S1, rfl⟩
      case round =>
        clear S1
        obtain ⟨k, dk, rfl, hk1, hk2, hkx, hds, S1, HO⟩ := hrel
        by_cases hlt2 : k < i1
        · have hltz2 : (k : Int) < (i : Int) - 1 := by have := EZ.out; omega
          go_wp2_with fail
          obtain ⟨jN, hjN⟩ : ∃ q, q = k + 1 := ⟨_, rfl⟩
          have pa : (0 : Int) ≤ (k : Int) := by omega
          have ba : (k : Int) < (d.size : Int) := by omega
          have ec : ((k : Int) + 1).toNat = jN := by omega
          have pc : (0 : Int) ≤ (k : Int) + 1 := by omega
          have bc : (k : Int) + 1 < (d.size : Int) := by omega
          have rc : IntKind.i64.wrap ((k : Int) + 1) = (k : Int) + 1 := by rw [IntKind.wrap_i64]; omega
          obtain ⟨x, hx⟩ : ∃ x, x = dk[k]! := ⟨_, rfl⟩
          obtain ⟨y, hy⟩ : ∃ x, x = dk[k + 1]! := ⟨_, rfl⟩
          have S2 : Aside (SW enc w0 blk off (swp dk k (k + 1)) ((wr.setCell ⟨blk, off + k, none⟩ (enc y)).setCell ⟨blk, off + jN, none⟩ (enc x)).drew) := by rw [hjN, hx, hy]; exact S1.out.swapped R k (k + 1) (by omega) (by omega)
          have ca := S1.out.c1 R (by omega) k (by omega)
          have cb := S1.out.c1 R (by omega) (k + 1) (by omega)
          have fa := S1.out.f1 R (by omega) k (by omega)
          have fb := S1.out.f1 R (by omega) (k + 1) (by omega)
          obtain ⟨u, cc⟩ := S1.out.c2 R (by omega) k (k + 1) (by omega) (by omega) (enc y)
          rw [← hjN] at cc
          rw [← hx] at ca
          rw [← hy, ← hjN] at cb
          rw [← hjN] at fb
          clear S1 hx hy hjN
          go_wp2_with fail
          go_big_region
          clear ca cb cc fa fb
          generalize ((wr.setCell ⟨blk, off + k, none⟩ (enc y)).setCell ⟨blk, off + jN, none⟩ (enc x)).drew = w2 at S2 ⊢
          clear ec
          go_wp2
          go_roundg (i1 - (k + 1))
          case measure => omega
          case rel => exact ⟨k + 1, swp dk k (k + 1), by go_num, by omega, by omega, Nat.le_refl _, by rw [size_swp]; exact hds, S2, (show Hid _ from by rw [← HO.out, show i1 - k = (i1 - (k + 1)) + 1 by omega, shR]; exact rfl)⟩
        · have hltz2 : ¬ (k : Int) < (i : Int) - 1 := by have := EZ.out; omega
          go_wp2
          refine bodyPost_ret (results_none rfl _ _ _) rfl ?_
          refine ⟨rfl, ?_⟩
          have e2 : bs (fun h => clt cf d[h]! d[a]!) (b - m) m b - 1 - a = i1 - a := by rw [HQ.out]; have := E1.out; omega
          rw [e2, ← HO.out, show i1 - k = 0 by omega, shR]
          exact S1.out
end Go.Proofs.StabW

/- slices.symMergeCmpFunc at []int, one element on the right: what it does to the row. -/
-- Sta4
namespace Go.Proofs.StabW
open Go.Shelf Go.RowKit Go.Lib Go.Sort Go.Proofs.Stab
variable {α : Type} [Inhabited α]

set_option maxHeartbeats 16000000 in
set_option maxRecDepth 1000000 in
/-- One element on the right. -/
theorem symR (enc : α → Value) (cf : α → α → Int) (g : Nat) (cb : Array Value) (blk off cap a m b : Nat) (d0 d : Array α) (w0 w : World)
    (eg : ∀ args w, (callFunc g args).run Try.prog w = .ok (.enter g args) w) (hcmp : CmpLays1 Try.prog g cb enc cf blk off d0.size w0) (R : Row1 enc w0 blk off d0) (hs : d0.size = d.size) (S : SW enc w0 blk off d w) (ham : a + 1 < m) (hmb : b = m + 1) (hb : b ≤ d.size) (hsz : d.size < 4611686018427387904) :
    Calls Try.prog 139 #[.slice (some ⟨blk, off, none⟩) d.size cap, .int .i64 a, .int .i64 m, .int .i64 b, .func (.func g) #[] cb] w fun e w' => e = .returned (.tuple #[]) ∧ SW enc w0 blk off (shL (m - bs (fun h => !clt cf d[m]! d[h]!) (m - a) a m) m d) w' := by
  have mixed := mixed
  have hcl0 := R.hO.cells
  simp only [Value.cells] at hcl0
  have hst := R.hO.store Try.prog
  have HC : Aside _ := hcmp
  have S0 : Aside (SW enc w0 blk off d w) := S
  clear S
  clear hcmp
  have H1 : Hid (b = m + 1) := hmb
  have hmb2 : m < b := by omega
  have hd1 : ((m : Int) - (a : Int) == 1) = false := by rw [beq_eq_false_iff_ne]; omega
  have hd2 : ((b : Int) - (m : Int) == 1) = true := by rw [beq_iff_eq]; omega
  clear hmb
  go_enter Try.func139, Try.ntmps139
  go_wp2
  go_loopg [14, 15, 16] (m - a) (fun kx s10 s11 s12 wr => ∃ (i j : Nat), s10 = .int .i64 i ∧ s11 = .int .i64 j ∧ a ≤ i ∧ i ≤ j ∧ j ≤ m ∧ j - i ≤ kx ∧ Aside (SW enc w0 blk off d wr) ∧ Hid (bs (fun h => !clt cf d[m]! d[h]!) kx i j = bs (fun h => !clt cf d[m]! d[h]!) (m - a) a m))
  case atStart => exact ⟨a, m, rfl, rfl, by omega, by omega, by omega, by omega, S0, rfl⟩
  case round =>
    clear S0
    obtain ⟨i, j, rfl, rfl, hi, hij, hj, hkx, S1, HO⟩ := hrel
    by_cases hlt : i < j
    · have hltz : (i : Int) < (j : Int) := by omega
      obtain ⟨gg, rfl⟩ : ∃ q, gk = q + 1 := ⟨gk - 1, by omega⟩
      obtain ⟨h, eh⟩ : ∃ h : Nat, h = (i + j) / 2 := ⟨_, rfl⟩
      have hh1 : i ≤ h := by omega
      have hh2 : h < j := by omega
      have HQ : Hid ((if (!clt cf d[m]! d[h]!) = true then bs (fun h => !clt cf d[m]! d[h]!) gg (h + 1) j else bs (fun h => !clt cf d[m]! d[h]!) gg i h) = bs (fun h => !clt cf d[m]! d[h]!) (m - a) a m) := by
        rw [← HO.out, bs, if_pos hlt, eh]; exact rfl
      clear HO
      have EH : Hid (h = (i + j) / 2) := eh
      clear eh
      go_wp2_with fail
      have ez : ((i : Int) + (j : Int)) / 2 = (h : Int) := by have := EH.out; omega
      rw [ez]
      clear ez
      have pa : (0 : Int) ≤ (h : Int) := by omega
      have ba : (h : Int) < (d.size : Int) := by omega
      have pc : (0 : Int) ≤ (m : Int) := by omega
      have bc : (m : Int) < (d.size : Int) := by omega
      obtain ⟨x, hx⟩ : ∃ x, x = d[m]! := ⟨_, rfl⟩
      obtain ⟨y, hy⟩ : ∃ x, x = d[h]! := ⟨_, rfl⟩
      have la := S1.out.cl R (by omega) m (by omega)
      have lb := S1.out.cl R (by omega) h (by omega)
      rw [← hx] at la
      rw [← hy] at lb
      have hc := S1.out.cmp HC.out (by omega) x y
      cases hv : clt cf d[m]! d[h]! with
      | false =>
        have HQ2 : Hid (bs (fun h => !clt cf d[m]! d[h]!) gg (h + 1) j = bs (fun h => !clt cf d[m]! d[h]!) (m - a) a m) := by rw [← HQ.out, if_pos (by rw [hv]; simp)]; exact rfl
        have hv2 : ¬ cf x y < 0 := by rw [hx, hy]; exact of_decide_eq_false hv
        have hd : decide (cf x y < 0) = false := decide_eq_false hv2
        clear hx hy hv HQ
        go_quiet_grown (first | (go_at_fn g; refine Calls.grown_of (hc _ _)))
        have S2 : Aside (SW enc w0 blk off d (grow (wr.drewN nq) osq)) := S1.out.grown nq osq
        clear la lb hc S1
        generalize grow (wr.drewN nq) osq = w2 at S2 ⊢
        clear nq osq
        go_wp2
        go_roundg gg
        case measure => omega
        case rel => exact ⟨h + 1, j, by go_num, rfl, by omega, by omega, hj, by omega, S2, HQ2⟩
      | true =>
        have HQ2 : Hid (bs (fun h => !clt cf d[m]! d[h]!) gg i h = bs (fun h => !clt cf d[m]! d[h]!) (m - a) a m) := by rw [← HQ.out, if_neg (by rw [hv]; simp)]; exact rfl
        have hv2 : cf x y < 0 := by rw [hx, hy]; exact of_decide_eq_true hv
        have hd : decide (cf x y < 0) = true := decide_eq_true hv2
        clear hx hy hv HQ
        go_quiet_grown (first | (go_at_fn g; refine Calls.grown_of (hc _ _)))
        have S2 : Aside (SW enc w0 blk off d (grow (wr.drewN nq) osq)) := S1.out.grown nq osq
        clear la lb hc S1
        generalize grow (wr.drewN nq) osq = w2 at S2 ⊢
        clear nq osq
        go_wp2
        go_roundg gg
        case measure => omega
        case rel => exact ⟨i, h, rfl, rfl, hi, by omega, by omega, by omega, S2, HQ2⟩
    · have hltz : ¬ (i : Int) < (j : Int) := by omega
      have HQ : Hid (bs (fun h => !clt cf d[m]! d[h]!) (m - a) a m = i) := by
        rw [← HO.out]
        cases gk with
        | zero => exact rfl
        | succ gg => rw [bs, if_neg hlt]; exact rfl
      clear HO
      clear hkx
      go_wp2
      go_loopg [17] (m - i) (fun kx s13 wr => ∃ (k : Nat) (dk : Array α), s13 = .int .i64 k ∧ i ≤ k ∧ k ≤ m ∧ k - i ≤ kx ∧ dk.size = d.size ∧ Aside (SW enc w0 blk off dk wr) ∧ Hid (shL (k - i) k dk = shL (m - i) m d))
      case atStart => exact ⟨m, d, rfl, by omega, by omega, by omega, rfl, S1, rfl⟩
      case round =>
        clear S1
        obtain ⟨k, dk, rfl, hk1, hk2, hkx, hds, S1, HO⟩ := hrel
        by_cases hlt2 : i < k
        · have hltz2 : (i : Int) < (k : Int) := by omega
          obtain ⟨k1, ek1⟩ : ∃ q, k = q + 1 := ⟨k - 1, by omega⟩
          have ek2 : (k : Int) - 1 = (k1 : Int) := by omega
          have EK := Lib.hid ek1
          have EK2 := Lib.hid ek2
          have hk3 : k1 < d.size := by omega
          clear ek1 ek2
          go_wp2_with fail
          have pa : (0 : Int) ≤ (k : Int) := by omega
          have ba : (k : Int) < (d.size : Int) := by omega
          have ec : ((k : Int) - 1).toNat = k1 := by have := EK2.out; omega
          have pc : (0 : Int) ≤ (k : Int) - 1 := by omega
          have bc : (k : Int) - 1 < (d.size : Int) := by omega
          have rc : IntKind.i64.wrap ((k : Int) - 1) = (k : Int) - 1 := by rw [IntKind.wrap_i64]; omega
          obtain ⟨x, hx⟩ : ∃ x, x = dk[k]! := ⟨_, rfl⟩
          obtain ⟨y, hy⟩ : ∃ x, x = dk[k1]! := ⟨_, rfl⟩
          have S2 : Aside (SW enc w0 blk off (swp dk k k1) ((wr.setCell ⟨blk, off + k, none⟩ (enc y)).setCell ⟨blk, off + k1, none⟩ (enc x)).drew) := by rw [hx, hy]; exact S1.out.swapped R k k1 (by omega) (by omega)
          have ca := S1.out.c1 R (by omega) k (by omega)
          have cb := S1.out.c1 R (by omega) k1 (by omega)
          have fa := S1.out.f1 R (by omega) k (by omega)
          have fb := S1.out.f1 R (by omega) k1 (by omega)
          obtain ⟨u, cc⟩ := S1.out.c2 R (by omega) k k1 (by omega) (by omega) (enc y)
          rw [← hx] at ca
          rw [← hy] at cb
          clear S1 hx hy
          go_wp2_with fail
          go_big_region
          clear ca cb cc fa fb
          generalize ((wr.setCell ⟨blk, off + k, none⟩ (enc y)).setCell ⟨blk, off + k1, none⟩ (enc x)).drew = w2 at S2 ⊢
          clear ec
          go_wp2
          go_roundg (k1 - i)
          case measure => have := EK.out; omega
          case rel => exact ⟨k1, swp dk k k1, by rw [← EK2.out], by have := EK.out; omega, by have := EK.out; omega, Nat.le_refl _, by rw [size_swp]; exact hds, S2, (show Hid _ from by rw [← HO.out, show k - i = (k1 - i) + 1 by have := EK.out; omega, shL, show k - 1 = k1 by have := EK.out; omega]; exact rfl)⟩
        · have hltz2 : ¬ (i : Int) < (k : Int) := by omega
          go_wp2
          refine bodyPost_ret (results_none rfl _ _ _) rfl ?_
          refine ⟨rfl, ?_⟩
          rw [HQ.out, ← HO.out, show k - i = 0 by omega, shL]
          exact S1.out
end Go.Proofs.StabW

/- slices.symMergeCmpFunc at []int: what it does to the row. -/
-- Sta5
namespace Go.Proofs.StabW
open Go.Shelf Go.RowKit Go.Lib Go.Sort Go.Proofs.Stab
variable {α : Type} [Inhabited α]

/-- What the calls inside ask of symMerge itself. -/
def SymAt (enc : α → Value) (cf : α → α → Int) (g : Nat) (cb : Array Value) (blk off cap : Nat) (d0 : Array α) (w0 : World) (k : Nat) : Prop :=
  ∀ (a m b : Nat) (d : Array α) (w : World), b - a ≤ k → a < m → m < b → b ≤ d0.size → d.size = d0.size → SW enc w0 blk off d w →
    Calls Try.prog 139 #[.slice (some ⟨blk, off, none⟩) d0.size cap, .int .i64 a, .int .i64 m, .int .i64 b, .func (.func g) #[] cb] w fun e w' => e = .returned (.tuple #[]) ∧ SW enc w0 blk off (symMerge cf k a m b d) w'

set_option maxHeartbeats 32000000 in
set_option maxRecDepth 1000000 in
theorem symMain (enc : α → Value) (cf : α → α → Int) (g : Nat) (cb : Array Value) (blk off cap a m b k : Nat) (d0 d : Array α) (w0 w : World)
    (eg : ∀ args w, (callFunc g args).run Try.prog w = .ok (.enter g args) w) (hcmp : CmpLays1 Try.prog g cb enc cf blk off d0.size w0) (R : Row1 enc w0 blk off d0) (hs : d.size = d0.size) (S : SW enc w0 blk off d w) (ham : a + 1 < m) (hmb : m + 1 < b) (hb : b ≤ d0.size) (hsz : d0.size < 4611686018427387904)
    (hk : b - a ≤ k + 1) (ih : SymAt enc cf g cb blk off cap d0 w0 k) :
    Calls Try.prog 139 #[.slice (some ⟨blk, off, none⟩) d0.size cap, .int .i64 a, .int .i64 m, .int .i64 b, .func (.func g) #[] cb] w fun e w' => e = .returned (.tuple #[]) ∧ SW enc w0 blk off (symMerge cf (k + 1) a m b d) w' := by
  have mixed := mixed
  have hcl0 := R.hO.cells
  simp only [Value.cells] at hcl0
  have hst := R.hO.store Try.prog
  have HC : Aside _ := hcmp
  have S0 : Aside (SW enc w0 blk off d w) := S
  clear S
  clear hcmp
  have hd1 : ((m : Int) - (a : Int) == 1) = false := by rw [beq_eq_false_iff_ne]; omega
  have hd2 : ((b : Int) - (m : Int) == 1) = false := by rw [beq_eq_false_iff_ne]; omega
  go_enter Try.func139, Try.ntmps139
  go_upto_if 140 with fail
  obtain ⟨mi, emi⟩ : ∃ mi : Nat, mi = mid a b := ⟨_, rfl⟩
  have hm1 : a < mi := by unfold mid at emi; omega
  have hm2 : mi < b := by unfold mid at emi; omega
  have ez : ((a : Int) + (b : Int)) / 2 = (mi : Int) := by unfold mid at emi; omega
  obtain ⟨s0, es0⟩ : ∃ s : Nat, s = st0 a m b := ⟨_, rfl⟩
  obtain ⟨r0, er0⟩ : ∃ s : Nat, s = en0 a m b := ⟨_, rfl⟩
  have g1 : a ≤ s0 ∧ s0 ≤ r0 ∧ r0 ≤ m ∧ r0 ≤ mi ∧ mi + m ≤ b + s0 := by subst es0 er0 emi; unfold st0 en0 mid; split <;> omega
  obtain ⟨g1, g2, g3, g4, g5⟩ := g1
  have g6 : (mi < m → s0 + b = mi + m ∧ r0 = mi) ∧ (¬ mi < m → s0 = a ∧ r0 = m) := by
    constructor
    · intro h; subst es0 er0; unfold st0 en0; rw [← emi, if_pos h, if_pos h]; unfold mid at emi; omega
    · intro h; subst es0 er0; unfold st0 en0; rw [← emi, if_neg h, if_neg h]; omega
  have G6 := Lib.hid g6
  have EMI := Lib.hid emi
  have ES0 := Lib.hid es0
  have ER0 := Lib.hid er0
  clear g6 emi es0 er0
  rw [ez]
  clear ez
  go_cut [20, 21] (fun s20 s21 wx => s20 = .int .i64 (s0 : Int) ∧ s21 = .int .i64 (r0 : Int) ∧ wx = w)
  case first =>
    by_cases hc : mi < m
    · have hcz : (mi : Int) < (m : Int) := by omega
      have e1 : (s0 : Int) = (mi : Int) + (m : Int) - (b : Int) := by have := G6.out.1 hc; omega
      have e2 : (r0 : Int) = (mi : Int) := by have := G6.out.1 hc; omega
      have E1 := Lib.hid e1
      have E2 := Lib.hid e2
      clear e1 e2
      go_wp2_with fail
      go_meet
      case rel => exact ⟨by rw [E1.out], by rw [E2.out], rfl⟩
    · have hcz : ¬ (mi : Int) < (m : Int) := by omega
      have e1 : (s0 : Int) = (a : Int) := by have := G6.out.2 hc; omega
      have e2 : (r0 : Int) = (m : Int) := by have := G6.out.2 hc; omega
      have E1 := Lib.hid e1
      have E2 := Lib.hid e2
      clear e1 e2
      go_wp2_with fail
      go_meet
      case rel => exact ⟨by rw [E1.out], by rw [E2.out], rfl⟩
  case rest =>
    obtain ⟨rfl, rfl, rfl⟩ := hcut
    obtain ⟨P, hP⟩ : ∃ P : Nat → Bool, P = fun c => !clt cf d[mid a b + m - 1 - c]! d[c]! := ⟨_, rfl⟩
    have HP := Lib.hid hP
    clear hP
    have g0 : b ≤ d0.size := hb
    have CUT : Hid (cut cf a m b d = bs P (r0 - s0) s0 r0) := by unfold cut; rw [← HP.out, ← ES0.out, ← ER0.out]; exact rfl
    obtain ⟨pp, hpp⟩ : ∃ q, q = mi + m - 1 := ⟨_, rfl⟩
    have epp : (mi : Int) + (m : Int) - 1 = (pp : Int) := by omega
    have hp1 : m ≤ pp := by omega
    have hp2 : pp < b + s0 := by omega
    have HPP := Lib.hid hpp
    clear hpp
    go_wp2_with fail
    (try rw [epp])
    clear epp
    go_loopg [20, 21, 23] (r0 - s0) (fun kx s20 s21 s23 wr => ∃ (i j : Nat), s20 = .int .i64 i ∧ s21 = .int .i64 j ∧ s0 ≤ i ∧ i ≤ j ∧ j ≤ r0 ∧ j - i ≤ kx ∧ Aside (SW enc w0 blk off d wr) ∧ Hid (bs P kx i j = bs P (r0 - s0) s0 r0))
    case atStart => exact ⟨s0, r0, rfl, rfl, by omega, by omega, by omega, by omega, S0, rfl⟩
    case round =>
      clear S0
      obtain ⟨i, j, rfl, rfl, hi, hij, hj, hkx, S1, HO⟩ := hrel
      by_cases hlt : i < j
      · have hltz : (i : Int) < (j : Int) := by omega
        obtain ⟨gg, rfl⟩ : ∃ q, gk = q + 1 := ⟨gk - 1, by omega⟩
        obtain ⟨h, eh⟩ : ∃ h : Nat, h = (i + j) / 2 := ⟨_, rfl⟩
        have hh1 : i ≤ h := by omega
        have hh2 : h < j := by omega
        have HQ : Hid ((if P h = true then bs P gg (h + 1) j else bs P gg i h) = bs P (r0 - s0) s0 r0) := by
          rw [← HO.out, bs, if_pos hlt, eh]; exact rfl
        clear HO
        have EH : Hid (h = (i + j) / 2) := eh
        clear eh
        go_wp2_with fail
        have ez : ((i : Int) + (j : Int)) / 2 = (h : Int) := by have := EH.out; omega
        rw [ez]
        clear ez
        obtain ⟨q, hq⟩ : ∃ q, q = pp - h := ⟨_, rfl⟩
        have pa : (0 : Int) ≤ (h : Int) := by omega
        have ba : (h : Int) < (d0.size : Int) := by omega
        have ec : ((pp : Int) - (h : Int)).toNat = q := by omega
        have pc : (0 : Int) ≤ (pp : Int) - (h : Int) := by omega
        have bc : (pp : Int) - (h : Int) < (d0.size : Int) := by omega
        have pd : (h : Int) ≤ (pp : Int) := by omega
        have rc : IntKind.i64.wrap ((pp : Int) - (h : Int)) = (pp : Int) - (h : Int) := by rw [IntKind.wrap_i64]; omega
        obtain ⟨x, hx⟩ : ∃ x, x = d[q]! := ⟨_, rfl⟩
        obtain ⟨y, hy⟩ : ∃ x, x = d[h]! := ⟨_, rfl⟩
        have la := S1.out.cl R (by omega) q (by omega)
        have lb := S1.out.cl R (by omega) h (by omega)
        rw [← hx] at la
        rw [← hy] at lb
        have hc := S1.out.cmp HC.out (by omega) x y
        have hPh : P h = !decide (cf x y < 0) := by rw [HP.out, hx, hy, hq, HPP.out, EMI.out]; rfl
        clear hq hx hy
        cases hv : decide (cf x y < 0) with
        | false =>
          have HQ2 : Hid (bs P gg (h + 1) j = bs P (r0 - s0) s0 r0) := by rw [← HQ.out, if_pos (by rw [hPh, hv]; rfl)]; exact rfl
          have hv2 : ¬ cf x y < 0 := of_decide_eq_false hv
          clear hPh HQ
          go_quiet_grown (first | (go_at_fn g; refine Calls.grown_of (hc _ _)))
          have S2 : Aside (SW enc w0 blk off d (grow (wr.drewN nq) osq)) := S1.out.grown nq osq
          clear la lb hc S1
          generalize grow (wr.drewN nq) osq = w2 at S2 ⊢
          clear nq osq ec
          go_wp2
          go_roundg gg
          case measure => omega
          case rel => exact ⟨h + 1, j, by go_num, rfl, by omega, by omega, hj, by omega, S2, HQ2⟩
        | true =>
          have HQ2 : Hid (bs P gg i h = bs P (r0 - s0) s0 r0) := by rw [← HQ.out, if_neg (by rw [hPh, hv]; simp)]; exact rfl
          have hv2 : cf x y < 0 := of_decide_eq_true hv
          clear hPh HQ
          go_quiet_grown (first | (go_at_fn g; refine Calls.grown_of (hc _ _)))
          have S2 : Aside (SW enc w0 blk off d (grow (wr.drewN nq) osq)) := S1.out.grown nq osq
          clear la lb hc S1
          generalize grow (wr.drewN nq) osq = w2 at S2 ⊢
          clear nq osq ec
          go_wp2
          go_roundg gg
          case measure => omega
          case rel => exact ⟨i, h, rfl, rfl, hi, by omega, by omega, by omega, S2, HQ2⟩
      · have hltz : ¬ (i : Int) < (j : Int) := by omega
        have HQ : Hid (bs P (r0 - s0) s0 r0 = i) := by
          rw [← HO.out]
          cases gk with
          | zero => exact rfl
          | succ gg => rw [bs, if_neg hlt]; exact rfl
        clear HO
        have CI : Hid (cut cf a m b d = i) := by rw [CUT.out, HQ.out]; exact rfl
        obtain ⟨e, ee⟩ : ∃ e : Nat, e = mi + m - i := ⟨_, rfl⟩
        have he1 : m ≤ e := by omega
        have he2 : e ≤ b := by omega
        have ez : (mi : Int) + (m : Int) - (i : Int) = (e : Int) := by omega
        have hem : m < e ↔ i < mi := by omega
        have hem2 : mi < e ↔ i < m := by omega
        have HEM := Lib.hid hem
        have HEM2 := Lib.hid hem2
        have EE := Lib.hid ee
        clear ee hem hem2
        have him : i ≤ m := by omega
        have himi : i ≤ mi := by omega
        have hai : a ≤ i := by omega
        clear hlt HQ CUT HP HPP hkx hij hi hj hp1 hp2 g1 g2 g3 g4 g5 G6 ES0 ER0
        -- what the rest comes to
        have FIN : Hid (symMerge cf (k + 1) a m b d = (if mi < e ∧ e < b then symMerge cf k mi e b (if a < i ∧ i < mi then symMerge cf k a i mi (rot m i e d) else rot m i e d) else (if a < i ∧ i < mi then symMerge cf k a i mi (rot m i e d) else rot m i e d))) := by
          rw [symMerge, if_neg (by omega), if_neg (by omega)]
          dsimp only
          rw [CI.out, ← EMI.out, ← EE.out]
          exact rfl
        clear CI
        have HR : ∀ W, SW enc w0 blk off d W → i < m → m < e → Calls Try.prog 155 #[.slice (some ⟨blk, off, none⟩) d0.size cap, .int .i64 i, .int .i64 m, .int .i64 e, .func (.func g) #[] cb] W fun x w' => x = .returned (.tuple #[]) ∧ SW enc w0 blk off (rot m i e d) w' := fun W hW h1 h2 => by
          rw [rot, if_pos ⟨h1, h2⟩, ← hs]
          exact rotate_s enc _ blk off cap i m e d0 d w0 W R hs.symm hW h1 h2 (by omega) (by omega)
        have HR2 := Lib.hid HR
        clear HR
        have RZ : (rot m i e d).size = d0.size := by rw [rot_size, hs]
        have RN : ¬ (i < m ∧ m < e) → rot m i e d = d := fun h => by rw [rot, if_neg h]
        generalize rot m i e d = d1 at *
        have HI1 : ∀ W, SW enc w0 blk off d1 W → a < i → i < mi → Calls Try.prog 139 #[.slice (some ⟨blk, off, none⟩) d0.size cap, .int .i64 a, .int .i64 i, .int .i64 mi, .func (.func g) #[] cb] W fun x w' => x = .returned (.tuple #[]) ∧ SW enc w0 blk off (symMerge cf k a i mi d1) w' := fun W hW h1 h2 =>
          ih a i mi d1 W (by omega) h1 h2 (by omega) RZ hW
        obtain ⟨d2, ed2⟩ : ∃ d2, d2 = (if a < i ∧ i < mi then symMerge cf k a i mi d1 else d1) := ⟨_, rfl⟩
        have DZ : d2.size = d0.size := by rw [ed2]; split <;> simp [symMerge_size, RZ]
        have HI2 : ∀ W, SW enc w0 blk off d2 W → mi < e → e < b → Calls Try.prog 139 #[.slice (some ⟨blk, off, none⟩) d0.size cap, .int .i64 mi, .int .i64 e, .int .i64 b, .func (.func g) #[] cb] W fun x w' => x = .returned (.tuple #[]) ∧ SW enc w0 blk off (symMerge cf k mi e b d2) w' := fun W hW h1 h2 =>
          ih mi e b d2 W (by omega) h1 h2 (by omega) DZ hW
        rw [← ed2] at FIN
        have ED2 := Lib.hid ed2
        have HJ1 := Lib.hid HI1
        have HJ2 := Lib.hid HI2
        have RN2 := Lib.hid RN
        have RZ2 := Lib.hid RZ
        have DZ2 := Lib.hid DZ
        clear ed2 HI1 HI2 RN RZ DZ
        go_upto_region 39 with fail
        (try rw [ez])
        clear ez
        by_cases c1 : i < m
        · skip
          by_cases c2 : i < mi
          · skip
            by_cases c3 : a < i
            · skip
              by_cases c4 : e < b
              · skip
                have z1 : ((i : Int) < (m : Int)) := by omega
                have z2 : ((m : Int) < (e : Int)) := by have := HEM.out; omega
                have z3 : ((a : Int) < (i : Int)) := by omega
                have z4 : ((i : Int) < (mi : Int)) := by omega
                have z5 : ((mi : Int) < (e : Int)) := by have := HEM2.out; omega
                have z6 : ((e : Int) < (b : Int)) := by omega
                go_wp2_with fail
                refine (HR2.out _ S1.out c1 (HEM.out.2 c2)).mono ?_
                rintro x wA ⟨rfl, SA⟩
                have S2 : Aside (SW enc w0 blk off d1 wA) := SA
                clear SA S1
                go_wp2_with fail
                refine (HJ1.out _ S2.out c3 c2).mono ?_
                rintro x wB ⟨rfl, SB⟩
                have S3 : Aside (SW enc w0 blk off d2 wB) := by rw [ED2.out, if_pos ⟨c3, c2⟩]; exact SB
                clear SB S2
                go_wp2_with fail
                refine (HJ2.out _ S3.out (HEM2.out.2 c1) c4).mono ?_
                rintro x wC ⟨rfl, SC⟩
                have S4 : Aside (SW enc w0 blk off (symMerge cf k mi e b d2) wC) := SC
                clear SC S3
                go_wp2
                go_end0
                refine ⟨rfl, ?_⟩
                rw [FIN.out, if_pos ⟨HEM2.out.2 c1, c4⟩]
                exact S4.out
              · skip
                have z1 : ((i : Int) < (m : Int)) := by omega
                have z2 : ((m : Int) < (e : Int)) := by have := HEM.out; omega
                have z3 : ((a : Int) < (i : Int)) := by omega
                have z4 : ((i : Int) < (mi : Int)) := by omega
                have z5 : ((mi : Int) < (e : Int)) := by have := HEM2.out; omega
                have z6 : ¬ ((e : Int) < (b : Int)) := by omega
                go_wp2_with fail
                refine (HR2.out _ S1.out c1 (HEM.out.2 c2)).mono ?_
                rintro x wA ⟨rfl, SA⟩
                have S2 : Aside (SW enc w0 blk off d1 wA) := SA
                clear SA S1
                go_wp2_with fail
                refine (HJ1.out _ S2.out c3 c2).mono ?_
                rintro x wB ⟨rfl, SB⟩
                have S3 : Aside (SW enc w0 blk off d2 wB) := by rw [ED2.out, if_pos ⟨c3, c2⟩]; exact SB
                clear SB S2
                go_wp2
                go_end0
                refine ⟨rfl, ?_⟩
                rw [FIN.out, if_neg (by rw [HEM2.out]; omega)]
                exact S3.out
            · skip
              by_cases c4 : e < b
              · skip
                have z1 : ((i : Int) < (m : Int)) := by omega
                have z2 : ((m : Int) < (e : Int)) := by have := HEM.out; omega
                have z3 : ¬ ((a : Int) < (i : Int)) := by omega
                have z4 : ((i : Int) < (mi : Int)) := by omega
                have z5 : ((mi : Int) < (e : Int)) := by have := HEM2.out; omega
                have z6 : ((e : Int) < (b : Int)) := by omega
                go_wp2_with fail
                refine (HR2.out _ S1.out c1 (HEM.out.2 c2)).mono ?_
                rintro x wA ⟨rfl, SA⟩
                have S2 : Aside (SW enc w0 blk off d1 wA) := SA
                clear SA S1
                have S3 : Aside (SW enc w0 blk off d2 wA) := by rw [ED2.out, if_neg (by omega)]; exact S2.out
                clear S2
                go_wp2_with fail
                refine (HJ2.out _ S3.out (HEM2.out.2 c1) c4).mono ?_
                rintro x wC ⟨rfl, SC⟩
                have S4 : Aside (SW enc w0 blk off (symMerge cf k mi e b d2) wC) := SC
                clear SC S3
                go_wp2
                go_end0
                refine ⟨rfl, ?_⟩
                rw [FIN.out, if_pos ⟨HEM2.out.2 c1, c4⟩]
                exact S4.out
              · skip
                have z1 : ((i : Int) < (m : Int)) := by omega
                have z2 : ((m : Int) < (e : Int)) := by have := HEM.out; omega
                have z3 : ¬ ((a : Int) < (i : Int)) := by omega
                have z4 : ((i : Int) < (mi : Int)) := by omega
                have z5 : ((mi : Int) < (e : Int)) := by have := HEM2.out; omega
                have z6 : ¬ ((e : Int) < (b : Int)) := by omega
                go_wp2_with fail
                refine (HR2.out _ S1.out c1 (HEM.out.2 c2)).mono ?_
                rintro x wA ⟨rfl, SA⟩
                have S2 : Aside (SW enc w0 blk off d1 wA) := SA
                clear SA S1
                have S3 : Aside (SW enc w0 blk off d2 wA) := by rw [ED2.out, if_neg (by omega)]; exact S2.out
                clear S2
                go_wp2
                go_end0
                refine ⟨rfl, ?_⟩
                rw [FIN.out, if_neg (by rw [HEM2.out]; omega)]
                exact S3.out
          · skip
            by_cases c3 : a < i
            · skip
              by_cases c4 : e < b
              · skip
                have z1 : ((i : Int) < (m : Int)) := by omega
                have z2 : ¬ ((m : Int) < (e : Int)) := by have := HEM.out; omega
                have z3 : ((a : Int) < (i : Int)) := by omega
                have z4 : ¬ ((i : Int) < (mi : Int)) := by omega
                have z5 : ((mi : Int) < (e : Int)) := by have := HEM2.out; omega
                have z6 : ((e : Int) < (b : Int)) := by omega
                have S2 : Aside (SW enc w0 blk off d1 wr) := by rw [RN2.out (by rw [HEM.out]; omega)]; exact S1.out
                clear S1
                have S3 : Aside (SW enc w0 blk off d2 wr) := by rw [ED2.out, if_neg (by omega)]; exact S2.out
                clear S2
                go_wp2_with fail
                refine (HJ2.out _ S3.out (HEM2.out.2 c1) c4).mono ?_
                rintro x wC ⟨rfl, SC⟩
                have S4 : Aside (SW enc w0 blk off (symMerge cf k mi e b d2) wC) := SC
                clear SC S3
                go_wp2
                go_end0
                refine ⟨rfl, ?_⟩
                rw [FIN.out, if_pos ⟨HEM2.out.2 c1, c4⟩]
                exact S4.out
              · skip
                exfalso; have := HEM.out; have := HEM2.out; omega
            · skip
              by_cases c4 : e < b
              · skip
                exfalso; omega
              · skip
                exfalso; omega
        · skip
          by_cases c2 : i < mi
          · skip
            by_cases c3 : a < i
            · skip
              by_cases c4 : e < b
              · skip
                have z1 : ¬ ((i : Int) < (m : Int)) := by omega
                have z2 : ((m : Int) < (e : Int)) := by have := HEM.out; omega
                have z3 : ((a : Int) < (i : Int)) := by omega
                have z4 : ((i : Int) < (mi : Int)) := by omega
                have z5 : ¬ ((mi : Int) < (e : Int)) := by have := HEM2.out; omega
                have z6 : ((e : Int) < (b : Int)) := by omega
                have S2 : Aside (SW enc w0 blk off d1 wr) := by rw [RN2.out (by rw [HEM.out]; omega)]; exact S1.out
                clear S1
                go_wp2_with fail
                refine (HJ1.out _ S2.out c3 c2).mono ?_
                rintro x wB ⟨rfl, SB⟩
                have S3 : Aside (SW enc w0 blk off d2 wB) := by rw [ED2.out, if_pos ⟨c3, c2⟩]; exact SB
                clear SB S2
                go_wp2
                go_end0
                refine ⟨rfl, ?_⟩
                rw [FIN.out, if_neg (by rw [HEM2.out]; omega)]
                exact S3.out
              · skip
                exfalso; have := HEM.out; have := HEM2.out; omega
            · skip
              by_cases c4 : e < b
              · skip
                exfalso; omega
              · skip
                exfalso; omega
          · skip
            by_cases c3 : a < i
            · skip
              by_cases c4 : e < b
              · skip
                have z1 : ¬ ((i : Int) < (m : Int)) := by omega
                have z2 : ¬ ((m : Int) < (e : Int)) := by have := HEM.out; omega
                have z3 : ((a : Int) < (i : Int)) := by omega
                have z4 : ¬ ((i : Int) < (mi : Int)) := by omega
                have z5 : ¬ ((mi : Int) < (e : Int)) := by have := HEM2.out; omega
                have z6 : ((e : Int) < (b : Int)) := by omega
                have S2 : Aside (SW enc w0 blk off d1 wr) := by rw [RN2.out (by rw [HEM.out]; omega)]; exact S1.out
                clear S1
                have S3 : Aside (SW enc w0 blk off d2 wr) := by rw [ED2.out, if_neg (by omega)]; exact S2.out
                clear S2
                go_wp2
                go_end0
                refine ⟨rfl, ?_⟩
                rw [FIN.out, if_neg (by rw [HEM2.out]; omega)]
                exact S3.out
              · skip
                exfalso; have := HEM.out; have := HEM2.out; omega
            · skip
              by_cases c4 : e < b
              · skip
                exfalso; omega
              · skip
                exfalso; omega
end Go.Proofs.StabW

/- slices.SortStableFunc at []int, fewer than 40 elements: what it does to the row. -/
-- Sta6
namespace Go.Proofs.StabW
open Go.Shelf Go.RowKit Go.Lib Go.Sort Go.Proofs.Stab
variable {α : Type} [Inhabited α]

theorem symMerge_s (enc : α → Value) (cf : α → α → Int) (g : Nat) (cb : Array Value) (blk off cap : Nat) (d0 : Array α) (w0 : World)
    (eg : ∀ args w, (callFunc g args).run Try.prog w = .ok (.enter g args) w) (hcmp : CmpLays1 Try.prog g cb enc cf blk off d0.size w0) (R : Row1 enc w0 blk off d0) (hsz : d0.size < 4611686018427387904) :
    ∀ k, SymAt enc cf g cb blk off cap d0 w0 k := by
  intro k
  induction k with
  | zero => intro a m b d w h1 h2 h3; omega
  | succ k ih =>
    intro a m b d w hk ham hmb hb hs S
    by_cases c1 : m - a = 1
    · have h := symL enc cf g cb blk off cap a m b d0 d w0 w eg hcmp R hs.symm S (by omega) hmb (by omega) (by omega)
      rw [hs] at h
      exact h.mono fun e w' ⟨h1, h2⟩ => ⟨h1, by rw [symMerge, if_pos c1]; exact h2⟩
    · by_cases c2 : b - m = 1
      · have h := symR enc cf g cb blk off cap a m b d0 d w0 w eg hcmp R hs.symm S (by omega) (by omega) (by omega) (by omega)
        rw [hs] at h
        exact h.mono fun e w' ⟨h1, h2⟩ => ⟨h1, by rw [symMerge, if_neg c1, if_pos c2]; exact h2⟩
      · exact symMain enc cf g cb blk off cap a m b k d0 d w0 w eg hcmp R hs S (by omega) (by omega) hb hsz hk ih

theorem insOuter_size (lt : α → α → Bool) (a b : Nat) : ∀ (n i : Nat) (d : Array α), b - i ≤ n → (insOuter lt a b i d).size = d.size := by
  intro n
  induction n with
  | zero => intro i d h; rw [insOuter, if_neg (by omega)]
  | succ n ih =>
    intro i d h
    rw [insOuter]
    split
    · rw [ih _ _ (by omega), insInner_size]
    · rfl
where
  insInner_size (lt : α → α → Bool) (a : Nat) : ∀ (j : Nat) (d : Array α), (insInner lt a j d).size = d.size
    | 0, d => by rw [insInner]
    | j + 1, d => by
      rw [insInner]
      split
      · rw [insInner_size lt a j, size_swp]
      · rfl
theorem insertion_size (lt : α → α → Bool) (d : Array α) (a b : Nat) : (insertionSort lt d a b).size = d.size := by
  unfold insertionSort
  exact insOuter_size lt a b _ _ _ (Nat.le_refl _)

theorem ins_s (enc : α → Value) (cf : α → α → Int) (g : Nat) (cb : Array Value) (blk off cap a b : Nat) (d0 d : Array α) (w0 w : World)
    (eg : ∀ args w, (callFunc g args).run Try.prog w = .ok (.enter g args) w) (hcmp : CmpLays1 Try.prog g cb enc cf blk off d0.size w0) (R : Row1 enc w0 blk off d0) (hs : d.size = d0.size) (S : SW enc w0 blk off d w) (hab : a ≤ b) (hb : b ≤ d0.size) (hsz : d0.size < 4611686018427387904) :
    Calls Try.prog 138 #[.slice (some ⟨blk, off, none⟩) d0.size cap, .int .i64 a, .int .i64 b, .func (.func g) #[] cb] w fun e w' => e = .returned (.tuple #[]) ∧ SW enc w0 blk off (Sort.insertionSort (clt cf) d a b) w' := by
  have h := insertion_s enc cf g cb blk off cap a b d0 d w0 w eg hcmp R hs.symm S hab (by omega) (by omega)
  rw [hs] at h
  exact h

set_option maxHeartbeats 4000000 in
set_option maxRecDepth 1000000 in
theorem stable_small (enc : α → Value) (cf : α → α → Int) (g : Nat) (cb : Array Value) (blk off cap : Nat) (d : Array α) (w : World)
    (eg : ∀ args w, (callFunc g args).run Try.prog w = .ok (.enter g args) w) (hcmp : CmpLays1 Try.prog g cb enc cf blk off d.size w) (R : Row1 enc w blk off d) (hn : d.size < 20) :
    Calls Try.prog 97 #[.slice (some ⟨blk, off, none⟩) d.size cap, .int .i64 (d.size : Nat), .func (.func g) #[] cb] w fun e w' => e = .returned (.tuple #[]) ∧ SW enc w blk off (stable40 cf d d.size) w' := by
  have H1 := ins_s enc cf g cb blk off cap 0 d.size d d w w eg hcmp R rfl (SW.start R.hH) (by omega) (by omega) (by omega)
  have F : Hid (stable40 cf d d.size = insertionSort (clt cf) d 0 d.size) := by unfold stable40; dsimp only; rw [if_neg (by omega), if_neg (by omega)]; exact rfl
  rw [F.out]
  have HH1 := Lib.hid H1
  clear H1 hcmp R
  go_enter Try.func97, Try.ntmps97
  go_wp2
  refine wp_loop_rounds 1 ?_
  rw [rounds_succ]
  go_wp2_with fail
  refine HH1.out.mono ?_
  rintro e w' ⟨rfl, S2⟩
  have S3 := Lib.hid S2
  clear S2
  go_wp2
  refine wp_loop_rounds 1 ?_
  rw [rounds_succ]
  go_wp2
  go_end0
  exact ⟨rfl, S3.out⟩

set_option maxHeartbeats 4000000 in
set_option maxRecDepth 1000000 in
theorem stable_mid (enc : α → Value) (cf : α → α → Int) (g : Nat) (cb : Array Value) (blk off cap : Nat) (d : Array α) (w : World)
    (eg : ∀ args w, (callFunc g args).run Try.prog w = .ok (.enter g args) w) (hcmp : CmpLays1 Try.prog g cb enc cf blk off d.size w) (R : Row1 enc w blk off d) (hn : 20 ≤ d.size) (hn2 : d.size < 40) :
    Calls Try.prog 97 #[.slice (some ⟨blk, off, none⟩) d.size cap, .int .i64 (d.size : Nat), .func (.func g) #[] cb] w fun e w' => e = .returned (.tuple #[]) ∧ SW enc w blk off (stable40 cf d d.size) w' := by
  obtain ⟨d1, hd1⟩ : ∃ x, x = insertionSort (clt cf) d 0 20 := ⟨_, rfl⟩
  have H1 : Calls Try.prog 138 #[.slice (some ⟨blk, off, none⟩) d.size cap, .int .i64 0, .int .i64 20, .func (.func g) #[] cb] w fun e w' => e = .returned (.tuple #[]) ∧ SW enc w blk off d1 w' := by
    rw [hd1]; exact ins_s enc cf g cb blk off cap 0 20 d d w w eg hcmp R rfl (SW.start R.hH) (by omega) (by omega) (by omega)
  have Z1 : d1.size = d.size := by
    rw [hd1]
    exact insertion_size _ _ _ _
  obtain ⟨d2, hd2⟩ : ∃ x, x = insertionSort (clt cf) d1 20 d.size := ⟨_, rfl⟩
  have H2 : ∀ W, SW enc w blk off d1 W → Calls Try.prog 138 #[.slice (some ⟨blk, off, none⟩) d.size cap, .int .i64 20, .int .i64 (d.size : Nat), .func (.func g) #[] cb] W fun e w' => e = .returned (.tuple #[]) ∧ SW enc w blk off d2 w' := fun W hW => by
    rw [hd2]; exact ins_s enc cf g cb blk off cap 20 d.size d d1 w W eg hcmp R Z1 hW (by omega) (by omega) (by omega)
  have Z2 : d2.size = d.size := by
    rw [hd2, insertion_size, Z1]
  have H3 : ∀ W, SW enc w blk off d2 W → 20 < d.size → Calls Try.prog 139 #[.slice (some ⟨blk, off, none⟩) d.size cap, .int .i64 0, .int .i64 20, .int .i64 (d.size : Nat), .func (.func g) #[] cb] W fun e w' => e = .returned (.tuple #[]) ∧ SW enc w blk off (symMerge cf d.size 0 20 d.size d2) w' := fun W hW h =>
    symMerge_s enc cf g cb blk off cap d w eg hcmp R (by omega) d.size 0 20 d.size d2 W (by omega) (by omega) h (by omega) Z2 hW
  have F : Hid (stable40 cf d d.size = if 20 < d.size then symMerge cf d.size 0 20 d.size d2 else d2) := by unfold stable40; dsimp only; rw [if_pos hn, ← hd1, ← hd2]; exact rfl
  rw [F.out]
  have HH1 := Lib.hid H1
  have HH2 := Lib.hid H2
  have HH3 := Lib.hid H3
  clear H1 H2 H3 hcmp R hd1 hd2 Z1 Z2
  have i1 : (20 : Int) ≤ (d.size : Int) := by omega
  have i2 : ¬ (40 : Int) ≤ (d.size : Int) := by omega
  have i3 : ¬ (40 : Int) < (d.size : Int) := by omega
  by_cases h : 20 < d.size
  · have i4 : (20 : Int) < (d.size : Int) := by omega
    rw [if_pos h]
    go_enter Try.func97, Try.ntmps97
    go_wp2
    refine wp_loop_rounds 2 ?_
    rw [rounds_succ]
    go_wp2_with fail
    refine HH1.out.mono ?_
    rintro e w1 ⟨rfl, S2⟩
    have S3 := Lib.hid S2
    clear S2
    go_wp2
    rw [rounds_succ]
    go_wp2_with fail
    refine (HH2.out _ S3.out).mono ?_
    rintro e w2 ⟨rfl, S2⟩
    have S4 := Lib.hid S2
    clear S2
    go_wp2
    refine wp_loop_rounds 2 ?_
    rw [rounds_succ]
    go_wp2
    refine wp_loop_rounds 1 ?_
    rw [rounds_succ]
    go_wp2_with fail
    refine (HH3.out _ S4.out h).mono ?_
    rintro e w3 ⟨rfl, S2⟩
    have S5 := Lib.hid S2
    clear S2
    go_wp2
    rw [rounds_succ]
    go_wp2
    go_end0
    exact ⟨rfl, S5.out⟩
  · have i4 : ¬ (20 : Int) < (d.size : Int) := by omega
    rw [if_neg h]
    go_enter Try.func97, Try.ntmps97
    go_wp2
    refine wp_loop_rounds 2 ?_
    rw [rounds_succ]
    go_wp2_with fail
    refine HH1.out.mono ?_
    rintro e w1 ⟨rfl, S2⟩
    have S3 := Lib.hid S2
    clear S2
    go_wp2
    rw [rounds_succ]
    go_wp2_with fail
    refine (HH2.out _ S3.out).mono ?_
    rintro e w2 ⟨rfl, S2⟩
    have S4 := Lib.hid S2
    clear S2
    go_wp2
    refine wp_loop_rounds 1 ?_
    rw [rounds_succ]
    go_wp2
    go_end0
    exact ⟨rfl, S4.out⟩

set_option maxHeartbeats 1000000 in
theorem sortStable_s (enc : α → Value) (cf : α → α → Int) (g : Nat) (cb : Array Value) (blk off cap : Nat) (d : Array α) (w : World)
    (eg : ∀ args w, (callFunc g args).run Try.prog w = .ok (.enter g args) w) (hcmp : CmpLays1 Try.prog g cb enc cf blk off d.size w) (R : Row1 enc w blk off d) (hn : d.size < 40) :
    Calls Try.prog 59 #[.slice (some ⟨blk, off, none⟩) d.size cap, .func (.func g) #[] cb] w fun e w' => e = .returned (.tuple #[]) ∧ SW enc w blk off (stable40 cf d d.size) w' := by
  have H : Calls Try.prog 97 #[.slice (some ⟨blk, off, none⟩) d.size cap, .int .i64 (d.size : Nat), .func (.func g) #[] cb] w fun e w' => e = .returned (.tuple #[]) ∧ SW enc w blk off (stable40 cf d d.size) w' := by
    by_cases h : d.size < 20
    · exact stable_small enc cf g cb blk off cap d w eg hcmp R h
    · exact stable_mid enc cf g cb blk off cap d w eg hcmp R (by omega) hn
  have HH := Lib.hid H
  clear H hcmp R
  go_enter Try.func59, Try.ntmps59
  go_wp2_with fail
  refine HH.out.mono ?_
  rintro e w1 ⟨rfl, S2⟩
  have S3 := Lib.hid S2
  clear S2
  go_wp2
  go_end0
  exact ⟨rfl, S3.out⟩
end Go.Proofs.StabW

/-
  DERIVED: THE SHELF's CONTRACTS AT THIS DUMP, IN PLAIN WORDS (tools/lay-plain.mjs out of 'TryCutShelf.lean', which tools/lay-shelf.mjs wrote): THE SAME DECLARATIONS UNDER THE SAME NAMES: 'import', 'namespace', 'open', 'def', 'theorem' AND NOTHING ELSE: no command of the shelf's: FOR A HAND-IN. Each laying: the table of numbers ('.._ren') and one theorem, a field a fact of the dump's own or the kernel's comparison; each contract: ONE APPLICATION.
-/
-- ShelfS
namespace Go.Proofs
open Go.Shelf
def Try.lays122_ren : Go.Shelf.Ren := ⟨fun | 122 => 61 | 215 => 98 | n => n, fun | 3 => 3 | 4 => 4 | n => n, fun | n => n⟩
theorem Try.lays122 : Go.Proofs.Lays.n122 Try.prog Try.lays122_ren := {
  mixed := by kernel_rfl
  f122 := Try.func61.trans (congrArg some (by kernel_rfl))
  f215 := Try.func98.trans (congrArg some (by kernel_rfl))
  t3 := Try.underlying3
  a3 := Try.isAgg3
  z3 := Try.sizeOf3
  v3 := Try.zeroValue3
  t4 := Try.underlying4
  a4 := Try.isAgg4
  z4 := Try.sizeOf4
  v4 := Try.zeroValue4 }
open Go.RowKit in
/-- cmp.Compare at int: "Compare returns -1 if x is less than y, 0 if x equals y, +1 if x is greater than y.": IT RETURNS 'Lib.compareInt x y'; the world is as it was. (LAID: no walk: one application.) -/
theorem Try.cmp_Compare_int (x y : Int) (w : World) :
    Calls Try.prog 61 #[.int .i64 x, .int .i64 y] w fun e w' => e = .returned (.int .i64 (Lib.compareInt x y)) ∧ w' = w := Any.cmp_Compare_int Try.lays122 x y w
def Try.lays189_ren : Go.Shelf.Ren := ⟨fun | 189 => 24 | 125 => 58 | 257 => 57 | 128 => 95 | 129 => 96 | 294 => 86 | 295 => 87 | 296 => 88 | 297 => 89 | 298 => 90 | 299 => 91 | 216 => 92 | 300 => 93 | 301 => 94 | 328 => 133 | 329 => 134 | 330 => 135 | 331 => 136 | 332 => 137 | 215 => 98 | 343 => 154 | n => n, fun | 28 => 26 | 3 => 3 | 46 => 100 | 0 => 0 | 51 => 102 | 53 => 58 | 4 => 4 | 183 => 127 | 182 => 126 | 131 => 110 | 5 => 5 | 9 => 9 | 218 => 158 | 222 => 162 | 228 => 175 | 229 => 114 | n => n, fun | n => n⟩
theorem Try.lays189 : Go.Proofs.Lays.n189 Try.prog Try.lays189_ren := {
  mixed := by kernel_rfl
  f125 := Try.func58.trans (congrArg some (by kernel_rfl))
  f128 := Try.func95.trans (congrArg some (by kernel_rfl))
  f129 := Try.func96.trans (congrArg some (by kernel_rfl))
  f189 := Try.func24.trans (congrArg some (by kernel_rfl))
  f215 := Try.func98.trans (congrArg some (by kernel_rfl))
  f216 := Try.func92.trans (congrArg some (by kernel_rfl))
  f257 := Try.func57.trans (congrArg some (by kernel_rfl))
  f294 := Try.func86.trans (congrArg some (by kernel_rfl))
  f295 := Try.func87.trans (congrArg some (by kernel_rfl))
  f296 := Try.func88.trans (congrArg some (by kernel_rfl))
  f297 := Try.func89.trans (congrArg some (by kernel_rfl))
  f298 := Try.func90.trans (congrArg some (by kernel_rfl))
  f299 := Try.func91.trans (congrArg some (by kernel_rfl))
  f300 := Try.func93.trans (congrArg some (by kernel_rfl))
  f301 := Try.func94.trans (congrArg some (by kernel_rfl))
  f328 := Try.func133.trans (congrArg some (by kernel_rfl))
  f329 := Try.func134.trans (congrArg some (by kernel_rfl))
  f330 := Try.func135.trans (congrArg some (by kernel_rfl))
  f331 := Try.func136.trans (congrArg some (by kernel_rfl))
  f332 := Try.func137.trans (congrArg some (by kernel_rfl))
  f343 := Try.func154.trans (congrArg some (by kernel_rfl))
  t0 := Try.underlying0
  a0 := Try.isAgg0
  z0 := Try.sizeOf0
  v0 := Try.zeroValue0
  t3 := Try.underlying3
  a3 := Try.isAgg3
  z3 := Try.sizeOf3
  v3 := Try.zeroValue3
  t4 := Try.underlying4
  a4 := Try.isAgg4
  z4 := Try.sizeOf4
  v4 := Try.zeroValue4
  t5 := Try.underlying5
  a5 := Try.isAgg5
  z5 := Try.sizeOf5
  v5 := Try.zeroValue5
  t9 := Try.underlying9
  a9 := Try.isAgg9
  z9 := Try.sizeOf9
  v9 := Try.zeroValue9
  t28 := Try.underlying26
  a28 := Try.isAgg26
  z28 := Try.sizeOf26
  v28 := Try.zeroValue26
  t46 := Try.underlying100
  a46 := Try.isAgg100
  z46 := Try.sizeOf100
  v46 := Try.zeroValue100
  t51 := Try.underlying102
  a51 := Try.isAgg102
  z51 := Try.sizeOf102
  v51 := Try.zeroValue102
  t53 := Try.underlying58
  a53 := Try.isAgg58
  z53 := Try.sizeOf58
  v53 := Try.zeroValue58
  t131 := Try.underlying110
  a131 := Try.isAgg110
  z131 := Try.sizeOf110
  v131 := Try.zeroValue110
  t182 := Try.underlying126
  a182 := Try.isAgg126
  z182 := Try.sizeOf126
  v182 := Try.zeroValue126
  t183 := Try.underlying127
  a183 := Try.isAgg127
  z183 := Try.sizeOf127
  v183 := Try.zeroValue127
  t218 := Try.underlying158
  a218 := Try.isAgg158
  z218 := Try.sizeOf158
  v218 := Try.zeroValue158
  t222 := Try.underlying162
  a222 := Try.isAgg162
  z222 := Try.sizeOf162
  v222 := Try.zeroValue162
  t228 := Try.underlying175
  a228 := Try.isAgg175
  z228 := Try.sizeOf175
  v228 := Try.zeroValue175
  t229 := Try.underlying114
  a229 := Try.isAgg114
  z229 := Try.sizeOf114
  v229 := Try.zeroValue114 }
open Go.Sort Go.RowKit in
theorem Try.slices_Sort_int (blk off cap : Nat) (zs : List Int) (w : World) (hH : Holds (Value.int .i64) w blk off zs.toArray) (hblk : blk < w.heap.size) (hsz : zs.length < 4611686018427387904) :
    Calls Try.prog 24 #[.slice (some ⟨blk, off, none⟩) zs.length cap] w fun e w' =>
      e = .returned (.tuple #[]) ∧ ∃ n os, w' = grow (putRow (Value.int .i64) (Sort.ahead w n) blk off (zs.mergeSort fun x y => decide (x ≤ y)).toArray) os := Any.slices_Sort_int Try.lays189 blk off cap zs w hH hblk hsz
def Try.laysNm220_ren : Go.Shelf.Ren := ⟨fun | 20 => 25 | n => n, fun | 22 => 26 | 3 => 3 | 4 => 4 | 0 => 0 | n => n, fun | n => n⟩
theorem Try.laysNm220 : Go.Proofs.Lays2.n20 Try.prog Try.laysNm220_ren := {
  mixed := by kernel_rfl
  f20 := Try.func25.trans (congrArg some (by kernel_rfl))
  t0 := Try.underlying0
  a0 := Try.isAgg0
  z0 := Try.sizeOf0
  v0 := Try.zeroValue0
  t3 := Try.underlying3
  a3 := Try.isAgg3
  z3 := Try.sizeOf3
  v3 := Try.zeroValue3
  t4 := Try.underlying4
  a4 := Try.isAgg4
  z4 := Try.sizeOf4
  v4 := Try.zeroValue4
  t22 := Try.underlying26
  a22 := Try.isAgg26
  z22 := Try.sizeOf26
  v22 := Try.zeroValue26
  i3 := by kernel_rfl }
open Go.RowKit Go.Lib Go.Sort in
/-- slices.Compact at []int: "Compact replaces consecutive runs of equal elements with a single copy. This is like the uniq command found on Unix. Compact modifies the contents of the slice s and returns the modified slice, which may have a smaller length. Compact zeroes the elements between the new length and the original length. The result preserves the nilness of s.": IT RETURNS THE SLICE CUT TO 'Lib.compact zs'; ITS CELLS HOLD 'Lib.compact zs', THEN ZERO VALUES up to the old length; all else is as it was, but for the count of draws. IN THE WORDS OF slices.Sort's CONTRACT ('Holds', 'putRow'): so the everyday 'slices.Sort(xs); xs = slices.Compact(xs)' goes from the one contract to the other. It asks 'zs.length ≤ cap' (every slice's: the reslicing 's[:k]' looks at it). Length 0, nil: '.._empty'. (LAID: no walk: one application.) -/
theorem Try.slices_Compact_int (blk off cap : Nat) (zs : List Int) (w : World) (hH : Holds (Value.int .i64) w blk off zs.toArray) (hsz : zs.length ≤ 9223372036854775807) (hcap : zs.length ≤ cap) :
    Calls Try.prog 25 #[.slice (some ⟨blk, off, none⟩) zs.length cap] w fun e w' => e = .returned (.slice (some ⟨blk, off, none⟩) (Lib.compact zs).length cap) ∧ ∃ q, w' = putRow (Value.int .i64) (Sort.ahead w q) blk off (Lib.compact zs ++ List.replicate (zs.length - (Lib.compact zs).length) 0).toArray := Any.slices_Compact_int Try.laysNm220 blk off cap zs w hH hsz hcap
open Go.RowKit Go.Lib Go.Sort in
/-- The same at a slice of length 0, a nil one too: it comes back as it is. (LAID: no walk: one application.) -/
theorem Try.slices_Compact_int_empty (a : Option Addr) (cap : Nat) (w : World) :
    Calls Try.prog 25 #[.slice a 0 cap] w fun e w' => e = .returned (.slice a 0 cap) ∧ w' = w := Any.slices_Compact_int_empty Try.laysNm220 a cap w
open Go.RowKit Go.Sort in
/-- .. and plain. (LAID: no walk: one application.) -/
theorem Try.slices_Sort_int_none (p : Option Addr) (cap : Nat) (w : World) :
    Calls Try.prog 24 #[.slice p 0 cap] w fun e w' => e = .returned (.tuple #[]) ∧ w' = w := Any.slices_Sort_int_none Try.lays189 p cap w
end Go.Proofs
