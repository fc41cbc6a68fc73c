/- slices.SortStableFunc at []int by a key, fewer than 40 elements, as a call of the calculus. -/
import Derived.Test.YtngbibpmaofamaaMe
import Derived.Test.YtngbibpmaofamaaMd
set_option linter.all false
set_option linter.unusedSimpArgs false
set_option linter.unusedVariables false
-- ExeC
namespace Go.Proofs.Ytngbibpmaofamaa.Ab
open Go Num Go.Sort

theorem extract_all {β : Type} (A : Array β) {n : Nat} (h : A.size = n) : A.extract 0 n = A := by subst h; simp

/-- By a key, the greater first; equals in the order in which they stood. -/
theorem stable_key {n : Nat} [Inhabited (Fin n)] (hn : n < 40) (key : Fin n → Int) (cf : Fin n → Fin n → Int) (h1 : ∀ i j, cf i j < 0 ↔ key j < key i) (h0 : ∀ i j, cf i j = 0 ↔ key i = key j) :
    (Stab.stable40 cf (List.finRange n).toArray n).toList.Perm (List.finRange n) ∧ (Stab.stable40 cf (List.finRange n).toArray n).toList.Pairwise fun i j => key j < key i ∨ (key i = key j ∧ i.1 < j.1) := by
  have bang : ∀ i (hi : i < n), (List.finRange n).toArray[i]! = ⟨i, hi⟩ := by
    intro i hi
    rw [getElem!_pos _ i (by simpa using hi)]
    simp
  have hS : SWO (Stab.stl (fun i : Fin n => (i.1 : Int)) cf) := Stab.swo_desc _ key cf h1 h0
  obtain ⟨Pm, Q⟩ := Stab.stable40_spec (fun i : Fin n => (i.1 : Int)) cf hS (List.finRange n).toArray n hn (by simp) (fun p q hpq hq => by
    rw [bang p (by omega), bang q hq]
    show (p : Int) < (q : Int)
    omega)
  obtain ⟨D, hD⟩ : ∃ D, D = Stab.stable40 cf (List.finRange n).toArray n := ⟨_, rfl⟩
  rw [← hD] at Pm Q ⊢
  have hsz : D.size = n := by rw [Pm.1]; simp
  have hperm : D.toList.Perm (List.finRange n) := by
    have h := Pm.2.2
    have e1 : D.extract 0 n = D := extract_all D hsz
    have e2 : (List.finRange n).toArray.extract 0 n = (List.finRange n).toArray := extract_all _ (by simp)
    rw [e1, e2] at h
    simpa using h
  refine ⟨hperm, ?_⟩
  have hnd : D.toList.Nodup := hperm.nodup_iff.2 (List.nodup_finRange n)
  rw [List.pairwise_iff_getElem]
  intro i j hi hj hij
  have hi' : i < D.size := by simpa using hi
  have hj' : j < D.size := by simpa using hj
  have hq := Q i j (by omega) hij (by omega)
  rw [getElem!_pos D i hi', getElem!_pos D j hj'] at hq
  have hne : D.toList[i] ≠ D.toList[j] := List.pairwise_iff_getElem.1 hnd i j hi hj hij
  simp only [Array.getElem_toList] at hne ⊢
  unfold Stab.stl at hq
  simp only [Bool.or_eq_false_iff, Bool.and_eq_false_iff, decide_eq_false_iff_not, h1, h0] at hq
  have hne' : (D[i]).1 ≠ (D[j]).1 := fun e => hne (Fin.ext e)
  rcases hq with ⟨a, b⟩
  rcases b with b | b
  · left; omega
  · rcases Int.lt_or_le (key D[j]) (key D[i]) with c | c
    · left; exact c
    · right; omega

/-- The places of a row, sorted by a key. -/
theorem Stable_run {g : FuncId} (hg : callable Try.prog g = true) {σ : H} {K : V → H → Prop} {b n : Nat} {ex : Bool} {zs : List Int} {caps caps' : List V} (hb : σ.get b = some (.rows 3 (zs.map irow))) (hn : n = zs.length) (h0 : zs ≠ []) (h40 : zs.length < 40) (hasc : zs.Pairwise (· < ·)) (key : Int → Int)
    (hlen : caps'.length = caps.length) (hice : ∀ (i : Nat) c c', caps[i]? = some c → caps'[i]? = some c' → Iced σ b c c')
    (hcmp : ∀ x ∈ zs, ∀ y ∈ zs, PRun Try.prog g ([.int .i64 x, .int .i64 y] ++ caps') (fun r => r = .int .i64 (cmpI64 (key y) (key x))))
    (k : ∀ D : List Int, D.Perm zs → (D.Pairwise fun x y => key y < key x ∨ (key x = key y ∧ x < y)) → K (.tup []) (σ.set b (.rows 3 (D.map irow)))) : Run Try.prog 59 [.sl 1 b 0 n ex, .fn g caps] σ K := by
  have h0' : 0 < zs.length := List.length_pos_iff.2 h0
  have hl : (zs.map irow).length = zs.length := by simp
  have cneg : ∀ a b : Int, cmpI64 a b < 0 ↔ a < b := by intro a b; unfold cmpI64; split <;> (try split) <;> omega
  have czero : ∀ a b : Int, cmpI64 a b = 0 ↔ b = a := by intro a b; unfold cmpI64; split <;> (try split) <;> omega
  let z : Fin (zs.map irow).length → Int := fun i => zs[i.1]'(by have := i.2; omega)
  refine Run.sortsBy hb (by omega) (by omega) c3 (fun i => .int .i64 (z i)) (fun i => ⟨by simp [z, irow], .int _ _⟩) (fun i j => cmpI64 (key (z j)) (key (z i))) hlen hice (fun i j => hcmp _ (List.getElem_mem _) _ (List.getElem_mem _))
    (fun D => D.Pairwise fun i j => key (z j) < key (z i) ∨ (key (z i) = key (z j) ∧ i.1 < j.1)) ?_ ?_
  · intro inst enc cb blk off cap w hC hR
    have hs : (List.finRange (zs.map irow).length).toArray.size = (zs.map irow).length := by simp
    have h := StabW.sortStable_s enc (fun i j => cmpI64 (key (z j)) (key (z i))) g cb blk off cap (List.finRange (zs.map irow).length).toArray w (fun args w => run_callFunc hg args w) (by rw [hs]; exact hC) hR (by rw [hs, hl]; exact h40)
    rw [hs] at h
    refine h.mono ?_
    rintro e w' ⟨he, hw⟩
    obtain ⟨p1, p2⟩ := stable_key (n := (zs.map irow).length) (by omega) (fun i => key (z i)) (fun i j => cmpI64 (key (z j)) (key (z i))) (fun i j => cneg _ _) (fun i j => czero _ _)
    exact ⟨he, _, p1, p2, by simpa using hw⟩
  · intro D hD hord
    have e : (D.map fun i => (zs.map irow)[i]) = (D.map z).map irow := by
      rw [List.map_map]
      apply List.map_congr_left
      intro i _
      simp [z, Function.comp]
    rw [e]
    have hz : (List.finRange (zs.map irow).length).map z = zs := by
      apply List.ext_getElem
      · simp
      · intro i h1 h2
        simp [z]
    refine k (D.map z) ?_ ?_
    · have := hD.map z
      rwa [hz] at this
    · rw [List.pairwise_map]
      refine hord.imp ?_
      rintro i j (h | ⟨h, h2⟩)
      · exact .inl h
      · exact .inr ⟨h, List.pairwise_iff_getElem.1 hasc i.1 j.1 (by have := i.2; omega) (by have := j.2; omega) h2⟩

set_option maxRecDepth 100000 in
theorem closure_pure (L : List (Int × Int)) (h : GoodL L) (c S : Int) (hc0 : 0 ≤ c) (hc1 : c ≤ 33554432) (hS0 : 0 < S) (hS1 : S ≤ 33554432) (x y : Nat) (hx : x < L.length) (hy : y < L.length) :
    PRun Try.prog 60 [.int .i64 x, .int .i64 y, .iptr [.int .i64 c] 0, .iptr [loadsV L] 0, .iptr [.int .i64 S] 0] (fun r => r = .int .i64 (cmpI64 (keyOf L c S y) (keyOf L c S x))) := by
  unfold PRun
  refine run_fn Try.func60 rfl (by simp) ?_
  obtain ⟨p, hp⟩ : ∃ p, L[x]? = some p := ⟨_, List.getElem?_eq_getElem hx⟩
  obtain ⟨q, hq⟩ : ∃ q, L[y]? = some q := ⟨_, List.getElem?_eq_getElem hy⟩
  have hgp := h.amt p (List.mem_of_getElem? hp)
  have hgq := h.amt q (List.mem_of_getElem? hq)
  have bnd : ∀ a : Int, 0 ≤ a → a ≤ 1048576 → 0 ≤ c * a ∧ c * a ≤ 35184372088832 := by
    intro a h0 h1
    refine ⟨Int.mul_nonneg hc0 h0, ?_⟩
    have := Int.mul_le_mul hc1 h1 h0 (by decide)
    omega
  have b1' := bnd p.1 hgp.1 hgp.2
  have b2' := bnd q.1 hgq.1 hgq.2
  have e1 : keyOf L c S x = (c * p.1) % S := by unfold keyOf; rw [hp]; rfl
  have e2 : keyOf L c S y = (c * q.1) % S := by unfold keyOf; rw [hq]; rfl
  have m1 := Int.emod_nonneg (c * p.1) (show S ≠ 0 by omega)
  have m2 := Int.emod_nonneg (c * q.1) (show S ≠ 0 by omega)
  have m3 := Int.emod_lt_of_pos (c * p.1) hS0
  have m4 := Int.emod_lt_of_pos (c * q.1) hS0
  have w1 : IntKind.i64.wrap (c * p.1) = c * p.1 := i64_id (by omega) (by omega)
  have w2 : IntKind.i64.wrap (c * q.1) = c * q.1 := i64_id (by omega) (by omega)
  have t1 : (c * p.1).tmod S = (c * p.1) % S := Int.tmod_eq_emod_of_nonneg b1'.1
  have t2 : (c * q.1).tmod S = (c * q.1) % S := Int.tmod_eq_emod_of_nonneg b2'.1
  have w3 : IntKind.i64.wrap ((c * p.1) % S) = (c * p.1) % S := i64_id (by omega) (by omega)
  have w4 : IntKind.i64.wrap ((c * q.1) % S) = (c * q.1) % S := i64_id (by omega) (by omega)
  have hS : ¬ S = 0 := by omega
  simp
  refine adraw' [] mixed (by kernel_rfl) (by kernel_rfl) ?_
  simp [loadsV, hp, hq, lrow, w1, w2, t1, t2, w3, w4, hS]
  refine ⟨_, cmp_run _ _, ⟨.int _ _, .int _ _⟩, .int _ _, ?_⟩
  rw [e1, e2]

end Go.Proofs.Ytngbibpmaofamaa.Ab

/- slices.Sort and slices.Compact at []int, as calls of the calculus. -/
-- ExeB
namespace Go.Proofs.Ytngbibpmaofamaa.Ab
open Go Num

theorem cellsOf_int : Try.prog.cellsOf 3 = 1 := c3

def sortI (zs : List Int) : List Int := zs.mergeSort fun x y => decide (x ≤ y)

theorem Sort_run {σ : H} {K : V → H → Prop} {b : Nat} {ex : Bool} {zs : List Int} (hb : σ.get b = some (.rows 3 (zs.map irow))) (h0 : zs ≠ []) (hl : zs.length < 4611686018427387904) (k : K (.tup []) (σ.set b (.rows 3 ((sortI zs).map irow)))) :
    Run Try.prog 24 [.sl 1 b 0 zs.length ex] σ K :=
  Run.sorts (kd := .i64) (zs' := sortI zs) hb rfl h0 cellsOf_int (by simp [sortI]) (fun blk off cap w hH hblk => Try.slices_Sort_int blk off cap zs w hH hblk hl) k

theorem Compact_run {σ : H} {K : V → H → Prop} {b : Nat} {ex : Bool} {zs : List Int} (hb : σ.get b = some (.rows 3 (zs.map irow))) (h0 : zs ≠ []) (hl : zs.length ≤ 9223372036854775807) (hc : (Lib.compact zs).length ≤ zs.length)
    (k : K (.sl 1 b 0 (Lib.compact zs).length false) (σ.set b (.rows 3 ((Lib.compact zs ++ List.replicate (zs.length - (Lib.compact zs).length) 0).map irow)))) :
    Run Try.prog 25 [.sl 1 b 0 zs.length ex] σ K :=
  Run.compacts (kd := .i64) (zs' := Lib.compact zs) (rest := List.replicate (zs.length - (Lib.compact zs).length) 0) hb rfl h0 cellsOf_int (by simp; omega) (fun blk off cap w hH hcap => Try.slices_Compact_int blk off cap zs w hH hl hcap) k

end Go.Proofs.Ytngbibpmaofamaa.Ab

/- executive.share. -/
-- ExeD
namespace Go.Proofs.Ytngbibpmaofamaa.Ab
open Go Num

structure ShEnv (L : List (Int × Int)) (m need : Int) (b : Nat) (ex : Bool) (out : List Int) (s : Int) (σ0 : H) (t : Env) (σ : H) : Prop where
  h1 : t 1 = .int .i64 m
  h2 : t 2 = .int .i64 need
  h3 : t 3 = .sl 1 b 0 L.length ex
  h4 : t 4 = .ptr σ0.nx 0 0
  h10 : t 10 = .ptr (σ0.nx + 1) 0 0
  g : σ.get b = some (.rows 3 (out.map irow))
  g4 : σ.get σ0.nx = some (.rows 22 [[loadsV L]])
  g10 : σ.get (σ0.nx + 1) = some (.rows 3 [[.int .i64 s]])
  keep : ∀ x, x < σ0.nx → x ≠ b → σ.get x = σ0.get x
  le : σ0.nx + 2 ≤ σ.nx

theorem ShEnv.step {L : List (Int × Int)} {m need : Int} {b : Nat} {ex : Bool} {out : List Int} {s s' : Int} {σ0 σ σ' : H} {t t' : Env} (hb : b < σ0.nx) (E : ShEnv L m need b ex out s σ0 t σ) (hs : Same (σ0.nx + 2) (fun x => x = σ0.nx + 1) σ σ')
    (hg : σ'.get (σ0.nx + 1) = some (.rows 3 [[.int .i64 s']])) (t1 : t' 1 = t 1) (t2 : t' 2 = t 2) (t3 : t' 3 = t 3) (t4 : t' 4 = t 4) (t10 : t' 10 = t 10) : ShEnv L m need b ex out s' σ0 t' σ' :=
  ⟨t1.trans E.h1, t2.trans E.h2, t3.trans E.h3, t4.trans E.h4, t10.trans E.h10, hs.of_get E.g (by omega) (by omega), hs.of_get E.g4 (by omega) (by omega), hg, fun x h1 h2 => (hs.get x (by omega) (by omega)).trans (E.keep x h1 h2), hs.le⟩

def L1 (L : List (Int × Int)) (m need : Int) (b : Nat) (ex : Bool) (out : List Int) (σ0 : H) (n : Nat) (t : Env) (σ : H) : Prop :=
  ∃ i, n = L.length - i ∧ i ≤ L.length ∧ ShEnv L m need b ex out (isum ((ns L m 1).take i)) σ0 t σ ∧ t 19 = loadsV L ∧ t 20 = .int .i64 L.length ∧ t 21 = .int .i64 i ∧ RowAt Try.prog σ (σ0.nx + 2) 3 (t 9) ((grp L m i).map irow)

/-- The heap but for one block. -/
structure But (b : Nat) (σ σ' : H) : Prop where
  nx : σ'.nx = σ.nx
  get : ∀ x, x ≠ b → σ'.get x = σ.get x
theorem But.refl {b : Nat} {σ : H} : But b σ σ := ⟨rfl, fun _ _ => rfl⟩
theorem But.set {b : Nat} {σ σ' : H} (h : But b σ σ') (X : Blk) : But b σ (σ'.set b X) := ⟨h.nx, fun x hx => by rw [H.get_set_ne hx]; exact h.get x hx⟩

def flo (L : List (Int × Int)) (m c x : Int) : Int := c * am L x / gS L m
def setF (L : List (Int × Int)) (m c : Int) (o : List Int) (x : Int) : List Int := o.set x.toNat (flo L m c x)

structure ShEnv2 (L : List (Int × Int)) (m c : Int) (b bg b13 : Nat) (ex : Bool) (o : List Int) (G : List Int) (σ0 : H) (t : Env) (σ : H) : Prop where
  h3 : t 3 = .sl 1 b 0 L.length ex
  h4 : t 4 = .ptr σ0.nx 0 0
  h9 : t 9 = .sl 1 bg 0 G.length false
  h10 : t 10 = .ptr (σ0.nx + 1) 0 0
  h13 : t 13 = .ptr b13 0 0
  g : σ.get b = some (.rows 3 (o.map irow))
  g4 : σ.get σ0.nx = some (.rows 22 [[loadsV L]])
  gg : σ.get bg = some (.rows 3 (G.map irow))
  g10 : σ.get (σ0.nx + 1) = some (.rows 3 [[.int .i64 (gS L m)]])
  g13 : σ.get b13 = some (.rows 3 [[.int .i64 c]])
  keep : ∀ x, x < σ0.nx → x ≠ b → σ.get x = σ0.get x
  le : σ0.nx + 2 ≤ σ.nx
  bgl : σ0.nx + 2 ≤ bg
  b13l : σ0.nx + 2 ≤ b13
  ne : bg ≠ b13

theorem ShEnv2.step {L : List (Int × Int)} {m c : Int} {b bg b13 : Nat} {ex : Bool} {o o' : List Int} {G : List Int} {σ0 σ σ' : H} {t t' : Env} (hb : b < σ0.nx) (E : ShEnv2 L m c b bg b13 ex o G σ0 t σ) (hs : But b σ σ')
    (hg : σ'.get b = some (.rows 3 (o'.map irow))) (t3 : t' 3 = t 3) (t4 : t' 4 = t 4) (t9 : t' 9 = t 9) (t10 : t' 10 = t 10) (t13 : t' 13 = t 13) : ShEnv2 L m c b bg b13 ex o' G σ0 t' σ' :=
  ⟨t3.trans E.h3, t4.trans E.h4, t9.trans E.h9, t10.trans E.h10, t13.trans E.h13, hg, (hs.get _ (by omega)).trans E.g4, (hs.get _ (by have := E.bgl; omega)).trans E.gg, (hs.get _ (by omega)).trans E.g10, (hs.get _ (by have := E.b13l; omega)).trans E.g13,
    fun x h1 h2 => (hs.get x h2).trans (E.keep x h1 h2), by rw [hs.nx]; exact E.le, E.bgl, E.b13l, E.ne⟩

def L2 (L : List (Int × Int)) (m c : Int) (b bg b13 : Nat) (ex : Bool) (out : List Int) (G : List Int) (σ0 : H) (n : Nat) (t : Env) (σ : H) : Prop :=
  ∃ i, n = G.length - i ∧ i ≤ G.length ∧ ShEnv2 L m c b bg b13 ex ((G.take i).foldl (setF L m c) out) G σ0 t σ ∧ t 50 = .sl 1 bg 0 G.length false ∧ t 51 = .int .i64 G.length ∧ t 52 = .int .i64 i ∧ t 14 = .int .i64 (c - isum ((G.map (flo L m c)).take i))

def L3 (L : List (Int × Int)) (m c : Int) (b bg b13 : Nat) (ex : Bool) (o : List Int) (D : List Int) (e : Nat) (σ0 : H) (n : Nat) (t : Env) (σ : H) : Prop :=
  ∃ i, n = e - i ∧ i ≤ e ∧ ShEnv2 L m c b bg b13 ex ((D.take i).foldl inc o) D σ0 t σ ∧ t 80 = .sl 1 bg 0 e false ∧ t 81 = .int .i64 e ∧ t 82 = .int .i64 i

theorem shareOut_fold (L : List (Int × Int)) (m c : Int) (D out : List Int) : shareOut L m c D out = (D.take (leftOf L m c).toNat).foldl inc ((grp L m L.length).foldl (setF L m c) out) := rfl

set_option maxRecDepth 100000 in
theorem share_run (L : List (Int × Int)) (h : GoodL L) (m need : Int) (hn0 : 0 ≤ need) (hn1 : need ≤ 33554432) (b : Nat) (ex : Bool) (out : List Int) (hl : out.length = L.length) (hz : ∀ (i : Nat) p, L[i]? = some p → p.2 = m → out[i]? = some 0) (σ : H) (hb : σ.get b = some (.rows 3 (out.map irow)))
    (K : V → H → Prop) (k : ∀ out' σ', RoundPost L m (min need (gS L m)) out out' → σ'.get b = some (.rows 3 (out'.map irow)) → (∀ x, x < σ.nx → x ≠ b → σ'.get x = σ.get x) → σ.nx ≤ σ'.nx → K (.int .i64 (min need (gS L m))) σ') :
    Run Try.prog 26 [loadsV L, .int .i64 m, .int .i64 need, .sl 1 b 0 L.length ex] σ K := by
  refine run_fn Try.func26 rfl (by simp) ?_
  have hbn := H.get_lt hb
  have hne : b ≠ σ.nx ∧ b ≠ σ.nx + 1 := by omega
  have hS := gS_range (m := m) h
  have hlen := h.len
  simp [loadsV]
  refine ac_loop (L1 L m need b ex out σ) L.length ⟨0, by omega, by omega, ⟨by simp, by simp, by simp, by simp, by simp, by simp [hb, hne], by simp [loadsV], by simp [isum], fun x hx hxb => by simp [show x ≠ σ.nx by omega, show x ≠ σ.nx + 1 by omega], by simp⟩, by simp [loadsV], by simp, by simp, .inl ⟨rfl, by simp⟩⟩ ?_
  rintro n t σ1 ⟨i, rfl, hi, E, h19, h20, h21, h9⟩
  have hle := E.le
  by_cases hlt : i < L.length
  · obtain ⟨p, hp⟩ : ∃ p, L[i]? = some p := ⟨_, List.getElem?_eq_getElem hlt⟩
    have hgp := h.amt p (List.mem_of_getElem? hp)
    have dl := decide_eq_true hlt
    have hw : IntKind.i64.wrap ((i : Int) + 1) = (i : Int) + 1 := i64_id (by omega) (by omega)
    have ens : (ns L m 1)[i]? = some (if p.2 = m then 1 * p.1 else 0) := by simp [ns, hp]
    have esum := isum_take ens
    have hr := isum_range (a := 0) (b := 1048576) ((ns L m 1).take i) (fun x hx => by
      obtain ⟨q, hq, rfl⟩ := List.mem_map.1 (List.mem_of_mem_take hx)
      have := h.amt q hq
      split <;> omega)
    have hrl : ((ns L m 1).take i).length ≤ 32 := by simp [ns]; omega
    have ea : am L (i : Int) = p.1 := by unfold am; simp [hp]
    have eme : me L (i : Int) = p.2 := by unfold me; simp [hp]
    have h19' := h19
    simp only [loadsV] at h19'
    have hs1 : Same (σ.nx + 2) (fun x => x = σ.nx + 1) σ1 ((σ1.alloc (Blk.rows 25 [[V.int IntKind.i64 0, V.int IntKind.i64 0]])).set σ1.nx (Blk.rows 25 [[V.int IntKind.i64 p.1, V.int IntKind.i64 p.2]])) := ((Same.refl hle).alloc _).set (.inl hle) _
    have hr1 := h9.set_new (Blk.rows 25 [[V.int IntKind.i64 0, V.int IntKind.i64 0]]) (Blk.rows 25 [[V.int IntKind.i64 p.1, V.int IntKind.i64 p.2]])
    have hnx10 : ¬ σ.nx + 1 = σ1.nx := by omega
    by_cases hg : inG L m i
    · obtain ⟨hg1, hg2⟩ := hg
      rw [eme] at hg1
      rw [ea] at hg2
      simp [h19', h20, h21, dl, hp, lrow, E.h1, hg1, hg2]
      subst hg1
      refine bindO_append (xs := (grp L p.2 i).map irow) (hr1.alloc _) (by simp) (by simp) (by have := grp_len L p.2 i; simp [fitsMem]; omega) (by simp; omega) ?_
      intro v' σ2 hrow hsame hoth
      have hb12 : σ2.get σ1.nx = some (Blk.rows 25 [[V.int IntKind.i64 p.1, V.int IntKind.i64 p.2]]) := hoth _ _ (by simp) (h9.ne (.inl (get_nx σ1)) _)
      have hs10 : σ2.get (σ.nx + 1) = some (.rows 3 [[.int .i64 (isum ((ns L p.2 1).take i))]]) := Same.none hsame (by simp [hnx10, show ¬ σ.nx = σ1.nx by omega, E.g10]) (by omega)
      have hu10 := σ2.wf _ _ hs10
      have e0 : isum ((ns L p.2 1).take (i + 1)) = isum ((ns L p.2 1).take i) + p.1 := by rw [esum, if_pos rfl]; omega
      have hws : IntKind.i64.wrap (isum ((ns L p.2 1).take i) + p.1) = isum ((ns L p.2 1).take i) + p.1 := i64_id (by omega) (by omega)
      have eg : grp L p.2 (i + 1) = grp L p.2 i ++ [(i : Int)] := by rw [grp, if_pos (by unfold inG; rw [ea, eme]; exact ⟨rfl, hg2⟩)]
      simp [hb12, hs10, E.h10, h21, hws, hw]
      refine ⟨L.length - (i + 1), by omega, i + 1, rfl, by omega, ?_, by simp [h19], by simp [h20], by simp, ?_⟩
      · rw [e0]
        refine E.step hbn (((hs1.alloc _).trans (hsame _)).set (.inr rfl) _) (by simp [hu10]) (by simp) (by simp) (by simp) (by simp) (by simp [E.h10])
      · rw [eg, List.map_append]
        simpa [irow] using hrow.set (.inl (by omega)) _
    · have hg' : ¬ (p.2 = m ∧ 0 < p.1) := by rw [← ea, ← eme]; exact hg
      have e0 : isum ((ns L m 1).take (i + 1)) = isum ((ns L m 1).take i) := by
        rw [esum]; split <;> omega
      have eg : grp L m (i + 1) = grp L m i := by rw [grp, if_neg hg, List.append_nil]
      by_cases hm : p.2 = m
      · have hp0 : ¬ 0 < p.1 := fun x => hg' ⟨hm, x⟩
        simp [h19', h20, h21, dl, hp, lrow, E.h1, hm, hp0, hw]
        refine ⟨L.length - (i + 1), by omega, i + 1, rfl, by omega, ?_, by simp [h19], by simp [h20], by simp, ?_⟩
        · rw [e0]
          refine E.step hbn (by simpa [hm] using hs1) (by simp [hnx10, E.g10]) (by simp) (by simp) (by simp) (by simp) (by simp)
        · rw [eg]; simpa [hm] using hr1
      · simp [h19', h20, h21, dl, hp, lrow, E.h1, hm, hw]
        refine ⟨L.length - (i + 1), by omega, i + 1, rfl, by omega, ?_, by simp [h19], by simp [h20], by simp, ?_⟩
        · rw [e0]
          refine E.step hbn hs1 (by simp [hnx10, E.g10]) (by simp) (by simp) (by simp) (by simp) (by simp)
        · rw [eg]; simpa using hr1
  · have hiL : i = L.length := by omega
    subst hiL
    have hgt : (ns L m 1).take L.length = ns L m 1 := List.take_of_length_le (by simp [ns])
    rw [hgt] at E
    change ShEnv L m need b ex out (gS L m) σ t σ1 at E
    have dl := decide_eq_false hlt
    obtain ⟨c, hc⟩ : ∃ c, min need (gS L m) = c := ⟨_, rfl⟩
    rw [hc] at k
    have hcm : (if gS L m < need then gS L m else need) = c := by rw [← hc, Int.min_def]; split <;> split <;> omega
    have hc0 : 0 ≤ c := by rw [← hc, Int.min_def]; split <;> omega
    have hcS : c ≤ gS L m := by rw [← hc, Int.min_def]; split <;> omega
    have hgb := E.g
    have hub := σ1.wf _ _ hgb
    have hb1 : ¬ b = σ1.nx := by omega
    by_cases hcz : c = 0
    · subst hcz
      simp [h20, h21, dl, E.h10, E.g10, E.h2, afold, amin2, hcm]
      refine k out _ ⟨hl, fun j q hq => ?_⟩ (by simp [hb1, E.g]) (fun x hx hxb => by simp [show ¬ x = σ1.nx by omega]; exact E.keep x hx hxb) (by simp; omega)
      split
      · rename_i e
        rw [hz j q hq e, apo_zero h (List.getElem?_eq_some_iff.1 hq).1]
      · rfl
    · have hSp : 0 < gS L m := by omega
      have hGne : grp L m L.length ≠ [] := by
        intro e
        have := grp_sum_all h m 1 id rfl
        rw [e, List.map_id] at this
        have e2 : isum (ns L m 1) = gS L m := rfl
        rw [e2] at this
        simp [isum] at this
        omega
      obtain ⟨G, hG⟩ : ∃ G, G = grp L m L.length := ⟨_, rfl⟩
      rw [← hG] at hGne h9
      obtain ⟨bg, hbg, h9v, hbgg⟩ : ∃ bg, σ.nx + 2 ≤ bg ∧ t 9 = .sl 1 bg 0 G.length false ∧ σ1.get bg = some (.rows 3 (G.map irow)) := by
        rcases h9 with ⟨e, _⟩ | ⟨_, bg, h1, h2, h3⟩
        · exact absurd (by simpa using e) hGne
        · exact ⟨bg, h1, by simpa using h2, h3⟩
      have hbgn := H.get_lt hbgg
      have hGl : G.length ≤ 32 := by have := grp_len L m L.length; rw [hG]; omega
      have hGm : ∀ x ∈ G, ∃ xn : Nat, x = (xn : Int) ∧ xn < L.length := fun x hx => by
        rw [hG] at hx
        have := mem_grp.1 hx
        exact ⟨x.toNat, by omega, by omega⟩
      have hfb : ∀ x ∈ G, 0 ≤ flo L m c x ∧ flo L m c x ≤ 35184372088832 ∧ 0 ≤ c * am L x ∧ c * am L x ≤ 35184372088832 := by
        intro x hx
        obtain ⟨xn, rfl, hxn⟩ := hGm x hx
        have ha := h.amt L[xn] (List.getElem_mem _)
        have ea : am L (xn : Int) = L[xn].1 := by unfold am; simp [hxn]
        have h1 : 0 ≤ c * am L xn := by rw [ea]; exact Int.mul_nonneg hc0 ha.1
        have h2 : c * am L xn ≤ 35184372088832 := by
          rw [ea]
          have := Int.mul_le_mul (show c ≤ 33554432 by omega) ha.2 ha.1 (by decide)
          omega
        unfold flo
        exact ⟨Int.ediv_nonneg h1 (by omega), Int.le_trans (Int.ediv_le_self _ h1) h2, h1, h2⟩
      simp [h20, h21, dl, E.h10, E.g10, E.h2, afold, amin2, hcm, hcz, h9v]
      refine ac_loop (L2 L m c b bg σ1.nx ex out G σ) G.length ⟨0, by omega, by omega, ⟨by simp [E.h3], by simp [E.h4], by simp [h9v], by simp [E.h10], by simp, by simp [hb1, E.g], by simp [show ¬ σ.nx = σ1.nx by omega, E.g4], by simp [show ¬ bg = σ1.nx by omega, hbgg], by simp [show ¬ σ.nx + 1 = σ1.nx by omega, E.g10], by simp, fun x hx hxb => by simp [show ¬ x = σ1.nx by omega]; exact E.keep x hx hxb, by simp; omega, hbg, hle, by omega⟩, by simp, by simp, by simp, by simp [isum]⟩ ?_
      rintro n t2 σ2 ⟨i, rfl, hi2, E2, h50, h51, h52, h14⟩
      have hol : ((G.take i).foldl (setF L m c) out).length = L.length := by
        have := (fold_set (flo L m c) (G.take i) out (fun x hx => by
          obtain ⟨xn, rfl, hxn⟩ := hGm x (List.mem_of_mem_take hx)
          omega)).1
        rw [← hl]; exact this
      by_cases hlt2 : i < G.length
      · obtain ⟨x, hx⟩ : ∃ x, G[i]? = some x := ⟨_, List.getElem?_eq_getElem hlt2⟩
        have hxG := List.mem_of_getElem? hx
        have hfx := hfb x hxG
        obtain ⟨xn, rfl, hxn⟩ := hGm x hxG
        obtain ⟨p, hp⟩ : ∃ p, L[xn]? = some p := ⟨_, List.getElem?_eq_getElem hxn⟩
        have ea : am L (xn : Int) = p.1 := by unfold am; simp [hp]
        have dl2 := decide_eq_true hlt2
        have dl3 := decide_eq_true hxn
        have hw : IntKind.i64.wrap ((i : Int) + 1) = (i : Int) + 1 := i64_id (by omega) (by omega)
        have hw1 : IntKind.i64.wrap (c * p.1) = c * p.1 := i64_id (by rw [← ea]; omega) (by rw [← ea]; omega)
        have hw2 : (c * p.1).tdiv (gS L m) = flo L m c xn := by unfold flo; rw [ea]; exact Int.tdiv_eq_ediv_of_nonneg (by rw [← ea]; omega)
        have hw3 : IntKind.i64.wrap (flo L m c xn) = flo L m c xn := i64_id (by omega) (by omega)
        have hS0 : ¬ gS L m = 0 := by omega
        have hg := E2.g
        have hu2 := σ2.wf _ _ hg
        have hxo : xn < ((G.take i).foldl (setF L m c) out).length := by omega
        have hso : (G.take (i + 1)).foldl (setF L m c) out = ((G.take i).foldl (setF L m c) out).set xn (flo L m c xn) := by
          rw [List.take_add_one, hx, List.foldl_append]; simp [setF]
        have hsm : isum ((G.map (flo L m c)).take (i + 1)) = isum ((G.map (flo L m c)).take i) + flo L m c xn := isum_take (by rw [List.getElem?_map, hx]; rfl)
        generalize hog : (G.take i).foldl (setF L m c) out = o at *
        obtain ⟨ov, hgo⟩ : ∃ v, o[xn]? = some v := ⟨_, List.getElem?_eq_getElem hxo⟩
        have hsr := isum_range (a := 0) (b := 35184372088832) ((G.map (flo L m c)).take i) (fun y hy => by
          obtain ⟨z, hz1, rfl⟩ := List.mem_map.1 (List.mem_of_mem_take hy)
          have := hfb z hz1
          omega)
        have hsl : ((G.map (flo L m c)).take i).length ≤ 32 := by simp; omega
        simp [h50, h51, h52, dl2, if_pos hlt2, E2.gg, hx, irow]
        refine adrawP 11 [] mixed (by kernel_rfl) (by kernel_rfl) ?_
        simp [E2.h3, E2.h4, E2.h10, E2.h13, E2.g4, E2.g10, E2.g13, loadsV, hp, lrow, hw1, hw2, hw3, hS0, if_pos hxn, hg, hu2, hgo, irow]
        have hos : (o.set xn (flo L m c xn))[xn]? = some (flo L m c xn) := List.getElem?_set_self hxo
        have hmap : (o.map irow).set xn [.int .i64 (flo L m c xn)] = (o.set xn (flo L m c xn)).map irow := by rw [List.map_set]; rfl
        have hrd : ((o.map irow).set xn [.int .i64 (flo L m c xn)])[xn]? = some [.int .i64 (flo L m c xn)] := List.getElem?_set_self (by simpa using hxo)
        have hws : IntKind.i64.wrap (c - isum ((G.map (flo L m c)).take i) - flo L m c xn) = c - isum ((G.map (flo L m c)).take i) - flo L m c xn := i64_id (by omega) (by omega)
        simp [hrd, h14, h52, hws, hw]
        refine ⟨G.length - (i + 1), by omega, i + 1, rfl, by omega, ?_, by simp [h50], by simp [h51], by simp, ?_⟩
        · rw [hso]
          exact E2.step hbn (But.refl.set _) (by simp [hu2, hmap]) (by simp [E2.h3]) (by simp) (by simp) (by simp) (by simp)
        · rw [hsm]
          simp
          omega
      · have hiG : i = G.length := by omega
        subst hiG
        rw [List.take_length] at E2 hol
        rw [List.take_of_length_le (by simp)] at h14
        have dl2 := decide_eq_false hlt2
        obtain ⟨hleft, hgl⟩ := left_spec h hc0 hcS hSp
        have hlo : c - isum (G.map (flo L m c)) = leftOf L m c := by rw [hG]; rfl
        rw [hlo] at h14
        obtain ⟨e, he⟩ : ∃ e : Nat, leftOf L m c = (e : Int) := ⟨_, hleft⟩
        have heG : e ≤ G.length := by rw [hG]; omega
        rw [he] at h14
        have hnd : G.Nodup := by rw [hG]; exact nodup_of_asc (grp_asc L m L.length)
        simp [h51, h52, dl2, E2.h9, E2.h4, E2.h10, E2.h13]
        have hub2 := σ2.wf _ _ E2.gg
        refine Stable_run (zs := G) (by kernel_rfl) E2.gg rfl hGne (by omega) (by rw [hG]; exact grp_asc L m L.length) (fun x => keyOf L c (gS L m) x.toNat) (caps' := [.iptr [.int .i64 c] 0, .iptr [loadsV L] 0, .iptr [.int .i64 (gS L m)] 0]) rfl ?_ ?_ ?_
        · intro j cj cj' h1 h2
          match j with
          | 0 => simp at h1 h2; subst h1; subst h2; exact .ptr (fun x => E2.ne x.symm) E2.g13 rfl (by simp; exact .int _ _)
          | 1 => simp at h1 h2; subst h1; subst h2; exact .ptr (by omega) E2.g4 rfl (by simp; exact loadsV_pure L)
          | 2 => simp at h1 h2; subst h1; subst h2; exact .ptr (by omega) E2.g10 rfl (by simp; exact .int _ _)
          | j + 3 => simp at h1
        · intro x hx y hy
          obtain ⟨xn, rfl, hxn⟩ := hGm x hx
          obtain ⟨yn, rfl, hyn⟩ := hGm y hy
          exact closure_pure L h c (gS L m) hc0 (by omega) hSp (by omega) xn yn hxn hyn
        · intro D hDp hDo
          have hDl : D.length = G.length := hDp.length_eq
          have hD : Ordered L m c D := ⟨by rw [← hG]; exact hDp, hDo⟩
          have hDG : ∀ x ∈ D, x ∈ G := fun x hx => hDp.mem_iff.1 hx
          have hDn : D.Nodup := hDp.nodup_iff.2 hnd
          have e1 : (e : Int) ≤ (G.length : Int) := by omega
          simp [h14, E2.h9, e1, heG]
          obtain ⟨o, hog⟩ : ∃ o, o = G.foldl (setF L m c) out := ⟨_, rfl⟩
          rw [← hog] at hol E2
          have hbbg : ¬ b = bg := by have := E2.bgl; omega
          have hnx : ¬ σ.nx = bg ∧ ¬ σ.nx + 1 = bg := by have := E2.bgl; omega
          have hro : ∀ x ∈ G, rdI o x = flo L m c x := by
            intro x hx
            obtain ⟨xn, rfl, hxn⟩ := hGm x hx
            rw [hog]
            have := (fold_set (flo L m c) G out (fun y hy => by
              obtain ⟨yn, rfl, hyn⟩ := hGm y hy
              omega)).2 xn (by omega)
            exact this.trans (if_pos hx)
          refine ac_loop (L3 L m c b bg σ1.nx ex o D e σ) e ⟨0, by omega, by omega, ⟨by simp [E2.h3], by simp [E2.h4], by simp [E2.h9, hDl], by simp [E2.h10], by simp [E2.h13], by simp [hbbg, E2.g], by simp [hnx, E2.g4], by simp [hub2], by simp [hnx, E2.g10], by simp [show ¬ σ1.nx = bg from fun x => E2.ne x.symm, E2.g13], fun x hx hxb => by simp [show ¬ x = bg by have := E2.bgl; omega]; exact E2.keep x hx hxb, by simpa using E2.le, E2.bgl, E2.b13l, E2.ne⟩, by simp, by simp, by simp⟩ ?_
          rintro n t3 σ3 ⟨i, rfl, hi3, E3, h80, h81, h82⟩
          have hT : ∀ x ∈ D.take i, 0 ≤ x ∧ x < o.length := fun x hx => by
            obtain ⟨xn, rfl, hxn⟩ := hGm x (hDG x (List.mem_of_mem_take hx))
            omega
          obtain ⟨fi1, fi2⟩ := fold_inc (D.take i) o (hDn.sublist (List.take_sublist _ _)) hT
          by_cases hlt3 : i < e
          · obtain ⟨x, hx⟩ : ∃ x, D[i]? = some x := ⟨_, List.getElem?_eq_getElem (by omega)⟩
            have hxG := hDG x (List.mem_of_getElem? hx)
            have hfx := hfb x hxG
            have hrx := hro x hxG
            obtain ⟨xn, rfl, hxn⟩ := hGm x hxG
            have dl3 := decide_eq_true hlt3
            have hw : IntKind.i64.wrap ((i : Int) + 1) = (i : Int) + 1 := i64_id (by omega) (by omega)
            have hg := E3.g
            have hu3 := σ3.wf _ _ hg
            have hso : (D.take (i + 1)).foldl inc o = inc ((D.take i).foldl inc o) xn := by
              rw [List.take_add_one, hx, List.foldl_append]; rfl
            have hq := fi2 xn (by omega)
            generalize hqg : (D.take i).foldl inc o = q at *
            have hxq : xn < q.length := by omega
            obtain ⟨v, hv⟩ : ∃ v, q[xn]? = some v := ⟨_, List.getElem?_eq_getElem hxq⟩
            have hrv : rdI q xn = v := by unfold rdI; simp [hv]
            have hvb : 0 ≤ v ∧ v ≤ 35184372088833 := by
              rw [← hrv, hq, hrx]
              split <;> omega
            have hw2 : IntKind.i64.wrap (v + 1) = v + 1 := i64_id (by omega) (by omega)
            have hmap : (q.map irow).set xn [.int .i64 (v + 1)] = (inc q xn).map irow := by
              unfold inc
              rw [hrv, List.map_set]
              simp [irow]
            simp [h80, h81, h82, dl3, if_pos hlt3, E3.gg, hx, irow, E3.h3, hg, hv, if_pos hxn, hw2, hu3, hw]
            refine ⟨e - (i + 1), by omega, i + 1, rfl, by omega, ?_, by simp [h80], by simp [h81], by simp⟩
            rw [hso]
            exact E3.step hbn (But.refl.set _) (by simp [hu3, hmap]) (by simp [E3.h3]) (by simp) (by simp) (by simp) (by simp)
          · have hie : i = e := by omega
            subst hie
            have dl3 := decide_eq_false hlt3
            simp [h81, h82, dl3, E3.h13, E3.g13]
            have hcp : 0 < c := by omega
            have hres := (shareOut_apo h hcp hcS hD hl hz).1
            rw [shareOut_fold, he, ← hG, ← hog] at hres
            simp only [Int.toNat_natCast] at hres
            exact k _ _ hres E3.g E3.keep (by have := E3.le; omega)

end Go.Proofs.Ytngbibpmaofamaa.Ab

/- executive.Curtail. -/
-- ExeE
namespace Go.Proofs.Ytngbibpmaofamaa.Ab
open Go Num

/-- What the program answers. -/
inductive ProgCur (L : List (Int × Int)) (need : Int) : List Int × Int → Prop
  | limit (h : 32 < L.length) : ProgCur L need ([], 8)
  | amount (h : L.length ≤ 32) (hb : ¬ ∀ p ∈ L, goodAmt p) : ProgCur L need ([], 3)
  | range (h : GoodL L) (hb : ¬ (0 ≤ need ∧ need ≤ totalL L)) : ProgCur L need ([], 3)
  | ok (h : GoodL L) (h0 : 0 ≤ need) (h1 : need ≤ totalL L) {o : List Int} (ho : Final L need o) : ProgCur L need (o, 0)

theorem cur_same {L : List (Int × Int)} {need : Int} {r r' : List Int × Int} (h : ProgCur L need r) (h' : RefCur L need r') : r = r' := by
  cases h with
  | limit h =>
    cases h' with
    | limit => rfl
    | amount h2 => omega
    | range h2 => have := h2.len; omega
    | ok h2 => have := h2.len; omega
  | amount h hb =>
    cases h' with
    | limit h2 => omega
    | amount => rfl
    | range h2 => rfl
    | ok h2 => exact absurd h2.amt hb
  | range h hb =>
    cases h' with
    | limit h2 => have := h.len; omega
    | amount => rfl
    | range h2 => rfl
    | ok h2 h3 h4 => exact absurd ⟨h3, h4⟩ hb
  | ok h h0 h1 ho =>
    cases h' with
    | limit h2 => have := h.len; omega
    | amount h2 hb => exact absurd h.amt hb
    | range h2 hb => exact absurd ⟨h0, h1⟩ hb
    | ok h2 h3 h4 ho2 => rw [ho.unique (curLoop_final h _ (CInv.start need h0) ho2)]

theorem Run.nilCall {P : Program} {f : FuncId} {σ : H} {K : V → H → Prop} {r : V} {v : Value} (hc : ∀ w, Calls P f #[.slice none 0 0] w fun e w' => e = .returned v ∧ w' = w) (hv : ∀ F ρ, VR F ρ r v) (k : K r σ) : Run P f [.nils] σ K := by
  intro W ρ F G w ys hr hy
  obtain ⟨y, rfl⟩ : ∃ y, ys = [y] := by
    match ys, hy.1 with
    | [y], _ => exact ⟨y, rfl⟩
  have hv1 := hy.2 0 _ y rfl rfl
  cases hv1
  refine (hc w).mono ?_
  rintro e w' ⟨he, rfl⟩
  exact ⟨v, r, σ, ρ, F, he, k, Lay.le_refl _, Part.le_refl _, hr, hv _ _⟩

theorem compact_up (d : Array Int) (hs : ∀ i j, i < j → j < d.size → d[i]! ≤ d[j]!) : ∀ m, m ≤ d.size → (Lib.compactUpTo d m).Pairwise (· < ·) ∧ ∀ x, x ∈ Lib.compactUpTo d m ↔ ∃ j, j < m ∧ d[j]! = x
  | 0, _ => by
    refine ⟨by simp [Lib.compactUpTo], fun x => ?_⟩
    simp [Lib.compactUpTo]
  | m + 1, hm => by
    have ih := compact_up d hs m (by omega)
    rw [Lib.compactUpTo_succ]
    by_cases hk : Lib.keeps d m = true
    · rw [if_pos hk]
      have hk2 : m = 0 ∨ d[m]! ≠ d[m - 1]! := by simpa [Lib.keeps] using hk
      refine ⟨List.pairwise_append.2 ⟨ih.1, List.pairwise_singleton _ _, fun x hx y hy => ?_⟩, fun x => ?_⟩
      · rw [List.mem_singleton.1 hy]
        obtain ⟨j, hj, rfl⟩ := (ih.2 x).1 hx
        have h1 : d[m - 1]! ≤ d[m]! := hs (m - 1) m (by omega) (by omega)
        have h2 : d[j]! ≤ d[m - 1]! := by
          by_cases e : j = m - 1
          · rw [e]
            exact Int.le_refl _
          · exact hs j (m - 1) (by omega) (by omega)
        rcases hk2 with h | h <;> omega
      · rw [List.mem_append, ih.2 x, List.mem_singleton]
        constructor
        · rintro (⟨j, hj, e⟩ | rfl)
          · exact ⟨j, by omega, e⟩
          · exact ⟨m, by omega, rfl⟩
        · rintro ⟨j, hj, e⟩
          by_cases ej : j = m
          · exact .inr (by rw [← e, ej])
          · exact .inl ⟨j, by omega, e⟩
    · have hk2 : ¬ (m = 0 ∨ d[m]! ≠ d[m - 1]!) := by simpa [Lib.keeps] using hk
      have h3 : d[m]! = d[m - 1]! := by
        refine Classical.byContradiction fun h => hk2 (.inr h)
      have h4 : 0 < m := by
        refine Nat.pos_of_ne_zero fun h => hk2 (.inl h)
      rw [if_neg hk, List.append_nil]
      refine ⟨ih.1, fun x => ?_⟩
      rw [ih.2 x]
      constructor
      · rintro ⟨j, hj, e⟩
        exact ⟨j, by omega, e⟩
      · rintro ⟨j, hj, e⟩
        by_cases ej : j = m
        · exact ⟨m - 1, by omega, by rw [← h3, ← ej, e]⟩
        · exact ⟨j, by omega, e⟩

theorem getBang (l : List Int) (i : Nat) (hi : i < l.length) : l.toArray[i]! = l[i] := by simp [hi]

theorem compact_sorted (l : List Int) (h : l.Pairwise (· ≤ ·)) : (Lib.compact l).Pairwise (· < ·) ∧ ∀ x, x ∈ Lib.compact l ↔ x ∈ l := by
  have h1 := compact_up l.toArray (fun i j hij hj => by
    have hj2 : j < l.length := by simpa using hj
    rw [getBang l i (by omega), getBang l j hj2]
    exact List.pairwise_iff_getElem.1 h i j (by omega) hj2 hij) l.length (by simp)
  refine ⟨h1.1, fun x => (h1.2 x).trans ?_⟩
  constructor
  · rintro ⟨j, hj, rfl⟩
    rw [getBang l j hj]
    exact List.getElem_mem _
  · intro hx
    obtain ⟨j, hj, e⟩ := List.getElem_of_mem hx
    exact ⟨j, hj, by rw [getBang l j hj, e]⟩

theorem compact_len (d : Array Int) : ∀ m, (Lib.compactUpTo d m).length ≤ m
  | 0 => by simp [Lib.compactUpTo]
  | m + 1 => by
    have := compact_len d m
    rw [Lib.compactUpTo_succ]
    split <;> simp <;> omega

theorem sortI_sorted (l : List Int) : (sortI l).Pairwise (· ≤ ·) := by
  have := List.pairwise_mergeSort (le := fun x y : Int => decide (x ≤ y)) (fun a b c h1 h2 => by simp only [decide_eq_true_eq] at *; omega) (fun a b => by simp only [Bool.or_eq_true, decide_eq_true_eq]; omega) l
  exact this.imp fun h => by simpa using h

/-- Where the first loop stands; whatever lies in the heap. -/
def ECheck (L : List (Int × Int)) (need : Int) (n : Nat) (t : Env) (_ : H) : Prop := ∃ i, n = L.length - i ∧ i ≤ L.length ∧ t 0 = loadsV L ∧ t 1 = .int .i64 need ∧ t 6 = .int .i64 (isum ((L.map (·.1)).take i)) ∧ t 18 = loadsV L ∧ t 19 = .int .i64 L.length ∧ t 20 = .int .i64 i ∧ (∀ p ∈ L.take i, goodAmt p)

set_option maxRecDepth 100000 in
theorem ECurtail_limit (L : List (Int × Int)) (need : Int) (h : 32 < L.length) : PRun Try.prog 8 [loadsV L, .int .i64 need] (fun r => r = .tup [intsV [], .int .i64 8]) := by
  unfold PRun
  refine Run.frz ?_
  refine run_fn Try.func8 rfl (by simp) ?_
  have hl : (32 : Int) < (L.length : Int) := by omega
  simp [loadsV, h, hl]
  exact ⟨nilres, ints_res_pure _ _⟩

set_option maxRecDepth 100000 in
theorem ECurtail_range (L : List (Int × Int)) (need : Int) (hl : L.length ≤ 32) (hb : ¬ ((∀ p ∈ L, goodAmt p) ∧ 0 ≤ need ∧ need ≤ totalL L)) : PRun Try.prog 8 [loadsV L, .int .i64 need] (fun r => r = .tup [intsV [], .int .i64 3]) := by
  unfold PRun
  refine Run.frz ?_
  refine run_fn Try.func8 rfl (by simp) ?_
  have hl' : ¬ (32 : Int) < (L.length : Int) := by omega
  have hl'' : ¬ 32 < L.length := by omega
  simp [loadsV, hl', hl'']
  refine ac_loop (ECheck L need) L.length ⟨0, by omega, by omega, by simp [loadsV], by simp, by simp [isum], by simp [loadsV], by simp, by simp, by simp⟩ ?_
  rintro n t σ ⟨i, rfl, hi, h0, h1, h6, h18, h19, h20, hg⟩
  have h18' := h18
  simp only [loadsV] at h18'
  by_cases hlt : i < L.length
  · obtain ⟨p, hp⟩ : ∃ p, L[i]? = some p := ⟨_, List.getElem?_eq_getElem hlt⟩
    have dl := decide_eq_true hlt
    have hw : IntKind.i64.wrap ((i : Int) + 1) = (i : Int) + 1 := i64_id (by omega) (by omega)
    simp [h18', h19, h20, dl, hp, lrow]
    by_cases hlo : p.1 < 0
    · simp [hlo]
      exact ⟨nilres, ints_res_pure _ _⟩
    · by_cases hhi : 1048576 < p.1
      · simp [hlo, hhi]
        exact ⟨nilres, ints_res_pure _ _⟩
      · have hsum : isum ((L.map (·.1)).take (i + 1)) = isum ((L.map (·.1)).take i) + p.1 := isum_take (by rw [List.getElem?_map, hp]; rfl)
        have hr := isum_range (a := 0) (b := 1048576) ((L.map (·.1)).take i) (by
          intro x hx
          rw [← List.map_take] at hx
          obtain ⟨q, hq, rfl⟩ := List.mem_map.1 hx
          exact hg q hq)
        have hli : ((L.map (·.1)).take i).length ≤ 32 := by simp; omega
        have hw2 : IntKind.i64.wrap (isum ((L.map (·.1)).take i) + p.1) = isum ((L.map (·.1)).take (i + 1)) := by rw [hsum, i64_id (by omega) (by omega)]
        generalize isum ((L.map (·.1)).take i) = s0 at *
        simp [hlo, hhi, h6, h20, hw, hw2]
        exact ⟨L.length - (i + 1), by omega, i + 1, rfl, by omega, by simp [h0], by simp [h1], by simp, by simp [h18], by simp [h19], by simp, take_good hg hp ⟨by omega, by omega⟩⟩
  · obtain rfl : i = L.length := by omega
    rw [List.take_of_length_le (by simp)] at h6
    rw [List.take_length] at hg
    have dl := decide_eq_false hlt
    have hT : isum (L.map (·.1)) = totalL L := rfl
    rw [hT] at h6
    by_cases hn : need < 0
    · simp [h1, h19, h20, dl, hn]
      exact ⟨nilres, ints_res_pure _ _⟩
    · have hn2 : totalL L < need := by
        rcases Int.lt_or_le (totalL L) need with h | h
        · exact h
        · exact absurd ⟨hg, by omega, h⟩ hb
      simp [h1, h6, h19, h20, dl, hn, hn2]
      exact ⟨nilres, ints_res_pure _ _⟩

/-- Where the loop that gathers the merits stands. -/
def MerInv (L : List (Int × Int)) (need : Int) (b : Nat) (n : Nat) (t : Env) (σ : H) : Prop := ∃ i, n = L.length - i ∧ i ≤ L.length ∧ t 0 = loadsV L ∧ t 1 = .int .i64 need ∧ t 9 = .sl 1 b 0 L.length true ∧ σ.get b = some (.rows 3 ((List.replicate L.length 0).map irow)) ∧
  t 47 = loadsV L ∧ t 48 = .int .i64 L.length ∧ t 49 = .int .i64 i ∧ RowAt Try.prog σ (b + 1) 3 (t 10) (((L.map (·.2)).take i).map irow) ∧ b + 1 ≤ σ.nx

def doneK (L : List (Int × Int)) (K : List Int) : List Bool := L.map fun p => decide (p.2 ∈ K)

/-- Where the rounds stand. -/
def RoInv (L : List (Int × Int)) (n0 : Int) (b bm : Nat) (M : List Int) (rest : List Int) (n : Nat) (t : Env) (σ : H) : Prop := ∃ (i : Nat) (need : Int) (out : List Int), n = M.length - i ∧ i ≤ M.length ∧ t 0 = loadsV L ∧ t 1 = .int .i64 need ∧ t 9 = .sl 1 b 0 L.length true ∧
  σ.get b = some (.rows 3 (out.map irow)) ∧ t 62 = .sl 1 bm 0 M.length false ∧ σ.get bm = some (.rows 3 ((M ++ rest).map irow)) ∧ t 63 = .int .i64 M.length ∧ t 64 = .int .i64 i ∧ 0 ≤ need ∧ need ≤ 33554432 ∧ CInv L n0 (doneK L (M.take i)) need out

theorem mark_done {L : List (Int × Int)} {M : List Int} {i : Nat} {m : Int} (hm : M[i]? = some m) : markR L m (doneK L (M.take i)) = doneK L (M.take (i + 1)) := by
  have hl : (doneK L (M.take i)).length = L.length := by simp [doneK]
  apply List.ext_getElem?
  intro j
  by_cases hj : j < L.length
  · have hp := List.getElem?_eq_getElem hj
    rw [mark_get hl hp]
    unfold doneK
    rw [List.getElem?_map, List.getElem?_map, hp, List.take_add_one, hm]
    simp only [Option.map_some, Option.getD_some, Option.some.injEq, Option.toList_some, List.mem_append, List.mem_singleton]
    by_cases e : L[j].2 = m
    · simp [e]
    · simp [e]
  · rw [List.getElem?_eq_none (by simp [markR, doneK]; omega), List.getElem?_eq_none (by simp [doneK]; omega)]

theorem done_get {L : List (Int × Int)} {K : List Int} {j : Nat} {q : Int × Int} (hq : L[j]? = some q) : (doneK L K)[j]? = some true ↔ q.2 ∈ K := by
  unfold doneK
  rw [List.getElem?_map, hq]
  simp

theorem frz_rows {σ : H} {b n : Nat} {ex : Bool} {l : List Int} (hb : σ.get b = some (.rows 3 (l.map irow))) (hn : n = l.length) (e : Int) : ∃ x, Frz Try.prog σ (V.tup [.sl 1 b 0 n ex, .int .i64 e]) (V.tup [intsV l, .int .i64 e]) x := ⟨_, Frz.tup (i := 0) rfl (frz_ints hb hn)⟩

set_option maxRecDepth 100000 in
theorem ECurtail_ok (L : List (Int × Int)) (need : Int) (h : GoodL L) (hn0 : 0 ≤ need) (hn1 : need ≤ totalL L) : PRun Try.prog 8 [loadsV L, .int .i64 need] (fun r => ∃ o, Final L need o ∧ r = .tup [intsV o, .int .i64 0]) := by
  unfold PRun
  refine Run.frz ?_
  refine run_fn Try.func8 rfl (by simp) ?_
  have hl := h.len
  have hl' : ¬ (32 : Int) < (L.length : Int) := by omega
  have hl'' : ¬ 32 < L.length := by omega
  simp [loadsV, hl', hl'']
  refine ac_loop (ECheck L need) L.length ⟨0, by omega, by omega, by simp [loadsV], by simp, by simp [isum], by simp [loadsV], by simp, by simp, by simp⟩ ?_
  rintro n t σ ⟨i, rfl, hi, h0, h1, h6, h18, h19, h20, hg⟩
  have h18' := h18
  simp only [loadsV] at h18'
  by_cases hlt : i < L.length
  · obtain ⟨p, hp⟩ : ∃ p, L[i]? = some p := ⟨_, List.getElem?_eq_getElem hlt⟩
    have dl := decide_eq_true hlt
    have hw : IntKind.i64.wrap ((i : Int) + 1) = (i : Int) + 1 := i64_id (by omega) (by omega)
    have hgp := h.amt p (List.mem_of_getElem? hp)
    have hlo : ¬ p.1 < 0 := by omega
    have hhi : ¬ 1048576 < p.1 := by omega
    simp [h18', h19, h20, dl, hp, lrow]
    have hsum : isum ((L.map (·.1)).take (i + 1)) = isum ((L.map (·.1)).take i) + p.1 := isum_take (by rw [List.getElem?_map, hp]; rfl)
    have hr := isum_range (a := 0) (b := 1048576) ((L.map (·.1)).take i) (by
      intro x hx
      rw [← List.map_take] at hx
      obtain ⟨q, hq, rfl⟩ := List.mem_map.1 hx
      exact hg q hq)
    have hli : ((L.map (·.1)).take i).length ≤ 32 := by simp; omega
    have hw2 : IntKind.i64.wrap (isum ((L.map (·.1)).take i) + p.1) = isum ((L.map (·.1)).take (i + 1)) := by rw [hsum, i64_id (by omega) (by omega)]
    generalize isum ((L.map (·.1)).take i) = s0 at *
    simp [hlo, hhi, h6, h20, hw, hw2]
    exact ⟨L.length - (i + 1), by omega, i + 1, rfl, by omega, by simp [h0], by simp [h1], by simp, by simp [h18], by simp [h19], by simp, take_good hg hp ⟨by omega, by omega⟩⟩
  · obtain rfl : i = L.length := by omega
    rw [List.take_of_length_le (by simp)] at h6
    have dl := decide_eq_false hlt
    have hT : isum (L.map (·.1)) = totalL L := rfl
    rw [hT] at h6
    have hn : ¬ need < 0 := by omega
    have hn2 : ¬ totalL L < need := by omega
    have hl8 : (L.length : Int) * 8 ≤ 1099511627776 ∧ (L.length : Int) * 1 ≤ 1099511627776 ∧ (L.length : Int) ≤ 1099511627776 := by omega
    have h0' := h0
    simp only [loadsV] at h0'
    simp [h0', h1, h6, h19, h20, dl, hn, hn2, hl8]
    refine ac_loop (MerInv L need σ.nx) L.length ⟨0, by omega, by omega, by simp [h0], by simp [h1], by simp, by simp [irow], by simp [loadsV], by simp, by simp, .inl ⟨rfl, by simp⟩, by simp⟩ ?_
    clear h18 h19 h18' h6 h20 h0 h1 h0'
    obtain ⟨b, hbd⟩ : ∃ b, b = σ.nx := ⟨_, rfl⟩
    rw [← hbd]
    rintro n t σ1 ⟨i, rfl, hi, h0, h1, h9, hgb, h47, h48, h49, h10, hle⟩
    have h47' := h47
    simp only [loadsV] at h47'
    by_cases hlt : i < L.length
    · obtain ⟨p, hp⟩ : ∃ p, L[i]? = some p := ⟨_, List.getElem?_eq_getElem hlt⟩
      have dl := decide_eq_true hlt
      have hw : IntKind.i64.wrap ((i : Int) + 1) = (i : Int) + 1 := i64_id (by omega) (by omega)
      have hs1 : Same (b + 1) (fun _ => False) σ1 ((σ1.alloc (Blk.rows 25 [[V.int IntKind.i64 0, V.int IntKind.i64 0]])).set σ1.nx (Blk.rows 25 [[V.int IntKind.i64 p.1, V.int IntKind.i64 p.2]])) := ((Same.refl hle).alloc _).set (.inl hle) _
      have hr1 := h10.set_new (Blk.rows 25 [[V.int IntKind.i64 0, V.int IntKind.i64 0]]) (Blk.rows 25 [[V.int IntKind.i64 p.1, V.int IntKind.i64 p.2]])
      simp [h47', h48, h49, dl, hp, lrow]
      refine bindO_append (xs := ((L.map (·.2)).take i).map irow) (hr1.alloc _) (by simp) (by simp) (by simp [fitsMem]; omega) (by simp; omega) ?_
      intro v' σ2 hrow hsame hoth
      have eM : ((L.map (·.2)).take (i + 1)).map irow = ((L.map (·.2)).take i).map irow ++ [[.int .i64 p.2]] := by
        rw [List.take_add_one, List.getElem?_map, hp, List.map_append]; rfl
      have hst := (hs1.alloc (Blk.rows 3 [[V.int IntKind.i64 p.2]])).trans (hsame _)
      simp [h49, hw]
      refine ⟨L.length - (i + 1), by omega, i + 1, rfl, by omega, by simp [h0], by simp [h1], by simp [h9], hst.of_get hgb (by omega) (fun x => x), by simp [h47], by simp [h48], by simp, ?_, hst.le⟩
      rw [eM]
      simpa using hrow
    · obtain rfl : i = L.length := by omega
      rw [List.take_of_length_le (by simp)] at h10
      have dl := decide_eq_false hlt
      have hbn := H.get_lt hgb
      obtain ⟨M0, hM0⟩ : ∃ M0, M0 = L.map (·.2) := ⟨_, rfl⟩
      rw [← hM0] at h10
      have hTb : totalL L ≤ 33554432 := by
        have := isum_range (a := 0) (b := 1048576) (L.map (·.1)) (by
          intro x hx
          obtain ⟨q, hq, rfl⟩ := List.mem_map.1 hx
          exact h.amt q hq)
        have e : (L.map (·.1)).length = L.length := List.length_map _
        unfold totalL; omega
      have hM0l : M0.length = L.length := by rw [hM0]; simp
      rcases h10 with ⟨e, h10⟩ | ⟨hne, bm, hbm, h10, hgm⟩
      · have hL0 : L = [] := by rw [hM0] at e; simpa using e
        subst hL0
        simp [h48, h49, h10]
        refine Run.nilCall (r := .tup []) (fun w => Try.slices_Sort_int_none none 0 w) (fun F ρ => undefVR) ?_
        simp [h10]
        refine Run.nilCall (r := .nils) (fun w => Try.slices_Compact_int_empty none 0 w) (fun F ρ => .nils) ?_
        simp
        refine ac_loop (fun n t σ' => t 9 = .sl 1 b 0 0 true ∧ σ' = σ1 ∧ t 63 = .int .i64 0 ∧ t 64 = .int .i64 0) 0 ⟨by simp [h9], rfl, by simp, by simp⟩ ?_
        rintro n t σ' ⟨g9, rfl, g63, g64⟩
        simp [g63, g64, g9]
        have hgb' : σ'.get b = some (.rows 3 (([] : List Int).map irow)) := by simpa using hgb
        refine ⟨_, frz_rows hgb' rfl 0, ints_res_pure _ _, [], ?_, rfl⟩
        exact ⟨rfl, fun j q hq => by simp at hq⟩
      · have hne' : M0 ≠ [] := by simpa using hne
        have h10' : t 10 = .sl 1 bm 0 M0.length false := by simpa using h10
        have hbnm : ¬ b = bm := by omega
        have hum := σ1.wf _ _ hgm
        have hMs : (sortI M0).length = M0.length := by simp [sortI]
        have hMse : sortI M0 ≠ [] := fun e => hne' (List.eq_nil_of_length_eq_zero (by rw [← hMs, e]; rfl))
        simp [h48, h49, dl, h10']
        refine Sort_run hgm hne' (by omega) ?_
        simp [h10']
        have hlen2 : M0.length = (sortI M0).length := hMs.symm
        rw [hlen2]
        have hcl : (Lib.compact (sortI M0)).length ≤ (sortI M0).length := compact_len _ _
        refine Compact_run (by simp [hum]) hMse (by omega) hcl ?_
        obtain ⟨M, hM⟩ : ∃ M, M = Lib.compact (sortI M0) := ⟨_, rfl⟩
        obtain ⟨hMa, hMm⟩ := compact_sorted _ (sortI_sorted M0)
        rw [← hM] at hMa hMm hcl ⊢
        have hMem : ∀ x, x ∈ M ↔ ∃ p ∈ L, p.2 = x := by
          intro x
          rw [hMm]
          unfold sortI
          rw [List.mem_mergeSort, hM0, List.mem_map]
        generalize List.replicate ((sortI M0).length - M.length) (0 : Int) = rest
        simp
        have hd0 : doneK L (M.take 0) = List.replicate L.length false := by
          unfold doneK
          rw [List.take_zero]
          apply List.ext_getElem
          · simp
          · intro j h1 h2; simp
        refine ac_loop (RoInv L need b bm M rest) M.length ⟨0, need, List.replicate L.length 0, by omega, by omega, by simp [h0], by simp [h1], by simp [h9], by simpa [hbnm] using hgb, by simp, by simp [hum], by simp, by simp, hn0, by omega, by rw [hd0]; exact CInv.start need hn0⟩ ?_
        clear hgb
        rintro n t2 σ2 ⟨i, nd, out, rfl, hi2, g0, g1, g9, gb, g62, gm, g63, g64, hnd0, hnd1, hC⟩
        by_cases hlt2 : i < M.length
        · obtain ⟨m, hm⟩ : ∃ m, M[i]? = some m := ⟨_, List.getElem?_eq_getElem hlt2⟩
          have hmr : ((M ++ rest).map irow)[i]? = some (irow m) := by rw [List.getElem?_map, List.getElem?_append_left hlt2, hm]; rfl
          have dl2 := decide_eq_true hlt2
          have hMl : M.length ≤ 32 := by omega
          have hw : IntKind.i64.wrap ((i : Int) + 1) = (i : Int) + 1 := i64_id (by omega) (by omega)
          have hS := gS_range (m := m) h
          have hc0 : 0 ≤ min nd (gS L m) ∧ min nd (gS L m) ≤ nd := by rw [Int.min_def]; split <;> omega
          have hw2 : IntKind.i64.wrap (nd - min nd (gS L m)) = nd - min nd (gS L m) := i64_id (by omega) (by omega)
          have hlt_iff : ∀ (j : Nat) q, L[j]? = some q → (q.2 ∈ M.take i ↔ q.2 < m) := by
            intro j q hq
            have hqM : q.2 ∈ M := (hMem _).2 ⟨q, List.mem_of_getElem? hq, rfl⟩
            have hpw := hMa
            rw [← List.take_append_drop i M] at hpw
            have hdr : M.drop i = m :: M.drop (i + 1) := by
              rw [List.drop_eq_getElem_cons hlt2]
              rw [List.getElem?_eq_getElem hlt2] at hm
              injection hm with hm
              rw [hm]
            rw [hdr] at hpw
            obtain ⟨_, p2, p3⟩ := List.pairwise_append.1 hpw
            constructor
            · intro hx; exact p3 _ hx m (List.mem_cons_self ..)
            · intro hx
              rw [← List.take_append_drop i M, hdr] at hqM
              rcases List.mem_append.1 hqM with h1 | h1
              · exact h1
              · rcases List.mem_cons.1 h1 with h2 | h2
                · omega
                · have := (List.pairwise_cons.1 p2).1 _ h2; omega
          have hdone : ∀ (j : Nat) q, L[j]? = some q → ((doneK L (M.take i))[j]? = some true ↔ q.2 < m) := fun j q hq => (done_get hq).trans (hlt_iff j q hq)
          have hmr2 : ((M ++ rest).map irow)[i]? = some [.int .i64 m] := hmr
          simp only [List.map_append] at gm hmr2
          simp [g62, g63, g64, dl2, if_pos hlt2, gm, hmr2, g0, g1, g9]
          refine share_run L h m nd hnd0 hnd1 b true out hC.ol ?_ _ gb _ ?_
          · intro j q hq e
            rw [hC.val j q hq, if_neg]
            intro hx
            have := (hdone j q hq).1 hx
            omega
          · intro out' σ3 hpost gb3 hkeep hnx3
            have gm3 : σ3.get bm = some (.rows 3 ((M ++ rest).map irow)) := by rw [hkeep bm (H.get_lt gm) (by omega), List.map_append]; exact gm
            have hstep := hC.step h hdone hpost
            rw [mark_done hm] at hstep
            simp [hw2, g64, hw]
            exact ⟨M.length - (i + 1), by omega, i + 1, _, out', rfl, by omega, by simp [g0], by simp, by simp [g9], gb3, by simp [g62], gm3, by simp [g63], by simp, by omega, by omega, hstep⟩
        · have hiM : i = M.length := by omega
          subst hiM
          rw [List.take_length] at hC
          have dl2 := decide_eq_false hlt2
          simp [g63, g64, dl2, g9]
          refine ⟨_, frz_rows gb hC.ol.symm 0, ints_res_pure _ _, out, hC.final h (.inr fun j hj => ?_), rfl⟩
          exact (done_get (List.getElem?_eq_getElem hj)).2 ((hMem _).2 ⟨L[j], List.getElem_mem _, rfl⟩)

/-- What the program's Curtail does, at every input. -/
theorem ECurtail (L : List (Int × Int)) (need : Int) : PRun Try.prog 8 [loadsV L, .int .i64 need] (fun r => ∃ res, ProgCur L need res ∧ r = .tup [intsV res.1, .int .i64 res.2]) := by
  by_cases hl : 32 < L.length
  · exact (ECurtail_limit L need hl).mono fun r _ e => ⟨_, .limit hl, e⟩
  · by_cases hg : ∀ p ∈ L, goodAmt p
    · have h : GoodL L := ⟨by omega, hg⟩
      by_cases hn : 0 ≤ need ∧ need ≤ totalL L
      · exact (ECurtail_ok L need h hn.1 hn.2).mono fun r _ ⟨o, ho, e⟩ => ⟨_, .ok h hn.1 hn.2 ho, e⟩
      · exact (ECurtail_range L need (by omega) fun hc => hn hc.2).mono fun r _ e => ⟨_, .range h hn, e⟩
    · exact (ECurtail_range L need (by omega) fun hc => hg hc.1).mono fun r _ e => ⟨_, .amount (by omega) hg, e⟩

end Go.Proofs.Ytngbibpmaofamaa.Ab

/- gridmarketlaw43.awake and ExecutiveCurtails. -/
-- LawA
namespace Go.Proofs.Ytngbibpmaofamaa.Ab
open Go Num

theorem frz_loads {σ : H} {b n : Nat} {ex : Bool} {l : List (Int × Int)} (hb : σ.get b = some (.rows 25 (l.map lrow))) (hn : n = l.length) : Frz Try.prog σ (.sl 2 b 0 n ex) (loadsV l) (σ.kill b) := by
  have hz := Frz.sl (P := Try.prog) (sz := 2) (off := 0) (len := n) (ex := ex) (ex' := false) hb (by simp [hn]) (by simp)
  rw [List.drop_zero, List.take_of_length_le (by simp [hn])] at hz
  exact hz

def awL : List (Int × Int) := [(10, 1), (20, 2), (10, 2)]

theorem awL_good : GoodL awL := ⟨by decide, by decide⟩

theorem aw19 {o : List Int} (h : Final awL 19 o) : o = [10, 6, 3] := by
  have : Final awL 19 [10, 6, 3] := ⟨rfl, by
    intro i p hp
    match i with
    | 0 => injection hp with hp; subst hp; decide +kernel
    | 1 => injection hp with hp; subst hp; decide +kernel
    | 2 => injection hp with hp; subst hp; decide +kernel
    | i + 3 => simp [awL] at hp⟩
  exact h.unique this

theorem aw20 {o : List Int} (h : Final awL 20 o) : o = [10, 7, 3] := by
  have : Final awL 20 [10, 7, 3] := ⟨rfl, by
    intro i p hp
    match i with
    | 0 => injection hp with hp; subst hp; decide +kernel
    | 1 => injection hp with hp; subst hp; decide +kernel
    | 2 => injection hp with hp; subst hp; decide +kernel
    | i + 3 => simp [awL] at hp⟩
  exact h.unique this

theorem prog_ok {L : List (Int × Int)} {need : Int} (h : GoodL L) (h0 : 0 ≤ need) (h1 : need ≤ totalL L) {r : List Int × Int} (hp : ProgCur L need r) : ∃ o, Final L need o ∧ r = (o, 0) := by
  cases hp with
  | limit h2 => have := h.len; omega
  | amount h2 hb => exact absurd h.amt hb
  | range h2 hb => exact absurd ⟨h0, h1⟩ hb
  | ok _ _ _ ho => exact ⟨_, ho, rfl⟩

/-- A cut between two codes, by what holds there. -/
def midQ (M : Env → H → Prop) (Q : Exit → Env → H → Prop) : Exit → Env → H → Prop
  | .normal, t, σ => M t σ
  | e, t, σ => Q e t σ
section
variable (M : Env → H → Prop) (Q : Exit → Env → H → Prop) (t : Env) (σ : H)
@[simp] theorem midQ_normal : midQ M Q .normal t σ = M t σ := (rfl)
@[simp] theorem midQ_exit (i : Nat) : midQ M Q (.exit i) t σ = Q (.exit i) t σ := (rfl)
@[simp] theorem midQ_ret : midQ M Q .ret t σ = Q .ret t σ := (rfl)
end
theorem ac_mid {P : Program} {N : Nat} {x y : Code} {t : Env} {σ : H} {Q : Exit → Env → H → Prop} (M : Env → H → Prop) (h : AC P N x t σ (midQ M Q)) (k : ∀ t σ, M t σ → ACode P N y t σ Q) : ACode P N (.seq x y) t σ Q :=
  a_seq ((ac_sound _ _ _ _ h).mono fun e t σ q => by
    cases e with
    | normal => exact k t σ q
    | _ => exact q)

theorem Run.pcallQ {P : Program} {f : FuncId} {args : List V} {σ : H} {K : V → H → Prop} {Q : V → Prop} (h : PRun P f args Q) (hp : ∀ x ∈ args, x.Pure) (k : ∀ r, r.Pure → Q r → K r σ) : Run P f args σ K :=
  (Run.of_pure h hp).mono fun _ _ ⟨h1, h2, h3⟩ => by subst h1; exact k _ h2 h3

set_option maxRecDepth 100000 in
theorem awake43_run : PRun Try.prog 10 [] (fun r => r = .bool true) := by
  unfold PRun
  refine run_of_code Try.func10 rfl (by simp) ?_
  refine ac_cut ?_
  simp
  refine ac_cut ?_
  simp
  refine ACode.frz 1 (v := .sl 2 0 0 3 true) (by simp) (frz_loads (b := 0) (l := awL) (by simp [awL, lrow]) rfl) ?_
  refine ac_sound _ _ _ _ ?_
  simp
  refine Run.pcallQ (ECurtail awL 19) (pure_two (loadsV_pure _) (.int _ _)) ?_
  rintro r hr ⟨res, hres, rfl⟩
  obtain ⟨o, ho, rfl⟩ := prog_ok awL_good (by decide) (by decide) hres
  obtain rfl := aw19 ho
  simp
  refine Run.pcallQ (ECurtail awL 20) (pure_two (loadsV_pure _) (.int _ _)) ?_
  rintro r hr ⟨res, hres, rfl⟩
  obtain ⟨o, ho, rfl⟩ := prog_ok awL_good (by decide) (by decide) hres
  obtain rfl := aw20 ho
  simp
  refine Run.frzArg 1 rfl (frz_ints (e := 3) (l := [10, 6, 3]) (by simp [irow]) rfl) ?_
  refine Run.pcall (Ints18_run [10, 6, 3] [10, 6, 3] (by simp) (by simp)) (pure_two (intsV_pure _) (intsV_pure _)) ?_
  simp
  refine Run.frzArg 1 rfl (frz_ints (e := 3) (l := [10, 7, 3]) (by simp [irow]) rfl) ?_
  refine Run.pcall (Ints18_run [10, 7, 3] [10, 7, 3] (by simp) (by simp)) (pure_two (intsV_pure _) (intsV_pure _)) ?_
  simp
  exact .bool _

def tame (L : List (Int × Int)) : List (Int × Int) := L.map fun p => (modI p.1 40, modI p.2 4)

theorem modI_range (v n : Int) (h : 0 < n) : 0 ≤ modI v n ∧ modI v n < n := ⟨Int.emod_nonneg _ (by omega), Int.emod_lt_of_pos _ h⟩

theorem res_len {L : List (Int × Int)} {need : Int} {r : List Int × Int} (h : ProgCur L need r) : r.1.length ≤ 32 := by
  cases h with
  | limit => simp
  | amount => simp
  | range => simp
  | ok h _ _ ho => rw [ho.len]; exact h.len

/-- Where the loop that tames the loads stands. -/
def TamInv (L : List (Int × Int)) (need : Int) (b : Nat) (ex : Bool) (n : Nat) (t : Env) (σ : H) : Prop := ∃ i, n = L.length - i ∧ i ≤ L.length ∧ t 0 = .sl 2 b 0 L.length ex ∧ t 1 = .int .i64 need ∧ t 7 = .int .i64 (isum (((tame L).map (·.1)).take i)) ∧ t 8 = .int .i64 i ∧
  ∃ C : List (Int × Int), C.length = L.length ∧ (∀ j, C[j]? = if j < i then (tame L)[j]? else L[j]?) ∧ σ.get b = some (.rows 25 (C.map lrow))

theorem bindO_of {x : Option (V × H)} {k : V → H → Prop} (R : V → H → Prop) (h : ∃ v σ, x = some (v, σ) ∧ R v σ) (hk : ∀ v σ, R v σ → k v σ) : bindO x k := by
  obtain ⟨v, σ, rfl, h⟩ := h
  exact hk v σ h

/-- Where the two Curtails are called. -/
def TailOk (t : Env) (σ : H) : Prop := ∃ (L' : List (Int × Int)) (need' : Int) (σ' : H), L'.length ≤ 40 ∧ Frz Try.prog σ (t 0) (loadsV L') σ' ∧ t 1 = .int .i64 need'

set_option maxRecDepth 100000 in
theorem Curtails_run (L : List (Int × Int)) (need : Int) (near : Bool) : PRun Try.prog 3 [loadsV L, .int .i64 need, .bool near] (fun r => r = .bool true) := by
  unfold PRun
  refine run_of_code Try.func3 rfl (by simp) ?_
  refine ac_cut ?_
  simp
  by_cases hl : 40 < L.length
  · have hl' : (40 : Int) < (L.length : Int) := by omega
    refine ac_sound _ _ _ _ ?_
    simp [loadsV, hl, hl']
    exact .bool _
  · have hl' : ¬ (40 : Int) < (L.length : Int) := by omega
    refine ac_cut ?_
    simp [loadsV, hl, hl']
    refine ac_mid TailOk ?_ ?_
    · cases near with
      | false =>
        simp
        exact ⟨L, need, _, by omega, Frz.refl, rfl⟩
      | true =>
        simp
        refine bindO_of (fun v σ1 => ∃ b ex, v = .sl 2 b 0 L.length ex ∧ σ1.get b = some (.rows 25 (L.map lrow))) ?_ ?_
        · by_cases hL : L = []
          · subst hL
            exact ⟨_, _, if_pos rfl, 0, true, rfl, by simp⟩
          · refine ⟨_, _, (if_neg hL).trans (if_pos ⟨rfl, by simp [lrow], by simp [fitsMem]; omega, Nat.le_refl _⟩), 1, false, rfl, by simp⟩
        · rintro v σ1 ⟨b, ex, rfl, hgb⟩
          simp
          refine ac_loop (TamInv L need b ex) L.length ⟨0, by omega, by omega, by simp, by simp, by simp [isum], by simp, L, rfl, by simp, hgb⟩ ?_
          rintro n t σ ⟨i, rfl, hi, h0, h1, h7, h8, C, hCl, hC, hg⟩
          have hu := σ.wf _ _ hg
          by_cases hlt : i < L.length
          · obtain ⟨p, hp⟩ : ∃ p, L[i]? = some p := ⟨_, List.getElem?_eq_getElem hlt⟩
            have hCi : C[i]? = some p := by rw [hC i, if_neg (by omega), hp]
            have dl := decide_eq_true hlt
            have hw : IntKind.i64.wrap ((i : Int) + 1) = (i : Int) + 1 := i64_id (by omega) (by omega)
            have m1 := modI_range p.1 40 (by omega)
            have m2 := modI_range p.2 4 (by omega)
            simp [h0, h8, dl]
            refine adrawP 15 [] mixed (by kernel_rfl) (by kernel_rfl) ?_
            simp [h0, h8, if_pos hlt, hg, hCi, lrow]
            refine ⟨_, Mod_run p.1 40 (by omega) (by omega), ⟨.int _ _, .int _ _⟩, _, Mod_run p.2 4 (by omega) (by omega), ⟨.int _ _, .int _ _⟩, ?_⟩
            have hCt : (C.map lrow)[i]? = some (lrow p) := by rw [List.getElem?_map, hCi]; rfl
            have hset : (C.map lrow).set i [.int .i64 (modI p.1 40), .int .i64 (modI p.2 4)] = (C.set i (modI p.1 40, modI p.2 4)).map lrow := by rw [List.map_set]; rfl
            have hsi : ((C.map lrow).set i [.int .i64 (modI p.1 40), .int .i64 (modI p.2 4)])[i]? = some [.int .i64 (modI p.1 40), .int .i64 (modI p.2 4)] := List.getElem?_set_self (by simp; omega)
            have etl : (tame L)[i]? = some (modI p.1 40, modI p.2 4) := by unfold tame; rw [List.getElem?_map, hp]; rfl
            have hsum : isum (((tame L).map (·.1)).take (i + 1)) = isum (((tame L).map (·.1)).take i) + modI p.1 40 := isum_take (by rw [List.getElem?_map, etl]; rfl)
            have hr := isum_range (a := 0) (b := 40) (((tame L).map (·.1)).take i) (by
              intro x hx
              obtain ⟨q, hq, rfl⟩ := List.mem_map.1 (List.mem_of_mem_take hx)
              obtain ⟨q0, _, rfl⟩ := List.mem_map.1 hq
              have := modI_range q0.1 40 (by omega)
              exact ⟨this.1, by have := this.2; simp only; omega⟩)
            have hrl : (((tame L).map (·.1)).take i).length ≤ 40 := by simp [tame]; omega
            have hw2 : IntKind.i64.wrap (isum (((tame L).map (·.1)).take i) + modI p.1 40) = isum (((tame L).map (·.1)).take (i + 1)) := by rw [hsum, i64_id (by omega) (by omega)]
            generalize isum (((tame L).map (·.1)).take i) = s0 at *
            simp [h0, h8, if_pos hlt, hg, hCt, hu, lrow, hsi, h7, hw2, hw]
            refine ⟨L.length - (i + 1), by omega, i + 1, rfl, by omega, by simp [h0], by simp [h1], by simp, by simp, C.set i (modI p.1 40, modI p.2 4), by simp [hCl], ?_, by simp [hu, hset]⟩
            intro j
            by_cases e : j = i
            · subst e
              rw [List.getElem?_set_self (by omega), if_pos (by omega), etl]
            · rw [List.getElem?_set_ne (fun x => e x.symm), hC j]
              by_cases hj : j < i
              · rw [if_pos hj, if_pos (by omega)]
              · rw [if_neg hj, if_neg (by omega)]
          · have hiL : i = L.length := by omega
            subst hiL
            have dl := decide_eq_false hlt
            have hCe : C = tame L := by
              apply List.ext_getElem?
              intro j
              rw [hC j]
              by_cases hj : j < L.length
              · rw [if_pos hj]
              · rw [if_neg hj, List.getElem?_eq_none (by omega), List.getElem?_eq_none (by simp [tame]; omega)]
            subst hCe
            rw [List.take_of_length_le (by simp [tame])] at h7
            have hr := isum_range (a := 0) (b := 40) ((tame L).map (·.1)) (by
              intro x hx
              obtain ⟨q, hq, rfl⟩ := List.mem_map.1 hx
              obtain ⟨q0, _, rfl⟩ := List.mem_map.1 hq
              have := modI_range q0.1 40 (by omega)
              exact ⟨this.1, by have := this.2; simp only; omega⟩)
            have hrl : ((tame L).map (·.1)).length ≤ 40 := by simp [tame]; omega
            generalize isum ((tame L).map (·.1)) = s0 at *
            have hw3 : IntKind.i64.wrap (s0 + 2) = s0 + 2 := i64_id (by omega) (by omega)
            simp [h0, h1, h7, h8, dl, hw3]
            refine Run.pcall (Mod_run need (s0 + 2) (by omega) (by omega)) (pure_two (.int _ _) (.int _ _)) ?_
            simp
            exact ⟨tame L, modI need (s0 + 2), _, by simp [tame]; omega, by simp [h0]; exact frz_loads hg (by simp [tame]), by simp⟩
    · rintro t σ ⟨L', need', σ', hl2, hz, h1⟩
      refine ACode.frz 0 rfl hz ?_
      refine ac_sound _ _ _ _ ?_
      simp [h1]
      refine Run.pcallQ (ECurtail L' need') (pure_two (loadsV_pure _) (.int _ _)) ?_
      rintro r hr ⟨res, hres, rfl⟩
      simp [h1]
      obtain ⟨res', hres', hrun'⟩ := RCurtail L' need'
      refine Run.pcall hrun' (pure_two (loadsV_pure _) (.int _ _)) ?_
      obtain rfl := cur_same hres hres'
      have hrl := res_len hres
      simp
      refine Run.pcall awake43_run (by simp) ?_
      simp
      refine Run.pcall (Ints18_run res.1 res.1 (by omega) (by omega)) (pure_two (intsV_pure _) (intsV_pure _)) ?_
      simp
      exact .bool _

end Go.Proofs.Ytngbibpmaofamaa.Ab
