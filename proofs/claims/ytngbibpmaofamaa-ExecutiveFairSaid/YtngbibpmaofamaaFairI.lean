/- ExecutiveFair, the plain law, part 9: the law's own loops. -/
import Derived.Test.YtngbibpmaofamaaQTestx8
import Derived.Test.YtngbibpmaofamaaFairH
namespace Go.Proofs.Fair
open Go.RowKit Go.Proofs.Ytngbibpmaofamaa.QTest Go.Proofs.YtngbibpmaofamaaW.PrintWords Go.Proofs.YtngbibpmaofamaaW.PrintMore

theorem mod_ok (a n : Int) (h0 : 0 < n) (h1 : n ≤ 1000000) : ∃ v, gridmarketmake_Mod.f a n = some v ∧ 0 ≤ v ∧ v < n := by
  have e : IntKind.u64.wrap n = n := by
    show n % 18446744073709551616 = n
    exact Int.emod_eq_of_lt (by omega) (by omega)
  have e2 : IntKind.u64.wrap a = a % 18446744073709551616 := rfl
  have h2 : 0 ≤ a % 18446744073709551616 := Int.emod_nonneg _ (by decide)
  have h3 : 0 ≤ Int.tmod (a % 18446744073709551616) n := by
    rw [Int.tmod_eq_emod_of_nonneg h2]
    exact Int.emod_nonneg _ (by omega)
  have h4 : Int.tmod (a % 18446744073709551616) n < n := by
    rw [Int.tmod_eq_emod_of_nonneg h2]
    exact Int.emod_lt_of_pos _ h0
  refine ⟨Int.tmod (a % 18446744073709551616) n, ?_, h3, h4⟩
  unfold gridmarketmake_Mod.f
  rw [e, e2, if_neg (by omega), w64 (by omega) (by omega)]

/-- The law's loads. -/
structure Good (L : List S25) : Prop where
  amt : ∀ i : Nat, i < L.length → 0 ≤ am L i ∧ am L i < 30
  mer : ∀ i : Nat, i < L.length → me L i = 0 ∨ me L i = 1 ∨ me L i = 2
theorem Good.small {L : List S25} (h : Good L) (hl : L.length ≤ 32) : Small L := ⟨hl, fun i hi => ⟨(h.amt i hi).1, Int.le_of_lt (h.amt i hi).2⟩⟩

theorem rd_app {L : List S25} {x : S25} {i : Nat} (hi : i < L.length) : rd_T25 (L ++ [x]) i = rd_T25 L i := by
  unfold rd_T25
  rw [List.getD_eq_getElem?_getD, List.getD_eq_getElem?_getD, Int.toNat_natCast, List.getElem?_append_left hi]
theorem rd_last {L : List S25} {x : S25} : rd_T25 (L ++ [x]) (L.length : Nat) = x := by
  unfold rd_T25
  rw [List.getD_eq_getElem?_getD, Int.toNat_natCast, List.getElem?_append_right (Nat.le_refl _)]
  simp
theorem Good.app {L : List S25} (h : Good L) {x : S25} (h1 : 0 ≤ x.f0 ∧ x.f0 < 30) (h2 : x.f1 = 0 ∨ x.f1 = 1 ∨ x.f1 = 2) : Good (L ++ [x]) := by
  have hl : (L ++ [x]).length = L.length + 1 := by simp
  constructor
  · intro i hi
    unfold am
    by_cases e : i = L.length
    · rw [e, rd_last]
      exact h1
    · rw [rd_app (by omega)]
      exact h.amt i (by omega)
  · intro i hi
    unfold me
    by_cases e : i = L.length
    · rw [e, rd_last]
      exact h2
    · rw [rd_app (by omega)]
      exact h.mer i (by omega)
theorem sm_app {L : List S25} {x : S25} : sm (L.length + 1) (am (L ++ [x])) = sm L.length (am L) + x.f0 := by
  show sm L.length (am (L ++ [x])) + am (L ++ [x]) (L.length : Nat) = _
  have e1 : sm L.length (am (L ++ [x])) = sm L.length (am L) := sm_congr _ fun i hi => by
    show (rd_T25 (L ++ [x]) i).f0 = (rd_T25 L i).f0
    rw [rd_app hi]
  have e2 : am (L ++ [x]) (L.length : Nat) = x.f0 := by
    show (rd_T25 (L ++ [x]) (L.length : Nat)).f0 = x.f0
    rw [rd_last]
  rw [e1, e2]

def lend (k : Nat) (a1 : Int) (L : List S25) (s : Int) : Option Bool := (gridmarketmake_Mod.f a1 (wrap64 (s + 1))).bind fun t167 => ((executive_Curtail.f k L t167).bind fun bt168 => ((gridmarketlaw43_awake.f k).bind fun t172 => (if t172 = true then (if bt168.2 = 0 then (gridmarketlaw43_ExecutiveFair.j1 k t167 L bt168.1 ((bt168.1.length : Int) != (L.length : Int))) else (gridmarketlaw43_ExecutiveFair.j1 k t167 L bt168.1 true)) else (gridmarketlaw43_ExecutiveFair.j1 k t167 L bt168.1 true))))

theorem law_l0 (raw : List Int) (a1 : Int) (hraw : raw.length ≤ 32) (hEnd : ∀ L : List S25, L.length = raw.length → Good L → Ev (fun k => lend k a1 L (sm L.length (am L))) true) :
    ∀ n i : Nat, i + n = raw.length → ∀ L : List S25, L.length = i → Good L → Ev (fun k => gridmarketlaw43_ExecutiveFair.l0 k raw a1 L (sm i (am L)) i) true
  | 0, i, hi, L, hL, hg => by
    have e : i = raw.length := by omega
    have c1 : ¬ (i : Int) < (raw.length : Int) := by omega
    have h := hEnd L (by omega) hg
    rw [hL] at h
    refine Ev.succ (fun k => ?_) h
    rw [gridmarketlaw43_ExecutiveFair.l0, if_neg c1]
    rfl
  | n + 1, i, hi, L, hL, hg => by
    have hil : i < raw.length := by omega
    have c1 : (i : Int) < (raw.length : Int) := Int.ofNat_lt.2 hil
    have c2 : (0 : Int) ≤ (i : Int) := Int.natCast_nonneg i
    obtain ⟨t, ht, ht0, ht1⟩ := mod_ok (rd raw i) 30 (by decide) (by decide)
    obtain ⟨m, hm, hm0, hm1⟩ := mod_ok (wrap64 (Int.tdiv (rd raw i) 30)) 3 (by decide) (by decide)
    have hg2 := hg.app (x := ⟨t, m⟩) ⟨ht0, ht1⟩ (by show m = 0 ∨ m = 1 ∨ m = 2; omega)
    have hl2 : (L ++ [(⟨t, m⟩ : S25)]).length = i + 1 := by rw [List.length_append, hL, List.length_singleton]
    have ih := law_l0 raw a1 hraw hEnd n (i + 1) (by omega) (L ++ [⟨t, m⟩]) hl2 hg2
    have c3 : L.length < 8796093022208 := by omega
    have c4 : (i : Int) < ((L ++ [(⟨t, m⟩ : S25)]).length : Int) := by rw [hl2]; omega
    have e1 : (rd_T25 (L ++ [(⟨t, m⟩ : S25)]) (i : Int)).f0 = t := by
      rw [← hL, rd_last]
    have e2 : sm (i + 1) (am (L ++ [(⟨t, m⟩ : S25)])) = sm i (am L) + t := by
      rw [← hL]
      exact sm_app
    have hb0 : 0 ≤ sm i (am L) := sm_nonneg i fun j hj => (hg.amt j (by omega)).1
    have hb1 : sm i (am L) ≤ i * 30 := sm_bound i fun j hj => Int.le_of_lt (hg.amt j (by omega)).2
    have e3 : wrap64 (sm i (am L) + t) = sm i (am L) + t := w64 (by omega) (by omega)
    refine Ev.succ (fun k => ?_) ih
    rw [gridmarketlaw43_ExecutiveFair.l0, if_pos c1, if_pos c2, ht, Option.bind_some, hm, Option.bind_some, if_pos c3, Option.bind_some, if_pos c4, e1, e2, e3, ar2 hil hraw]

/-! ### The checks of the answer -/
def cT (L : List S25) (f : Int → Int) (m : Int) (i : Nat) : Int := sm i fun j => if me L j = m then f j else 0
theorem cT_bound {L : List S25} {f : Int → Int} {m : Int} (hf : ∀ i : Nat, i < L.length → 0 ≤ f i ∧ f i ≤ 30) (i : Nat) (hi : i ≤ L.length) : 0 ≤ cT L f m i ∧ cT L f m i ≤ i * 30 := by
  refine ⟨sm_nonneg i fun j hj => ?_, sm_bound i fun j hj => ?_⟩
  · have := hf j (by omega)
    split <;> omega
  · have := hf j (by omega)
    split <;> omega
def row3 (L : List S25) (f : Int → Int) (i : Nat) : List Int := [cT L f 0 i, cT L f 1 i, cT L f 2 i]
theorem row3_step {L : List S25} {f : Int → Int} (hf : ∀ i : Nat, i < L.length → 0 ≤ f i ∧ f i ≤ 30) {i : Nat} (hi : i < L.length) (h32 : L.length ≤ 32) (hm : me L i = 0 ∨ me L i = 1 ∨ me L i = 2) :
    (row3 L f i).set (me L i).toNat (wrap64 (rd (row3 L f i) (me L i) + f i)) = row3 L f (i + 1) := by
  have h1 : ∀ m, cT L f m (i + 1) = cT L f m i + if me L i = m then f i else 0 := fun m => rfl
  have h2 := fun m => cT_bound (m := m) hf i (by omega)
  have h3 := hf i hi
  have h4 : ∀ m, wrap64 (cT L f m i + f i) = cT L f m i + f i := fun m => by
    have := h2 m
    exact w64 (by omega) (by omega)
  unfold row3
  rw [h1, h1, h1]
  rcases hm with e | e | e
  · rw [e]
    show [wrap64 (cT L f 0 i + f i), cT L f 1 i, cT L f 2 i] = _
    rw [h4]
    simp
  · rw [e]
    show [cT L f 0 i, wrap64 (cT L f 1 i + f i), cT L f 2 i] = _
    rw [h4]
    simp
  · rw [e]
    show [cT L f 0 i, cT L f 1 i, wrap64 (cT L f 2 i + f i)] = _
    rw [h4]
    simp
theorem rd_row3 (L : List S25) (f : Int → Int) (i : Nat) {m : Int} (hm : m = 0 ∨ m = 1 ∨ m = 2) : rd (row3 L f i) m = cT L f m i := by
  rcases hm with rfl | rfl | rfl <;> rfl

theorem law_l1 {L : List S25} (hg : Good L) (h32 : L.length ≤ 32) {need : Int} {cuts : List Int} (hF : Fin L need cuts) (hEnd : Ev (fun k => gridmarketlaw43_ExecutiveFair.l2 k need L cuts (sm L.length fun i => rd cuts i) (row3 L (fun i => rd cuts i) L.length) (row3 L (am L) L.length) 1) true) :
    ∀ n i : Nat, i + n = L.length → Ev (fun k => gridmarketlaw43_ExecutiveFair.l1 k need L cuts (sm i fun i => rd cuts i) (row3 L (fun i => rd cuts i) i) (row3 L (am L) i) i) true
  | 0, i, hi => by
    have e : i = L.length := by omega
    have c1 : ¬ (i : Int) < (cuts.length : Int) := by rw [hF.len]; omega
    rw [e] at c1 ⊢
    exact Ev.succ (fun k => by rw [gridmarketlaw43_ExecutiveFair.l1, if_neg c1]) hEnd
  | n + 1, i, hi => by
    have ih := law_l1 hg h32 hF hEnd n (i + 1) (by omega)
    have hil : i < L.length := by omega
    have c0 : (i : Int) < (cuts.length : Int) := by rw [hF.len]; omega
    have c1 : (i : Int) < (L.length : Int) := Int.ofNat_lt.2 hil
    have c2 : (0 : Int) ≤ (i : Int) := Int.natCast_nonneg i
    have hlow := hF.low i hil
    have ham := hg.amt i hil
    have hm := hg.mer i hil
    have c3 : ¬ rd cuts i < 0 := by omega
    have c4 : ¬ rd cuts i > am L i := by omega
    have c5 : 0 ≤ me L i := by omega
    have c6 : me L i < 3 := by omega
    have e1 : (rd_T25 L i).f0 = am L i := rfl
    have e2 : (rd_T25 L i).f1 = me L i := rfl
    have hf1 : ∀ i : Nat, i < L.length → 0 ≤ (fun i => rd cuts i) (i : Int) ∧ (fun i => rd cuts i) (i : Int) ≤ 30 := fun j hj => by
      have h1 := hF.low j hj
      have h2 := hg.amt j hj
      show 0 ≤ rd cuts j ∧ rd cuts j ≤ 30
      omega
    have hf2 : ∀ i : Nat, i < L.length → 0 ≤ am L i ∧ am L i ≤ 30 := fun j hj => by
      have h2 := hg.amt j hj
      omega
    have s1 := row3_step hf1 hil h32 hm
    have s2 := row3_step hf2 hil h32 hm
    have hb0 : 0 ≤ sm i fun i => rd cuts i := sm_nonneg i fun j hj => (hf1 j (by omega)).1
    have hb1 : (sm i fun i => rd cuts i) ≤ i * 30 := sm_bound i fun j hj => (hf1 j (by omega)).2
    have e3 : wrap64 ((sm i fun i => rd cuts i) + rd cuts i) = sm (i + 1) fun i => rd cuts i := w64 (by omega) (by omega)
    refine Ev.succ (fun k => ?_) ih
    rw [gridmarketlaw43_ExecutiveFair.l1, if_pos c0, if_pos c2, if_neg c3, if_pos c1, e1, e2, if_neg c4, if_pos c5, if_pos c6, e3, s2, ar2 hil h32]
    rw [← s1]
end Go.Proofs.Fair
