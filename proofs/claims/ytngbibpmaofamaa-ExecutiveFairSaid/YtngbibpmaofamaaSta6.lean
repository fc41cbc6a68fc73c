/- slices.SortStableFunc at []int, fewer than 40 elements: what it does to the row. -/
import Derived.Test.YtngbibpmaofamaaSta5
import Derived.Outline
namespace Go.Proofs.StabW
open Go.Shelf Go.RowKit Go.Lib Go.Sort Go.Proofs.Stab
variable {α : Type} [Inhabited α]

theorem symMerge_s (enc : α → Value) (cf : α → α → Int) (g : Nat) (cb : Array Value) (blk off cap : Nat) (d0 : Array α) (w0 : World)
    (eg : ∀ args w, (callFunc g args).run Try.prog w = .ok (.enter g args) w) (hcmp : CmpLays1 Try.prog g cb enc cf blk off d0.size w0) (R : Row1 enc w0 blk off d0) (hsz : d0.size < 4611686018427387904) :
    ∀ k, SymAt enc cf g cb blk off cap d0 w0 k := by
  intro k
  induction k with
  | zero => intro a m b d w h1 h2 h3; omega
  | succ k ih =>
    intro a m b d w hk ham hmb hb hs S
    by_cases c1 : m - a = 1
    · have h := symL enc cf g cb blk off cap a m b d0 d w0 w eg hcmp R hs.symm S (by omega) hmb (by omega) (by omega)
      rw [hs] at h
      exact h.mono fun e w' ⟨h1, h2⟩ => ⟨h1, by rw [symMerge, if_pos c1]; exact h2⟩
    · by_cases c2 : b - m = 1
      · have h := symR enc cf g cb blk off cap a m b d0 d w0 w eg hcmp R hs.symm S (by omega) (by omega) (by omega) (by omega)
        rw [hs] at h
        exact h.mono fun e w' ⟨h1, h2⟩ => ⟨h1, by rw [symMerge, if_neg c1, if_pos c2]; exact h2⟩
      · exact symMain enc cf g cb blk off cap a m b k d0 d w0 w eg hcmp R hs S (by omega) (by omega) hb hsz hk ih

theorem insOuter_size (lt : α → α → Bool) (a b : Nat) : ∀ (n i : Nat) (d : Array α), b - i ≤ n → (insOuter lt a b i d).size = d.size := by
  intro n
  induction n with
  | zero => intro i d h; rw [insOuter, if_neg (by omega)]
  | succ n ih =>
    intro i d h
    rw [insOuter]
    split
    · rw [ih _ _ (by omega), insInner_size]
    · rfl
where
  insInner_size (lt : α → α → Bool) (a : Nat) : ∀ (j : Nat) (d : Array α), (insInner lt a j d).size = d.size
    | 0, d => by rw [insInner]
    | j + 1, d => by
      rw [insInner]
      split
      · rw [insInner_size lt a j, size_swp]
      · rfl
theorem insertion_size (lt : α → α → Bool) (d : Array α) (a b : Nat) : (insertionSort lt d a b).size = d.size := by
  unfold insertionSort
  exact insOuter_size lt a b _ _ _ (Nat.le_refl _)

theorem ins_s (enc : α → Value) (cf : α → α → Int) (g : Nat) (cb : Array Value) (blk off cap a b : Nat) (d0 d : Array α) (w0 w : World)
    (eg : ∀ args w, (callFunc g args).run Try.prog w = .ok (.enter g args) w) (hcmp : CmpLays1 Try.prog g cb enc cf blk off d0.size w0) (R : Row1 enc w0 blk off d0) (hs : d.size = d0.size) (S : SW enc w0 blk off d w) (hab : a ≤ b) (hb : b ≤ d0.size) (hsz : d0.size < 4611686018427387904) :
    Calls Try.prog 138 #[.slice (some ⟨blk, off, none⟩) d0.size cap, .int .i64 a, .int .i64 b, .func (.func g) #[] cb] w fun e w' => e = .returned (.tuple #[]) ∧ SW enc w0 blk off (Sort.insertionSort (clt cf) d a b) w' := by
  have h := insertion_s enc cf g cb blk off cap a b d0 d w0 w eg hcmp R hs.symm S hab (by omega) (by omega)
  rw [hs] at h
  exact h

set_option maxHeartbeats 4000000 in
set_option maxRecDepth 1000000 in
theorem stable_small (enc : α → Value) (cf : α → α → Int) (g : Nat) (cb : Array Value) (blk off cap : Nat) (d : Array α) (w : World)
    (eg : ∀ args w, (callFunc g args).run Try.prog w = .ok (.enter g args) w) (hcmp : CmpLays1 Try.prog g cb enc cf blk off d.size w) (R : Row1 enc w blk off d) (hn : d.size < 20) :
    Calls Try.prog 97 #[.slice (some ⟨blk, off, none⟩) d.size cap, .int .i64 (d.size : Nat), .func (.func g) #[] cb] w fun e w' => e = .returned (.tuple #[]) ∧ SW enc w blk off (stable40 cf d d.size) w' := by
  have H1 := ins_s enc cf g cb blk off cap 0 d.size d d w w eg hcmp R rfl (SW.start R.hH) (by omega) (by omega) (by omega)
  have F : Hid (stable40 cf d d.size = insertionSort (clt cf) d 0 d.size) := by unfold stable40; dsimp only; rw [if_neg (by omega), if_neg (by omega)]; exact rfl
  rw [F.out]
  have HH1 := Lib.hid H1
  clear H1 hcmp R
  go_enter Try.func97, Try.ntmps97
  go_wp2
  refine wp_loop_rounds 1 ?_
  rw [rounds_succ]
  go_wp2_with fail
  refine HH1.out.mono ?_
  rintro e w' ⟨rfl, S2⟩
  have S3 := Lib.hid S2
  clear S2
  go_wp2
  refine wp_loop_rounds 1 ?_
  rw [rounds_succ]
  go_wp2
  go_end0
  exact ⟨rfl, S3.out⟩

set_option maxHeartbeats 4000000 in
set_option maxRecDepth 1000000 in
theorem stable_mid (enc : α → Value) (cf : α → α → Int) (g : Nat) (cb : Array Value) (blk off cap : Nat) (d : Array α) (w : World)
    (eg : ∀ args w, (callFunc g args).run Try.prog w = .ok (.enter g args) w) (hcmp : CmpLays1 Try.prog g cb enc cf blk off d.size w) (R : Row1 enc w blk off d) (hn : 20 ≤ d.size) (hn2 : d.size < 40) :
    Calls Try.prog 97 #[.slice (some ⟨blk, off, none⟩) d.size cap, .int .i64 (d.size : Nat), .func (.func g) #[] cb] w fun e w' => e = .returned (.tuple #[]) ∧ SW enc w blk off (stable40 cf d d.size) w' := by
  obtain ⟨d1, hd1⟩ : ∃ x, x = insertionSort (clt cf) d 0 20 := ⟨_, rfl⟩
  have H1 : Calls Try.prog 138 #[.slice (some ⟨blk, off, none⟩) d.size cap, .int .i64 0, .int .i64 20, .func (.func g) #[] cb] w fun e w' => e = .returned (.tuple #[]) ∧ SW enc w blk off d1 w' := by
    rw [hd1]; exact ins_s enc cf g cb blk off cap 0 20 d d w w eg hcmp R rfl (SW.start R.hH) (by omega) (by omega) (by omega)
  have Z1 : d1.size = d.size := by
    rw [hd1]
    exact insertion_size _ _ _ _
  obtain ⟨d2, hd2⟩ : ∃ x, x = insertionSort (clt cf) d1 20 d.size := ⟨_, rfl⟩
  have H2 : ∀ W, SW enc w blk off d1 W → Calls Try.prog 138 #[.slice (some ⟨blk, off, none⟩) d.size cap, .int .i64 20, .int .i64 (d.size : Nat), .func (.func g) #[] cb] W fun e w' => e = .returned (.tuple #[]) ∧ SW enc w blk off d2 w' := fun W hW => by
    rw [hd2]; exact ins_s enc cf g cb blk off cap 20 d.size d d1 w W eg hcmp R Z1 hW (by omega) (by omega) (by omega)
  have Z2 : d2.size = d.size := by
    rw [hd2, insertion_size, Z1]
  have H3 : ∀ W, SW enc w blk off d2 W → 20 < d.size → Calls Try.prog 139 #[.slice (some ⟨blk, off, none⟩) d.size cap, .int .i64 0, .int .i64 20, .int .i64 (d.size : Nat), .func (.func g) #[] cb] W fun e w' => e = .returned (.tuple #[]) ∧ SW enc w blk off (symMerge cf d.size 0 20 d.size d2) w' := fun W hW h =>
    symMerge_s enc cf g cb blk off cap d w eg hcmp R (by omega) d.size 0 20 d.size d2 W (by omega) (by omega) h (by omega) Z2 hW
  have F : Hid (stable40 cf d d.size = if 20 < d.size then symMerge cf d.size 0 20 d.size d2 else d2) := by unfold stable40; dsimp only; rw [if_pos hn, ← hd1, ← hd2]; exact rfl
  rw [F.out]
  have HH1 := Lib.hid H1
  have HH2 := Lib.hid H2
  have HH3 := Lib.hid H3
  clear H1 H2 H3 hcmp R hd1 hd2 Z1 Z2
  have i1 : (20 : Int) ≤ (d.size : Int) := by omega
  have i2 : ¬ (40 : Int) ≤ (d.size : Int) := by omega
  have i3 : ¬ (40 : Int) < (d.size : Int) := by omega
  by_cases h : 20 < d.size
  · have i4 : (20 : Int) < (d.size : Int) := by omega
    rw [if_pos h]
    go_enter Try.func97, Try.ntmps97
    go_wp2
    refine wp_loop_rounds 2 ?_
    rw [rounds_succ]
    go_wp2_with fail
    refine HH1.out.mono ?_
    rintro e w1 ⟨rfl, S2⟩
    have S3 := Lib.hid S2
    clear S2
    go_wp2
    rw [rounds_succ]
    go_wp2_with fail
    refine (HH2.out _ S3.out).mono ?_
    rintro e w2 ⟨rfl, S2⟩
    have S4 := Lib.hid S2
    clear S2
    go_wp2
    refine wp_loop_rounds 2 ?_
    rw [rounds_succ]
    go_wp2
    refine wp_loop_rounds 1 ?_
    rw [rounds_succ]
    go_wp2_with fail
    refine (HH3.out _ S4.out h).mono ?_
    rintro e w3 ⟨rfl, S2⟩
    have S5 := Lib.hid S2
    clear S2
    go_wp2
    rw [rounds_succ]
    go_wp2
    go_end0
    exact ⟨rfl, S5.out⟩
  · have i4 : ¬ (20 : Int) < (d.size : Int) := by omega
    rw [if_neg h]
    go_enter Try.func97, Try.ntmps97
    go_wp2
    refine wp_loop_rounds 2 ?_
    rw [rounds_succ]
    go_wp2_with fail
    refine HH1.out.mono ?_
    rintro e w1 ⟨rfl, S2⟩
    have S3 := Lib.hid S2
    clear S2
    go_wp2
    rw [rounds_succ]
    go_wp2_with fail
    refine (HH2.out _ S3.out).mono ?_
    rintro e w2 ⟨rfl, S2⟩
    have S4 := Lib.hid S2
    clear S2
    go_wp2
    refine wp_loop_rounds 1 ?_
    rw [rounds_succ]
    go_wp2
    go_end0
    exact ⟨rfl, S4.out⟩

set_option maxHeartbeats 1000000 in
theorem sortStable_s (enc : α → Value) (cf : α → α → Int) (g : Nat) (cb : Array Value) (blk off cap : Nat) (d : Array α) (w : World)
    (eg : ∀ args w, (callFunc g args).run Try.prog w = .ok (.enter g args) w) (hcmp : CmpLays1 Try.prog g cb enc cf blk off d.size w) (R : Row1 enc w blk off d) (hn : d.size < 40) :
    Calls Try.prog 59 #[.slice (some ⟨blk, off, none⟩) d.size cap, .func (.func g) #[] cb] w fun e w' => e = .returned (.tuple #[]) ∧ SW enc w blk off (stable40 cf d d.size) w' := by
  have H : Calls Try.prog 97 #[.slice (some ⟨blk, off, none⟩) d.size cap, .int .i64 (d.size : Nat), .func (.func g) #[] cb] w fun e w' => e = .returned (.tuple #[]) ∧ SW enc w blk off (stable40 cf d d.size) w' := by
    by_cases h : d.size < 20
    · exact stable_small enc cf g cb blk off cap d w eg hcmp R h
    · exact stable_mid enc cf g cb blk off cap d w eg hcmp R (by omega) hn
  have HH := Lib.hid H
  clear H hcmp R
  go_enter Try.func59, Try.ntmps59
  go_wp2_with fail
  refine HH.out.mono ?_
  rintro e w1 ⟨rfl, S2⟩
  have S3 := Lib.hid S2
  clear S2
  go_wp2
  go_end0
  exact ⟨rfl, S3.out⟩
end Go.Proofs.StabW
