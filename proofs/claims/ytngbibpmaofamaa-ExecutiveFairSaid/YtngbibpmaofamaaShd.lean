/- slices.SortStableFunc by executive.share's comparison: the places, by their remainders descending, equals in order. -/
import Derived.Test.YtngbibpmaofamaaShc
import Derived.Test.YtngbibpmaofamaaOwn
namespace Go.Proofs.Shc
open Go.RowKit Go.Lib Go.Sort Go.Proofs.YtngbibpmaofamaaW.PrintWords Go.Proofs.Own

/-- A place, brought into range. -/
def cl (n : Nat) (x : Int) : Nat := if 0 ≤ x ∧ x < n then x.toNat else 0
def key (n : Nat) (amt : Int → Int) (c s : Int) (x : Int) : Int := rem c (amt (cl n x)) s
def cf (n : Nat) (amt : Int → Int) (c s : Int) (x y : Int) : Int := compareInt (key n amt c s y) (key n amt c s x)
def en (n : Nat) (x : Int) : Value := .int .i64 (cl n x)
/-- The order of it: the greater remainder first, then the lesser place. -/
def lt (n : Nat) (amt : Int → Int) (c s : Int) : Int → Int → Bool := Stab.stl id (cf n amt c s)
def sortG (n : Nat) (amt : Int → Int) (c s : Int) (l : List Int) : List Int := l.mergeSort fun x y => !lt n amt c s y x

theorem cl_in {n : Nat} {x : Int} (h0 : 0 ≤ x) (h1 : x < n) : ((cl n x : Nat) : Int) = x := by unfold cl; rw [if_pos ⟨h0, h1⟩]; omega
theorem cl_lt {n : Nat} (hn : 0 < n) (x : Int) : cl n x < n := by unfold cl; split <;> omega

theorem cmp_neg (a b : Int) : compareInt a b < 0 ↔ a < b := by unfold compareInt; split <;> (try split) <;> omega
theorem cmp_zero (a b : Int) : compareInt a b = 0 ↔ a = b := by unfold compareInt; split <;> (try split) <;> omega

theorem lt_iff (n : Nat) (amt : Int → Int) (c s x y : Int) : lt n amt c s x y = true ↔ key n amt c s y < key n amt c s x ∨ (key n amt c s x = key n amt c s y ∧ x < y) := by
  unfold lt Stab.stl cf
  simp only [Bool.or_eq_true, Bool.and_eq_true, decide_eq_true_eq, cmp_neg, cmp_zero, id]
  constructor
  · rintro (h | ⟨h, h2⟩)
    · exact .inl h
    · exact .inr ⟨h.symm, h2⟩
  · rintro (h | ⟨h, h2⟩)
    · exact .inl h
    · exact .inr ⟨h.symm, h2⟩

theorem swo (n : Nat) (amt : Int → Int) (c s : Int) : SWO (lt n amt c s) :=
  Stab.swo_desc id (key n amt c s) (cf n amt c s) (fun _ _ => cmp_neg _ _) (fun _ _ => (cmp_zero _ _).trans eq_comm)

theorem antisym (n : Nat) (amt : Int → Int) (c s : Int) (x y : Int) (h1 : lt n amt c s x y = false) (h2 : lt n amt c s y x = false) : x = y := by
  have a : ¬ (lt n amt c s x y = true) := by rw [h1]; simp
  have b : ¬ (lt n amt c s y x = true) := by rw [h2]; simp
  rw [lt_iff] at a b
  omega

theorem putCells_congr (n : Nat) (d : Array Int) (cur : Array Value) (h : ∀ i, i < d.size → 0 ≤ d[i]! ∧ d[i]! < n) : putCells (en n) 0 d cur = putCells (Value.int .i64) 0 d cur := by
  apply Array.ext_getElem?
  intro k
  simp only [putCells, Array.getElem?_mapIdx]
  cases cur[k]? with
  | none => rfl
  | some y =>
    simp only [Option.map_some]
    split
    · rename_i hk
      have := h (k - 0) (by omega)
      unfold en
      rw [cl_in this.1 this.2]
    · rfl

theorem getBang (l : List Int) (i : Nat) (hi : i < l.length) : l.toArray[i]! = l[i] := by simp [hi]

theorem stableList (n : Nat) (amt : Int → Int) (c s : Int) (l : List Int) (h40 : l.length < 40) (hasc : l.Pairwise (· < ·)) : (Stab.stable40 (cf n amt c s) l.toArray l.length).toList = sortG n amt c s l := by
  obtain ⟨P, Q⟩ := Stab.stable40_spec id (cf n amt c s) (swo n amt c s) l.toArray l.length h40 (by simp) (fun p q hpq hq => by
    rw [getBang l p (by omega), getBang l q hq]
    exact List.pairwise_iff_getElem.1 hasc p q (by omega) hq hpq)
  have e : l.toArray.size = l.length := by simp
  have h := sorted_unique_holds (lt := lt n amt c s) (swo n amt c s) (antisym n amt c s) l.toArray _ (by rw [e]; exact P) (by rw [e]; exact Q)
  exact h

set_option maxHeartbeats 1000000 in
theorem sorted (P : Nat → Prop) (u : Value) (l : List Int) (g1 g2 g3 : Nat) (c s : Int) (amt : Int → Int) (ad : Addr) (n cp : Nat) (w0 w : World) (hB : Go.RowKit.Below w0.heap.size w0 w) (ho : Kd.R (Kd.int .i64) 3 w w0.heap.size P u l)
    (hb1 : w.heap[g1]? = some (.cells #[.int .i64 c] 3 (0, 0))) (hn1 : ¬ P g1) (hb2 : w.heap[g2]? = some (.cells #[.slice (some ad) n cp] 22 (0, 0))) (hn2 : ¬ P g2) (hb3 : w.heap[g3]? = some (.cells #[.int .i64 s] 3 (0, 0))) (hn3 : ¬ P g3)
    (hr : ∀ W, Kept w W P → ∀ i : Nat, i < n → W.cell? (ad.add (i * 2)) = some (.int .i64 (amt i))) (h0 : 0 < l.length) (h40 : l.length < 40) (hin : ∀ x ∈ l, 0 ≤ x ∧ x < n) (hasc : l.Pairwise (· < ·)) (hs : ¬ s = 0) :
    Calls Try.prog 59 #[u, .func (.func 60) #[] #[.pointer (some ⟨g1, 0, none⟩), .pointer (some ⟨g2, 0, none⟩), .pointer (some ⟨g3, 0, none⟩)]] w fun e w' => e = .returned (.tuple #[]) ∧ Kd.R (Kd.int .i64) 3 w' w0.heap.size (fun k_ => (P k_ ∨ w.heap.size ≤ k_)) u (sortG n amt c s l) ∧ Go.RowKit.Below w0.heap.size w0 w' ∧ Kept w w' (fun k_ => P k_) := by
  have hn0 : 0 < n := by
    obtain ⟨x, hx⟩ : ∃ x, x ∈ l := ⟨l[0], List.getElem_mem _⟩
    have := hin x hx
    omega
  rcases R_int_open ho with ⟨_, rfl⟩ | ⟨g, cap, cur, rfl, hP, hb, hh, hle, hm, hsz, ht⟩
  · simp at h0
  · have hg : g < w.heap.size := (Array.getElem?_eq_some_iff.1 hh).1
    have e : l.toArray.size = l.length := by simp
    have inR : ∀ i, i < l.toArray.size → 0 ≤ l.toArray[i]! ∧ l.toArray[i]! < n := fun i hi => by
      rw [getBang l i (by simpa using hi)]
      exact hin _ (List.getElem_mem _)
    have hH : Holds (en n) w g 0 l.toArray := fun j hj => by
      have h := holds_of_cells (k := .i64) hh ht j hj
      have h2 := inR j hj
      refine ⟨?_, h.2⟩
      rw [h.1]
      unfold en
      rw [cl_in h2.1 h2.2]
    have R : Row1 (en n) w g 0 l.toArray := ⟨fun _ => rfl, hH, hg⟩
    have eg : ∀ args w, (callFunc 60 args).run Try.prog w = .ok (.enter 60 args) w := enters_of Try.func60 (by kernel_rfl) rfl
    have other : ∀ (m : Nat) (os : Array Obj) (dk : Array Int), Kept w (sortWorld (en n) w g 0 m dk os) P := fun m os dk =>
      ⟨size_sortWorld _ _ _ _ _ _ _, fun i hi hn => heap_sortWorld_other _ _ _ _ _ _ _ i hi (fun e => hn (e ▸ hP))⟩
    have cellOf : ∀ (W : World) (q : Nat) (v : Value) (t : Nat), Kept w W P → ¬ P q → w.heap[q]? = some (.cells #[v] t (0, 0)) → W.cell? ⟨q, 0, none⟩ = some v := fun W q v t hk hq hq2 => by
      have := hk.2 q (Array.getElem?_eq_some_iff.1 hq2).1 hq
      simp [World.cell?, this, hq2]
    have hcmp : CmpLays1 Try.prog 60 #[.pointer (some ⟨g1, 0, none⟩), .pointer (some ⟨g2, 0, none⟩), .pointer (some ⟨g3, 0, none⟩)] (en n) (cf n amt c s) g 0 l.toArray.size w := fun m os dk _ x y => by
      have hk := other m os dk
      have h := closure (cl n x) (cl n y) g1 g2 g3 c s (amt (cl n x)) (amt (cl n y)) ad n cp _ (cellOf _ g1 _ _ hk hn1 hb1) (cellOf _ g2 _ _ hk hn2 hb2) (cellOf _ g3 _ _ hk hn3 hb3) (cl_lt hn0 x) (cl_lt hn0 y) (hr _ hk _ (cl_lt hn0 x)) (hr _ hk _ (cl_lt hn0 y)) hs
      exact h.mono fun e w' ⟨he, q, hq⟩ => ⟨he, q, #[], by rw [hq, grow_empty]⟩
    have hst := StabW.sortStable_s (en n) (cf n amt c s) 60 _ g 0 cap l.toArray w eg hcmp R (by rw [e]; exact h40)
    rw [e] at hst
    refine hst.mono fun e2 w' ⟨he, m, os, hw⟩ => ⟨he, ?_⟩
    have hlist := stableList n amt c s l h40 hasc
    obtain ⟨d2, hd2⟩ : ∃ d2, d2 = Stab.stable40 (cf n amt c s) l.toArray l.length := ⟨_, rfl⟩
    rw [← hd2] at hlist hw
    have hperm : (sortG n amt c s l).Perm l := List.mergeSort_perm _ _
    have ed : d2 = (sortG n amt c s l).toArray := by rw [← hlist]
    have in2 : ∀ i, i < d2.size → 0 ≤ d2[i]! ∧ d2[i]! < n := fun i hi => by
      rw [ed] at hi ⊢
      rw [getBang _ i (by simpa using hi)]
      exact hin _ (hperm.mem_iff.1 (List.getElem_mem _))
    have hlen : (sortG n amt c s l).length = l.length := hperm.length_eq
    have z := sorted_world (k := .i64) (W := sortWorld (Value.int .i64) w g 0 m (sortG n amt c s l).toArray os) (d := sortG n amt c s l) (d2 := []) (m := m) (os := os) hB hP hb hh hm hsz (by rw [List.append_nil, hlen]; exact hle) (by rw [List.append_nil]) rfl rfl rfl
    rw [hlen] at z
    have ew : w' = sortWorld (Value.int .i64) w g 0 m (sortG n amt c s l).toArray os := by
      rw [hw, ← ed]
      unfold sortWorld putRow
      congr 1
      refine mapBlock_congr _ _ _ _ fun cc e fr hcc => putCells_congr n d2 cc in2
    rw [ew]
    exact z
end Go.Proofs.Shc
