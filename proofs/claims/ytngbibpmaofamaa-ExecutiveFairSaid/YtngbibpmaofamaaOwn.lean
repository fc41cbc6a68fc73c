/- A row of numbers of the call's own, in the print's words and in the sort's: from the one to the other. -/
import Derived.Test.YtngbibpmaofamaaWWords
import Derived.Test.YtngbibpmaofamaaWKept
import Derived.Test.YtngbibpmaofamaaWMore
import Derived.Shelf.GgSortFunc.SW
namespace Go.Proofs.Own
open Go.RowKit Go.Sort Go.Proofs.YtngbibpmaofamaaW.PrintWords

theorem reps_int (k : IntKind) (w : World) (base : Nat) (ok : Nat → Prop) (ps : List Int) (cs : List Value) : Reps ((Kd.int k).M w base ok) (Kd.int k).sz ps cs ↔ cs = ps.map (Value.int k) := by
  constructor
  · rintro ⟨h1, h2⟩
    have h1' : cs.length = ps.length * 1 := h1
    apply List.ext_getElem
    · simp; omega
    · intro j h3 h4
      have hj : j < ps.length := by simpa using h4
      have h5 := h2 j ps[j] (List.getElem?_eq_getElem hj)
      have h6 : (cs.drop (j * 1)).take 1 = [Value.int k ps[j]] := h5
      rw [Nat.mul_one, List.drop_eq_getElem_cons h3, List.take_succ_cons] at h6
      simpa using (List.cons.inj h6).1
  · rintro rfl
    refine ⟨by show _ = _ * 1; simp, fun j p hj => ?_⟩
    show ((List.map (Value.int k) ps).drop (j * 1)).take 1 = [Value.int k p]
    have hl := (List.getElem?_eq_some_iff.1 hj).1
    have hp := (List.getElem?_eq_some_iff.1 hj).2
    rw [Nat.mul_one, List.drop_eq_getElem_cons (by simpa using hl), List.take_succ_cons, List.take_zero, List.getElem_map, hp]

theorem R_int_open {k : IntKind} {e : Nat} {w : World} {base : Nat} {P : Nat → Prop} {u : Value} {l : List Int} (h : Kd.R (Kd.int k) e w base P u l) :
    (u = .slice none 0 0 ∧ l = []) ∨ ∃ g cap cur, u = .slice (some ⟨g, 0, none⟩) l.length cap ∧ P g ∧ base ≤ g ∧ w.heap[g]? = some (.cells cur e (0, 0)) ∧ l.length ≤ cap ∧ cap ≤ maxLen ∧ cur.size = cap ∧ cur.toList.take l.length = l.map (Value.int k) := by
  obtain ⟨h0, inner, ⟨h1, h2⟩, hr⟩ := h
  rw [reps_int] at hr
  subst hr
  rcases h2 with ⟨rfl, hn⟩ | ⟨g, cap, cur, rfl, hb, hh, hle, hm, hs, ht⟩
  · exact .inl ⟨rfl, List.eq_nil_of_length_eq_zero hn⟩
  · refine .inr ⟨g, cap, cur, rfl, h0 g rfl, hb, hh, hle, hm, ?_, ?_⟩
    · have : cur.size = cap * 1 := hs
      omega
    · have : cur.toList.take (l.length * 1) = l.map (Value.int k) := ht
      rwa [Nat.mul_one] at this

theorem R_int_mk {k : IntKind} {e : Nat} {w : World} {base : Nat} {P : Nat → Prop} {l : List Int} {g cap : Nat} {cur : Array Value} (hP : P g) (hb : base ≤ g) (hh : w.heap[g]? = some (.cells cur e (0, 0))) (hle : l.length ≤ cap) (hm : cap ≤ maxLen) (hs : cur.size = cap)
    (ht : cur.toList.take l.length = l.map (Value.int k)) : Kd.R (Kd.int k) e w base P (.slice (some ⟨g, 0, none⟩) l.length cap) l := by
  refine ⟨fun j hj => ?_, l.map (Value.int k), ⟨by show _ = _ * 1; simp, .inr ⟨g, cap, cur, rfl, hb, hh, hle, hm, ?_, ?_⟩⟩, (reps_int k _ _ _ _ _).2 rfl⟩
  · have : g = j := by simpa [Value.ownBlock] using hj
    exact this ▸ hP
  · show cur.size = cap * 1
    omega
  · show cur.toList.take (l.length * 1) = _
    rwa [Nat.mul_one]

/-! ### What a world of the sort's has turned -/
theorem heap_mapBlock (w : World) (blk : Nat) (f : Array Value → Array Value) (i : Nat) : (mapBlock w blk f).heap[i]? = if blk = i then (w.heap[i]?).map (onCells f) else w.heap[i]? := by
  unfold mapBlock
  simp only [Array.getElem?_modify]

theorem heap_sortWorld_other (enc : Int → Value) (w : World) (blk off m : Nat) (d : Array Int) (os : Array Obj) (i : Nat) (hi : i < w.heap.size) (hne : i ≠ blk) : (sortWorld enc w blk off m d os).heap[i]? = w.heap[i]? := by
  unfold sortWorld putRow grow
  have e : ((mapBlock (Sort.ahead w m) blk (putCells enc off d)).heap ++ os)[i]? = (mapBlock (Sort.ahead w m) blk (putCells enc off d)).heap[i]? := Array.getElem?_append_left (by simpa [mapBlock, Sort.ahead] using hi)
  show ((mapBlock (Sort.ahead w m) blk (putCells enc off d)).heap ++ os)[i]? = _
  rw [e, heap_mapBlock, if_neg (Ne.symm hne)]
  rfl

theorem heap_sortWorld_row (enc : Int → Value) (w : World) (blk off m : Nat) (d : Array Int) (os : Array Obj) {cur : Array Value} {e : TypeId} {fr : Nat × Nat} (hh : w.heap[blk]? = some (.cells cur e fr)) : (sortWorld enc w blk off m d os).heap[blk]? = some (.cells (putCells enc off d cur) e fr) := by
  have hi : blk < w.heap.size := (Array.getElem?_eq_some_iff.1 hh).1
  unfold sortWorld putRow grow
  have e1 : ((mapBlock (Sort.ahead w m) blk (putCells enc off d)).heap ++ os)[blk]? = (mapBlock (Sort.ahead w m) blk (putCells enc off d)).heap[blk]? := Array.getElem?_append_left (by simpa [mapBlock, Sort.ahead] using hi)
  show ((mapBlock (Sort.ahead w m) blk (putCells enc off d)).heap ++ os)[blk]? = _
  rw [e1, heap_mapBlock, if_pos rfl]
  show (w.heap[blk]?).map _ = _
  rw [hh]
  rfl

theorem size_sortWorld (enc : Int → Value) (w : World) (blk off m : Nat) (d : Array Int) (os : Array Obj) : w.heap.size ≤ (sortWorld enc w blk off m d os).heap.size := by
  unfold sortWorld
  rw [size_grow, Go.Proofs.size_putRow]
  show w.heap.size ≤ w.heap.size + _
  omega

theorem take_putCells (k : IntKind) (d : List Int) (cur : Array Value) (hd : d.length ≤ cur.size) : (putCells (Value.int k) 0 d.toArray cur).toList.take d.length = d.map (Value.int k) := by
  apply List.ext_getElem
  · simp [putCells]; omega
  · intro j h1 h2
    have hj : j < d.length := by simpa using h2
    simp only [List.getElem_take, Array.getElem_toList, putCells, Array.getElem_mapIdx, List.getElem_map]
    rw [if_pos ⟨Nat.zero_le _, by simpa using hj⟩]
    simp [hj]

theorem size_putCells (enc : Int → Value) (off : Nat) (d : Array Int) (cur : Array Value) : (putCells enc off d cur).size = cur.size := by simp [putCells]

theorem take_putCells2 (k : IntKind) (d1 d2 : List Int) (cur : Array Value) (hd : (d1 ++ d2).length ≤ cur.size) : (putCells (Value.int k) 0 (d1 ++ d2).toArray cur).toList.take d1.length = d1.map (Value.int k) := by
  have h := take_putCells k (d1 ++ d2) cur hd
  have h2 := congrArg (List.take d1.length) h
  rw [List.take_take, List.map_append, List.take_left' (by simp)] at h2
  rw [← h2]
  congr 1
  simp

/-- A world of the sort's, seen by whoever handed the row over. -/
theorem sorted_world {k : IntKind} {w0 w W : World} {P : Nat → Prop} {d d2 : List Int} {g cap m : Nat} {cur : Array Value} {os : Array Obj} {e : Nat} (hB : Go.RowKit.Below w0.heap.size w0 w) (hP : P g) (hb : w0.heap.size ≤ g)
    (hh : w.heap[g]? = some (.cells cur e (0, 0))) (hm : cap ≤ maxLen) (hs : cur.size = cap) (hd : (d ++ d2).length ≤ cap) (hos : W = sortWorld (Value.int k) w g 0 m (d ++ d2).toArray os) (htape : W.tape = w.tape) (hout : W.output = w.output) (hoss : W.os = w.os) :
    Kd.R (Kd.int k) e W w0.heap.size (fun k_ => (P k_ ∨ w.heap.size ≤ k_)) (.slice (some ⟨g, 0, none⟩) d.length cap) d ∧ Go.RowKit.Below w0.heap.size w0 W ∧ Kept w W (fun k_ => P k_) := by
  subst hos
  have hg : g < w.heap.size := (Array.getElem?_eq_some_iff.1 hh).1
  have hl : d.length ≤ cap := by rw [List.length_append] at hd; omega
  refine ⟨R_int_mk (.inl hP) hb (heap_sortWorld_row _ _ _ _ _ _ _ hh) hl hm (by rw [size_putCells, hs]) (take_putCells2 k d d2 cur (by rw [hs]; exact hd)), hB.trans ⟨hoss, htape, hout, size_sortWorld _ _ _ _ _ _ _, fun i hi => heap_sortWorld_other _ _ _ _ _ _ _ i (Nat.lt_of_lt_of_le hi hB.size) (by omega)⟩, size_sortWorld _ _ _ _ _ _ _, fun i hi hn => heap_sortWorld_other _ _ _ _ _ _ _ i hi (fun e => hn (e ▸ hP))⟩

theorem holds_of_cells {k : IntKind} {w : World} {l : List Int} {g : Nat} {cur : Array Value} {e : Nat} (hh : w.heap[g]? = some (.cells cur e (0, 0))) (ht : cur.toList.take l.length = l.map (Value.int k)) : Holds (Value.int k) w g 0 l.toArray := by
  intro j hj
  have hj' : j < l.length := by simpa using hj
  constructor
  · unfold World.cell?
    simp only [hh, Nat.zero_add]
    have h1 : (cur.toList.take l.length)[j]? = (l.map (Value.int k))[j]? := by rw [ht]
    rw [List.getElem?_take, if_pos hj', List.getElem?_map, List.getElem?_eq_getElem hj'] at h1
    simp only [Option.map_some] at h1
    rw [Array.getElem?_toList] at h1
    simp [h1, hj']
  · simp [World.frozen?, hh]
/-! ### Arrays of numbers: rows whose block bears the array's own type -/
theorem add_mk0 (g n : Nat) : (⟨g, 0, none⟩ : Addr).add n = ⟨g, n, none⟩ := by
  unfold Addr.add
  split
  · next h => rw [h]
  · simp

theorem arr_event {P : Program} {ops : Array Oper} {Q : Exit → Act → World → Prop} {rest : List Oper} {a : Act} {o : Oper} {w0 W : World} {base e : Nat} {N : Tmp} (hgd : o.guard = none) (_hd : o.dst = some N) (n : Nat)
    (hrun : (execOp a.eval o).run P W = .ok (.value (.pointer (some ⟨W.heap.size, 0, none⟩))) (W.alloc (.cells (Array.replicate n (.int .i64 0)) e (0, 0)))) (hn : n ≤ maxLen) {ok : Nat → Prop} (hfresh : ok W.heap.size) (HB : Below base w0 W) (hbase : base ≤ W.heap.size)
    (h : ∀ g w1, Kd.R (Kd.int .i64) e w1 base ok (.slice (some ⟨g, 0, none⟩) n n) (List.replicate n 0) → Below base w0 w1 → W.grownBy w1 none → (∃ b, (Value.slice (some ⟨g, 0, none⟩) n n).ownBlock = some b ∧ W.heap.size ≤ b) → wpList P ops Q rest (a.put o.dst (.pointer (some ⟨g, 0, none⟩))) w1) : wpList P ops Q (o :: rest) a W := by
  refine Kd.event_run hgd hrun (h W.heap.size _ ?_ (HB.alloc hbase _) (World.grownBy_alloc W _ none) ⟨W.heap.size, by simp [Value.ownBlock], Nat.le_refl _⟩)
  have z := R_int_mk (k := .i64) (e := e) (w := W.alloc (.cells (Array.replicate n (.int .i64 0)) e (0, 0))) (base := base) (P := ok) (l := List.replicate n 0) (g := W.heap.size) (cap := n) (cur := Array.replicate n (.int .i64 0)) hfresh hbase (blk_new W _) (by simp) hn (by simp) (by simp)
  simpa using z

end Go.Proofs.Own
