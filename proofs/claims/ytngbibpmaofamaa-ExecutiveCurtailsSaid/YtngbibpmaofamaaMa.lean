/- The abstract values and heaps of our own, and what it means that a run of the model's machine stands under them. -/
import Derived.Calls
import Derived.Laws.CopyRow
import Derived.RowKit3
import Derived.Laws.StructEq
import Derived.ChangeKeysEq
set_option linter.all false
set_option linter.unusedSimpArgs false
set_option linter.unusedVariables false
-- Ab0
namespace Go.Proofs.Ytngbibpmaofamaa.Ab
open Go

/-- Abstract values: numbers, immutable rows by value, own blocks by number. -/
inductive V where
  | bool (b : Bool)
  | int (k : IntKind) (n : Int)
  | str (s : ByteArray)
  | nilp
  | ptr (b r c : Nat)
  | iptr (cs : List V) (c : Nat)
  | nils
  | sl (sz b off len : Nat) (ex : Bool)
  | imm (xs : List (List V)) (ex : Bool)
  | nilm
  | mp (b : Nat)
  | nilf
  | fn (f : FuncId) (caps : List V)
  | agg (cs : List V)
  | tup (vs : List V)
  | junk
  deriving Inhabited

def V.cells : V → List V
  | .agg cs => cs
  | v => [v]

/-- A value of one cell. -/
def V.one : V → Bool
  | .agg _ | .tup _ | .junk => false
  | _ => true

/-- Where an own block lies: the machine's block, the cell at which it begins, its elements' type, a row's cells, all the block's cells. -/
structure Loc where
  k : Nat
  o : Nat
  e : TypeId
  sz : Nat
  n : Nat

abbrev Part := Nat → Option Obj
abbrev Lay := Nat → Option Loc

inductive VR (F : Part) (ρ : Lay) : V → Value → Prop
  | bool (b : Bool) : VR F ρ (.bool b) (.bool b)
  | int (k : IntKind) (n : Int) : VR F ρ (.int k n) (.int k n)
  | str (s : ByteArray) : VR F ρ (.str s) (.string s)
  | nilp : VR F ρ .nilp (.pointer none)
  | ptr {b r c : Nat} {l : Loc} (h : ρ b = some l) : VR F ρ (.ptr b r c) (.pointer (some ⟨l.k, l.o + r * l.sz + c, none⟩))
  | iptr {cs : List V} {c k o : Nat} {cc : Array Value} {e : TypeId} {fr : Nat × Nat} (y : Nat → Value) (h : F k = some (.cells cc e fr))
      (hc : ∀ (j : Nat) x, cs[j]? = some x → cc[o + j]? = some (y j)) (hv : ∀ (j : Nat) x, cs[j]? = some x → VR F ρ x (y j)) : VR F ρ (.iptr cs c) (.pointer (some ⟨k, o + c, none⟩))
  | nils : VR F ρ .nils (.slice none 0 0)
  | sl {sz b off len : Nat} {ex : Bool} {l : Loc} {a : Addr} {cap : Nat} (h : ρ b = some l) (hz : l.sz = sz) (hl : len ≤ cap) (hx : ex = true → cap = len)
      (hk : a.block = l.k) (hs : a.spot = none) (ha : cap ≠ 0 → a.off = l.o + off * l.sz) (hn : cap ≠ 0 → l.o + (off + cap) * l.sz ≤ l.n) : VR F ρ (.sl sz b off len ex) (.slice (some a) len cap)
  | imm {xs : List (List V)} {ex : Bool} {a : Addr} {cap : Nat} (sz : Nat) (cc : Array Value) (e : TypeId) (fr : Nat × Nat) (y : Nat → Nat → Value) (hl : xs.length ≤ cap) (hx : ex = true → cap = xs.length)
      (hs : xs ≠ [] → a.spot = none) (h : xs ≠ [] → F a.block = some (.cells cc e fr)) (hw : ∀ row ∈ xs, row.length = sz)
      (hc : ∀ (i : Nat) row, xs[i]? = some row → ∀ (j : Nat) x, row[j]? = some x → cc[a.off + i * sz + j]? = some (y i j))
      (hv : ∀ (i : Nat) row, xs[i]? = some row → ∀ (j : Nat) x, row[j]? = some x → VR F ρ x (y i j)) : VR F ρ (.imm xs ex) (.slice (some a) xs.length cap)
  | imm0 : VR F ρ (.imm [] false) (.slice none 0 0)
  | nilm : VR F ρ .nilm (.map none)
  | mp {b : Nat} {l : Loc} (h : ρ b = some l) : VR F ρ (.mp b) (.map (some l.k))
  | nilf : VR F ρ .nilf .nilFunc
  | fn {f : FuncId} {caps : List V} (ys : List Value) (hl : ys.length = caps.length) (h : ∀ (i : Nat) x y, caps[i]? = some x → ys[i]? = some y → VR F ρ x y) :
      VR F ρ (.fn f caps) (.func (.func f) #[] ys.toArray)
  | agg {cs : List V} (ys : List Value) (hl : ys.length = cs.length) (h : ∀ (i : Nat) x y, cs[i]? = some x → ys[i]? = some y → VR F ρ x y) : VR F ρ (.agg cs) (.agg ys.toArray)
  | tup {cs : List V} (ys : List Value) (hl : ys.length = cs.length) (h : ∀ (i : Nat) x y, cs[i]? = some x → ys[i]? = some y → VR F ρ x y) : VR F ρ (.tup cs) (.tuple ys.toArray)
  | junk {v : Value} : VR F ρ .junk v

def Part.le (F F' : Part) : Prop := ∀ k o, F k = some o → F' k = some o
def Lay.le (ρ ρ' : Lay) : Prop := ∀ b l, ρ b = some l → ρ' b = some l
theorem Part.le_refl (F : Part) : F.le F := fun _ _ h => h
theorem Lay.le_refl (F : Lay) : F.le F := fun _ _ h => h
theorem Part.le_trans {F G H : Part} (h : F.le G) (h' : G.le H) : F.le H := fun _ _ x => h' _ _ (h _ _ x)
theorem Lay.le_trans {F G H : Lay} (h : F.le G) (h' : G.le H) : F.le H := fun _ _ x => h' _ _ (h _ _ x)

theorem VR.mono {F F' : Part} {ρ ρ' : Lay} (hF : F.le F') (hρ : ρ.le ρ') {v : V} {u : Value} (h : VR F ρ v u) : VR F' ρ' v u := by
  induction h with
  | bool b => exact .bool b
  | int k n => exact .int k n
  | str s => exact .str s
  | nilp => exact .nilp
  | ptr h => exact .ptr (hρ _ _ h)
  | iptr y h hc hv ih => exact .iptr y (hF _ _ h) hc ih
  | nils => exact .nils
  | sl h hz hl hx hk hs ha hn => exact .sl (hρ _ _ h) hz hl hx hk hs ha hn
  | imm sz cc e fr y hl hx hs h hw hc hv ih => exact .imm sz cc e fr y hl hx hs (fun z => hF _ _ (h z)) hw hc ih
  | imm0 => exact .imm0
  | nilm => exact .nilm
  | mp h => exact .mp (hρ _ _ h)
  | nilf => exact .nilf
  | fn ys hl h ih => exact .fn ys hl ih
  | agg ys hl h ih => exact .agg ys hl ih
  | tup ys hl h ih => exact .tup ys hl ih
  | junk => exact .junk

theorem VR.one {F : Part} {ρ : Lay} {v : V} {u : Value} (h : VR F ρ v u) (h1 : v.one = true) : u.oneCell' = true := by
  cases h <;> first | rfl | exact absurd h1 (by simp [V.one])

inductive Blk where
  | rows (e : TypeId) (xs : List (List V))
  | map (es : List (V × V))
  deriving Inhabited

/-- The own heap: the live blocks by number; the numbers that were ever given. -/
structure H where
  nx : Nat
  get : Nat → Option Blk
  use : Nat → Bool
  wf : ∀ b x, get b = some x → use b = true
  lt : ∀ b, use b = true → b < nx

namespace H
def empty : H := ⟨0, fun _ => none, fun _ => false, fun _ _ h => by simp at h, fun _ h => by simp at h⟩
def allocAt (σ : H) (n : Nat) (x : Blk) : H := ⟨max σ.nx (n + 1), fun b => if b = n then some x else σ.get b, fun b => b == n || σ.use b, fun b y h => by
  by_cases e : b = n
  · simp [e]
  · rw [if_neg e] at h; simp [σ.wf b y h], fun b h => by
  by_cases e : b = n
  · omega
  · have : σ.use b = true := by simpa [e] using h
    have := σ.lt b this; omega⟩
def alloc (σ : H) (x : Blk) : H := σ.allocAt σ.nx x
def set (σ : H) (b : Nat) (x : Blk) : H := ⟨σ.nx, fun b' => if b' = b ∧ σ.use b = true then some x else σ.get b', σ.use, fun b' y h => by
  by_cases e : b' = b ∧ σ.use b = true
  · rw [e.1]; exact e.2
  · rw [if_neg e] at h; exact σ.wf b' y h, σ.lt⟩
def kill (σ : H) (b : Nat) : H := ⟨σ.nx, fun b' => if b' = b then none else σ.get b', σ.use, fun b' y h => by
  by_cases e : b' = b
  · rw [if_pos e] at h; simp at h
  · rw [if_neg e] at h; exact σ.wf b' y h, σ.lt⟩
theorem get_lt {σ : H} {b : Nat} {x : Blk} (h : σ.get b = some x) : b < σ.nx := σ.lt b (σ.wf b x h)
theorem use_nx (σ : H) : σ.use σ.nx = false := by
  cases h : σ.use σ.nx with
  | false => rfl
  | true => exact absurd (σ.lt _ h) (by omega)
@[simp] theorem nx_alloc (σ : H) (x : Blk) : (σ.alloc x).nx = σ.nx + 1 := by show max σ.nx (σ.nx + 1) = _; omega
@[simp] theorem nx_set (σ : H) (b : Nat) (x : Blk) : (σ.set b x).nx = σ.nx := rfl
@[simp] theorem nx_kill (σ : H) (b : Nat) : (σ.kill b).nx = σ.nx := rfl
@[simp] theorem nx_empty : empty.nx = 0 := rfl
theorem get_allocAt (σ : H) (n : Nat) (x : Blk) (b : Nat) : (σ.allocAt n x).get b = if b = n then some x else σ.get b := rfl
theorem get_alloc (σ : H) (x : Blk) (b : Nat) : (σ.alloc x).get b = if b = σ.nx then some x else σ.get b := rfl
theorem get_alloc_new (σ : H) (x : Blk) : (σ.alloc x).get σ.nx = some x := by simp [get_alloc]
theorem get_alloc_old {σ : H} {x y : Blk} {b : Nat} (h : σ.get b = some y) : (σ.alloc x).get b = some y := by
  have := get_lt h; rw [get_alloc, if_neg (by omega), h]
theorem get_set_same {σ : H} {b : Nat} {x y : Blk} (h : σ.get b = some y) : (σ.set b x).get b = some x := by
  have := σ.wf b y h; simp [set, this]
theorem get_set_ne {σ : H} {b b' : Nat} {x : Blk} (h : b' ≠ b) : (σ.set b x).get b' = σ.get b' := by simp [set, h]
theorem get_kill_ne {σ : H} {b b' : Nat} (h : b' ≠ b) : (σ.kill b).get b' = σ.get b' := by simp [kill, h]
theorem get_kill {σ : H} {b : Nat} : (σ.kill b).get b = none := by simp [kill]
theorem ne_nx {σ : H} {b : Nat} {x : Blk} (h : σ.get b = some x) : b ≠ σ.nx := by have := get_lt h; omega
end H

/-- A block of the own heap, as it lies in the machine's memory. -/
def BR (P : Program) (F : Part) (ρ : Lay) (x : Blk) (l : Loc) (w : World) : Prop :=
  match x with
  | .rows e xs => l.e = e ∧ l.sz = P.cellsOf e ∧ ∃ c, w.heap[l.k]? = some (.cells c e (0, 0)) ∧ c.size = l.n ∧ l.o + xs.length * l.sz ≤ l.n ∧
      ∀ (i : Nat) row, xs[i]? = some row → row.length = l.sz ∧ ∀ (j : Nat) x, row[j]? = some x → x.one = true ∧ ∃ y, c[l.o + i * l.sz + j]? = some y ∧ VR F ρ x y
  | .map es => ∃ es' clock, w.heap[l.k]? = some (.map es' clock) ∧ es'.size = es.length ∧
      (∀ (i : Nat) e, es'[i]? = some e → e.born < clock ∧ ∀ (j : Nat) e', es'[j]? = some e' → i < j → e.born < e'.born) ∧
      ∀ (i : Nat) p e, es[i]? = some p → es'[i]? = some e → VR F ρ p.1 e.key ∧ VR F ρ p.2 e.val

/-- The machine's memory stands under the own heap: F holds still for good, G until the call is over. -/
structure Rel (P : Program) (W : World) (σ : H) (ρ : Lay) (F G : Part) (w : World) : Prop where
  os : w.os = W.os
  tape : w.tape = W.tape
  out : w.output = W.output ∧ W.drawn ≤ w.drawn
  frz : ∀ k o, F k = some o → w.heap[k]? = some o
  frm : ∀ k o, G k = some o → w.heap[k]? = some o
  fg : ∀ k o, F k = some o → G k = none
  live : ∀ b x, σ.get b = some x → ∃ l, ρ b = some l ∧ F l.k = none ∧ G l.k = none ∧ BR P F ρ x l w
  inj : ∀ b b' x x' l l', σ.get b = some x → σ.get b' = some x' → ρ b = some l → ρ b' = some l' → l.k = l'.k → b = b'
  fresh : ∀ b, σ.use b = false → ρ b = none

abbrev Env := Nat → V
def upd (t : Env) (i : Nat) (v : V) : Env := fun j => if j = i then v else t j
theorem upd_same (t : Env) (i : Nat) (v : V) : upd t i v i = v := if_pos rfl
theorem upd_ne (t : Env) {i j : Nat} (v : V) (h : j ≠ i) : upd t i v j = t j := if_neg h

/-- A frame's slots stand under an environment. -/
structure Slots (N : Nat) (F : Part) (ρ : Lay) (t : Env) (a : Act) : Prop where
  defers : a.defers = []
  size : a.tmps.size = N
  slot : ∀ i, VR F ρ (t i) (a.tmps.getD i undef)

theorem Slots.mono {N : Nat} {F F' : Part} {ρ ρ' : Lay} {t : Env} {a : Act} (h : Slots N F ρ t a) (hF : F.le F') (hρ : ρ.le ρ') : Slots N F' ρ' t a :=
  ⟨h.defers, h.size, fun i => (h.slot i).mono hF hρ⟩

theorem Slots.put {N : Nat} {F : Part} {ρ : Lay} {t : Env} {a : Act} (h : Slots N F ρ t a) {d : Nat} (hd : d < N) {v : V} {u : Value} (hv : VR F ρ v u) :
    Slots N F ρ (upd t d v) (a.put (some d) u) := by
  refine ⟨h.defers, by simp [Act.put, h.size], fun i => ?_⟩
  by_cases e : i = d
  · subst e
    rw [upd_same]
    have : i < a.tmps.size := by rw [h.size]; exact hd
    simpa [Act.put, Array.getD, this] using hv
  · rw [upd_ne _ _ e]
    have := h.slot i
    have hne : ¬ d = i := fun x => e x.symm
    simpa [Act.put, Array.getD_eq_getD_getElem?, Array.getElem?_setIfInBounds, hne] using this

theorem Slots.put_none {N : Nat} {F : Part} {ρ : Lay} {t : Env} {a : Act} (h : Slots N F ρ t a) (u : Value) : Slots N F ρ t (a.put none u) := h

end Go.Proofs.Ytngbibpmaofamaa.Ab

/- The abstract calculus: what a code, a region's operations and a call come to, over abstract values; each rule is a theorem over the model's machine. -/
-- Ab1
namespace Go.Proofs.Ytngbibpmaofamaa.Ab
open Go

variable {P : Program}

def Lift (P : Program) (W : World) (N : Nat) (ρ : Lay) (F G : Part) (Q : Exit → Env → H → Prop) : Exit → Act → World → Prop := fun e a w =>
  ∃ t σ ρ' F', Q e t σ ∧ ρ.le ρ' ∧ F.le F' ∧ Rel P W σ ρ' F' G w ∧ Slots N F' ρ' t a

theorem Lift.mono {W : World} {N : Nat} {ρ ρ' : Lay} {F F' G : Part} {Q Q' : Exit → Env → H → Prop} (hρ : ρ.le ρ') (hF : F.le F') {e : Exit} {a : Act} {w : World}
    (h : Lift P W N ρ' F' G Q e a w) (hq : ∀ e t σ, Q e t σ → Q' e t σ) : Lift P W N ρ F G Q' e a w := by
  obtain ⟨t, σ, ρ₂, F₂, q, h1, h2, h3, h4⟩ := h
  exact ⟨t, σ, ρ₂, F₂, hq _ _ _ q, Lay.le_trans hρ h1, Part.le_trans hF h2, h3, h4⟩

/-- A code, from an environment and an own heap on. -/
def ACode (P : Program) (N : Nat) (c : Code) (t : Env) (σ : H) (Q : Exit → Env → H → Prop) : Prop :=
  ∀ W ρ F G a w, Rel P W σ ρ F G w → Slots N F ρ t a → c.wp P (Lift P W N ρ F G Q) a w

def AOps (P : Program) (N : Nat) (ops : Array Oper) (l : List Nat) (t : Env) (σ : H) (Q : Env → H → Prop) : Prop :=
  ∀ W ρ F G a w, Rel P W σ ρ F G w → Slots N F ρ t a → wpOps P ops (Lift P W N ρ F G fun e t σ => e = .normal ∧ Q t σ) l a w

def AOper (P : Program) (N : Nat) (o : Oper) (t : Env) (σ : H) (next : V → H → Prop) : Prop :=
  ∀ W ρ F G a w, Rel P W σ ρ F G w → Slots N F ρ t a → ∀ (K : Act → World → Prop) (QQ : Exit → Act → World → Prop),
    (∀ r σ' ρ' F' v w', next r σ' → ρ.le ρ' → F.le F' → Rel P W σ' ρ' F' G w' → VR F' ρ' r v → K (a.put o.dst v) w') → o.wp P a w K QQ

def VRL (F : Part) (ρ : Lay) (xs : List V) (ys : List Value) : Prop := ys.length = xs.length ∧ ∀ (i : Nat) x y, xs[i]? = some x → ys[i]? = some y → VR F ρ x y

/-- A call, from an own heap on. -/
def Run (P : Program) (f : FuncId) (args : List V) (σ : H) (Q : V → H → Prop) : Prop :=
  ∀ W ρ F G w ys, Rel P W σ ρ F G w → VRL F ρ args ys → Calls P f ys.toArray w fun e w' =>
    ∃ v r σ' ρ' F', e = .returned v ∧ Q r σ' ∧ ρ.le ρ' ∧ F.le F' ∧ Rel P W σ' ρ' F' G w' ∧ VR F' ρ' r v

theorem ACode.mono {N : Nat} {c : Code} {t : Env} {σ : H} {Q Q' : Exit → Env → H → Prop} (h : ACode P N c t σ Q) (hq : ∀ e t σ, Q e t σ → Q' e t σ) : ACode P N c t σ Q' :=
  fun W ρ F G a w hr hs => wp_mono (h W ρ F G a w hr hs) fun _ _ _ l => l.mono (Lay.le_refl _) (Part.le_refl _) hq

theorem Run.mono {f : FuncId} {args : List V} {σ : H} {Q Q' : V → H → Prop} (h : Run P f args σ Q) (hq : ∀ r σ', Q r σ' → Q' r σ') : Run P f args σ Q' :=
  fun W ρ F G w ys hr hs => (h W ρ F G w ys hr hs).mono fun _ _ ⟨v, r, σ', ρ', F', he, q, rest⟩ => ⟨v, r, σ', ρ', F', he, hq _ _ q, rest⟩

section code
variable {N : Nat} {t : Env} {σ : H} {Q : Exit → Env → H → Prop}

theorem lift_here {W : World} {ρ : Lay} {F G : Part} {a : Act} {w : World} (hr : Rel P W σ ρ F G w) (hs : Slots N F ρ t a) {e : Exit} (h : Q e t σ) : Lift P W N ρ F G Q e a w :=
  ⟨t, σ, ρ, F, h, Lay.le_refl _, Part.le_refl _, hr, hs⟩

theorem a_skip (h : Q .normal t σ) : ACode P N .skip t σ Q := fun _ _ _ _ _ _ hr hs => wp_skip (lift_here hr hs h)
theorem a_label {l : Nat} (h : Q .normal t σ) : ACode P N (.label l) t σ Q := fun _ _ _ _ _ _ hr hs => wp_label (lift_here hr hs h)
theorem a_exit {id : Nat} (h : Q (.exit id) t σ) : ACode P N (.exit id) t σ Q := fun _ _ _ _ _ _ hr hs => wp_exit (lift_here hr hs h)
theorem a_goto {l : Nat} (h : Q (.goto l) t σ) : ACode P N (.goto l) t σ Q := fun _ _ _ _ _ _ hr hs => wp_goto (lift_here hr hs h)
theorem a_ret (h : Q .ret t σ) : ACode P N .ret t σ Q := fun _ _ _ _ _ _ hr hs => wp_ret (lift_here hr hs h)

/-- What comes behind the first code of two. -/
def seqQ (P : Program) (N : Nat) (y : Code) (Q : Exit → Env → H → Prop) : Exit → Env → H → Prop
  | .normal, t, σ => ACode P N y t σ Q
  | e, t, σ => Q e t σ

theorem a_seq {x y : Code} (h : ACode P N x t σ (seqQ P N y Q)) : ACode P N (.seq x y) t σ Q := by
  intro W ρ F G a w hr hs
  refine wp_seq (wp_mono (h W ρ F G a w hr hs) ?_)
  intro e a' w' ⟨t', σ', ρ', F', q, h1, h2, h3, h4⟩
  cases e with
  | normal => exact wp_mono (q W ρ' F' G a' w' h3 h4) fun _ _ _ l => l.mono h1 h2 fun _ _ _ x => x
  | _ => exact ⟨t', σ', ρ', F', q, h1, h2, h3, h4⟩

def cv0 : Value → V
  | .bool b => .bool b
  | .int k n => .int k n
  | .string s => .str s
  | .pointer none => .nilp
  | .slice none 0 0 => .nils
  | .map none => .nilm
  | .nilFunc => .nilf
  | _ => .junk

def cv : Value → V
  | .agg cs => .agg (cs.toList.map cv0)
  | v => cv0 v

theorem vr_cv0 (F : Part) (ρ : Lay) (v : Value) : VR F ρ (cv0 v) v := by
  unfold cv0
  split <;> first | exact .bool _ | exact .int _ _ | exact .str _ | exact .nilp | exact .nils | exact .nilm | exact .nilf | exact .junk

theorem vr_cv (F : Part) (ρ : Lay) (v : Value) : VR F ρ (cv v) v := by
  unfold cv
  split
  · rename_i cs
    have : VR F ρ (.agg (cs.toList.map cv0)) (.agg cs.toList.toArray) := .agg cs.toList (by simp) fun i x y hx hy => by
      rw [List.getElem?_map, hy] at hx
      simp at hx
      subst hx
      exact vr_cv0 F ρ y
    simpa using this
  · exact vr_cv0 F ρ v

def aev (t : Env) : Operand → V
  | .tmp i => t i
  | .const v => cv v
  | .global _ => .junk
  | .func f => .fn f []

theorem Slots.eval {F : Part} {ρ : Lay} {a : Act} (h : Slots N F ρ t a) (x : Operand) : VR F ρ (aev t x) (a.eval x) := by
  cases x with
  | tmp i => exact h.slot i
  | const v => exact vr_cv F ρ v
  | global g => exact .junk
  | func f => exact .fn (caps := []) [] rfl (by simp)

theorem vr_bool {F : Part} {ρ : Lay} {b : Bool} {v : Value} (h : VR F ρ (.bool b) v) : v = .bool b := by cases h; rfl
theorem vr_int {F : Part} {ρ : Lay} {k : IntKind} {n : Int} {v : Value} (h : VR F ρ (.int k n) v) : v = .int k n := by cases h; rfl
theorem vr_str {F : Part} {ρ : Lay} {s : ByteArray} {v : Value} (h : VR F ρ (.str s) v) : v = .string s := by cases h; rfl

theorem a_cond {c : Operand} {x y : Code} {b : Bool} (hc : aev t c = .bool b) (h : ACode P N (if b then x else y) t σ Q) : ACode P N (.cond c x y) t σ Q :=
  fun W ρ F G a w hr hs => wp_cond (vr_bool (hc ▸ hs.eval c)) (h W ρ F G a w hr hs)

theorem a_cond_true {c : Operand} {x y : Code} (hc : aev t c = .bool true) (h : ACode P N x t σ Q) : ACode P N (.cond c x y) t σ Q := a_cond hc h
theorem a_cond_false {c : Operand} {x y : Code} (hc : aev t c = .bool false) (h : ACode P N y t σ Q) : ACode P N (.cond c x y) t σ Q := a_cond hc h
theorem a_cond_prop {c : Operand} {x y : Code} {p : Prop} [Decidable p] (hc : aev t c = .bool (decide p)) (h1 : p → ACode P N x t σ Q) (h2 : ¬ p → ACode P N y t σ Q) : ACode P N (.cond c x y) t σ Q := by
  by_cases h : p
  · exact a_cond_true (by simpa [h] using hc) (h1 h)
  · exact a_cond_false (by simpa [h] using hc) (h2 h)
theorem a_cond_split {c : Operand} {x y : Code} {b : Bool} (hc : aev t c = .bool b) (h1 : b = true → ACode P N x t σ Q) (h2 : b = false → ACode P N y t σ Q) : ACode P N (.cond c x y) t σ Q := by
  cases b
  · exact a_cond_false hc (h2 rfl)
  · exact a_cond_true hc (h1 rfl)

def blockQ (id : Nat) (Q : Exit → Env → H → Prop) : Exit → Env → H → Prop
  | .exit id', t, σ => if id' = id then Q .normal t σ else Q (.exit id') t σ
  | e, t, σ => Q e t σ

theorem a_block {id : Nat} {c : Code} (h : ACode P N c t σ (blockQ id Q)) : ACode P N (.block id c) t σ Q := by
  intro W ρ F G a w hr hs
  refine wp_block (wp_mono (h W ρ F G a w hr hs) ?_)
  intro e a' w' ⟨t', σ', ρ', F', q, rest⟩
  cases e with
  | exit id' =>
    simp only [Exit.inBlock, blockQ] at q ⊢
    split at q <;> rename_i hid
    · rw [if_pos hid]; exact ⟨t', σ', ρ', F', q, rest⟩
    · rw [if_neg hid]; exact ⟨t', σ', ρ', F', q, rest⟩
  | _ => exact ⟨t', σ', ρ', F', q, rest⟩

/-- A loop, by an invariant that bears its measure. -/
theorem wp_loop_ix {Q : Exit → Act → World → Prop} {a : Act} {w : World} {c : Code} (I : Nat → Act → World → Prop) (n : Nat) (h₀ : I n a w)
    (round : ∀ n a w, I n a w → c.wp P (Exit.then (fun a' w' => ∃ m, m < n ∧ I m a' w') Q) a w) : (Code.loop c).wp P Q a w := by
  intro b k cs
  have key : ∀ n a w, I n a w → ∃ e a' w', Q e a' w' ∧ Arrives P (lone (b.at a (.code c :: .inLoop c :: k)) cs w) b k cs e a' w' := by
    intro n
    induction n using Nat.strongRecOn with
    | _ n ih =>
      intro a w hI
      obtain ⟨e, a₁, w₁, hq, harr⟩ := round n a w hI b (.inLoop c :: k) cs
      cases e with
      | normal =>
        obtain ⟨m, hlt, hI₁⟩ := hq
        obtain ⟨e₂, a₂, w₂, hq₂, harr₂⟩ := ih m hlt a₁ w₁ hI₁
        exact ⟨e₂, a₂, w₂, hq₂, .of_steps (Steps.trans harr (.one step_inLoop)) harr₂⟩
      | exit id => exact ⟨_, a₁, w₁, hq, .pass (x := .inLoop c) rfl (fun _ _ => .inl (by simp)) harr⟩
      | goto l => exact ⟨_, a₁, w₁, hq, .pass (x := .inLoop c) rfl (fun _ _ => .inl (by simp)) harr⟩
      | ret => exact ⟨_, a₁, w₁, hq, .pass (x := .inLoop c) rfl (fun _ _ => .inl (by simp)) harr⟩
      | panic ch => exact ⟨_, a₁, w₁, hq, .pass (x := .inLoop c) rfl (fun _ _ => .inl (by simp)) harr⟩
      | outgrown => exact ⟨_, a₁, w₁, hq, .pass (x := .inLoop c) rfl (fun _ _ => .inl (by simp)) harr⟩
  obtain ⟨e, a', w', hq, harr⟩ := key n a w h₀
  exact ⟨e, a', w', hq, .of_steps (.one step_loop) harr⟩

def loopQ (n : Nat) (I : Nat → Env → H → Prop) (Q : Exit → Env → H → Prop) : Exit → Env → H → Prop
  | .normal, t, σ => ∃ m, m < n ∧ I m t σ
  | e, t, σ => Q e t σ

theorem a_loop {c : Code} (I : Nat → Env → H → Prop) (n : Nat) (h₀ : I n t σ) (round : ∀ n t σ, I n t σ → ACode P N c t σ (loopQ n I Q)) : ACode P N (.loop c) t σ Q := by
  intro W ρ F G a w hr hs
  refine wp_loop_ix (fun n a w => Lift P W N ρ F G (fun e t σ => e = .normal ∧ I n t σ) .normal a w) n ⟨t, σ, ρ, F, ⟨rfl, h₀⟩, Lay.le_refl _, Part.le_refl _, hr, hs⟩ ?_
  rintro n a w ⟨t, σ, ρ', F', ⟨_, hI⟩, h1, h2, h3, h4⟩
  refine wp_mono (round n t σ hI W ρ' F' G a w h3 h4) ?_
  intro e a' w' ⟨t', σ', ρ₂, F₂, q, g1, g2, g3, g4⟩
  cases e with
  | normal =>
    obtain ⟨m, hm, hi⟩ := q
    exact ⟨m, hm, t', σ', ρ₂, F₂, ⟨rfl, hi⟩, Lay.le_trans h1 g1, Part.le_trans h2 g2, g3, g4⟩
  | _ => exact ⟨t', σ', ρ₂, F₂, q, Lay.le_trans h1 g1, Part.le_trans h2 g2, g3, g4⟩

def regQ (Q : Exit → Env → H → Prop) : Env → H → Prop := fun t σ => Q .normal t σ

theorem a_region {id : Nat} {ops : Array Oper} (h : AOps P N ops (List.range ops.size) t σ (regQ Q)) : ACode P N (.region id ops false) t σ Q := by
  intro W ρ F G a w hr hs
  have := wp_region (id := id) (h W ρ F G a w hr hs)
  exact wp_mono this fun e a' w' ⟨t', σ', ρ', F', ⟨he, q⟩, rest⟩ => ⟨t', σ', ρ', F', he ▸ q, rest⟩

theorem Rel.drew {W : World} {ρ : Lay} {F G : Part} {w : World} (h : Rel P W σ ρ F G w) (n : Nat) (hn : w.drawn ≤ n) : Rel P W σ ρ F G { w with drawn := n } :=
  ⟨h.os, h.tape, ⟨h.out.1, Nat.le_trans h.out.2 hn⟩, h.frz, h.frm, h.fg, h.live, h.inj, h.fresh⟩

theorem a_region_draw {id : Nat} {ops : Array Oper} (h : ∀ k, AOps P N ops (Region.schedule (P.follows .mixedOrders) ops k) t σ (regQ Q)) : ACode P N (.region id ops true) t σ Q := by
  intro W ρ F G a w hr hs
  have := wp_region_draw (id := id) (fun k => h k W ρ F G a { w with drawn := w.drawn + 1 } (hr.drew _ (Nat.le_succ _)) hs)
  exact wp_mono this fun e a' w' ⟨t', σ', ρ', F', ⟨he, q⟩, rest⟩ => ⟨t', σ', ρ', F', he ▸ q, rest⟩

/-- One order for all: a checked list of orders. -/
theorem a_region_orders {id : Nat} {ops : Array Oper} (orders : List (List Nat)) (hall : ∀ k, Region.schedule (P.follows .mixedOrders) ops k ∈ orders)
    (h : ∀ l ∈ orders, AOps P N ops l t σ (regQ Q)) : ACode P N (.region id ops true) t σ Q := a_region_draw fun k => h _ (hall k)

end code

section ops
variable {N : Nat} {t : Env} {σ : H} {Q : Env → H → Prop} {ops : Array Oper}

theorem AOps.mono {l : List Nat} {Q' : Env → H → Prop} (h : AOps P N ops l t σ Q) (hq : ∀ t σ, Q t σ → Q' t σ) : AOps P N ops l t σ Q' := by
  intro W ρ F G a w hr hs
  have mono : ∀ (l : List Nat) (a : Act) (w : World) (Q Q' : Exit → Act → World → Prop), (∀ e a w, Q e a w → Q' e a w) → wpOps P ops Q l a w → wpOps P ops Q' l a w := by
    intro l
    induction l with
    | nil => intro a w Q Q' hq h; exact hq _ _ _ h
    | cons i rest ih =>
      intro a w Q Q' hq h
      simp only [wpOps] at h ⊢
      cases ho : ops[i]? with
      | none => simp only [ho] at h ⊢; exact ih _ _ _ _ hq h
      | some o =>
        simp only [ho] at h ⊢
        split at h
        · rename_i hw
          rw [if_pos hw]
          rcases h with h | ⟨h, a₀, w₀, h'⟩
          · left
            unfold Oper.wp at h ⊢
            unfold Oper.upon at h ⊢
            split at h
            · exact ih _ _ _ _ hq h
            · exact ih _ _ _ _ hq h
            · exact ih _ _ _ _ hq h
            · refine h.mono fun e w' he => ?_
              cases e with
              | returned v => exact ih _ _ _ _ hq he
              | panicked ch => exact hq _ _ _ he
              | outgrown => obtain ⟨a, w, he⟩ := he; exact ⟨a, w, hq _ _ _ he⟩
            · exact h.mono fun v w' he => ih _ _ _ _ hq he
            · exact hq _ _ _ h
            · exact h.elim
          · exact .inr ⟨h, a₀, w₀, hq _ _ _ h'⟩
        · rename_i hw
          rw [if_neg hw]
          exact ih _ _ _ _ hq h
  exact mono l a w _ _ (fun e a w l => l.mono (Lay.le_refl _) (Part.le_refl _) fun e t σ ⟨x, y⟩ => ⟨x, hq _ _ y⟩) (h W ρ F G a w hr hs)

theorem a_nil (h : Q t σ) : AOps P N ops [] t σ Q := fun _ _ _ _ _ _ hr hs => ⟨t, σ, _, _, ⟨rfl, h⟩, Lay.le_refl _, Part.le_refl _, hr, hs⟩

/-- What an operation leaves in its slot. -/
def putd (t : Env) (d : Option Tmp) (v : V) : Env := match d with
  | some d => upd t d v
  | none => t
@[simp] theorem putd_some (t : Env) (d : Tmp) (v : V) : putd t (some d) v = upd t d v := rfl
@[simp] theorem putd_none (t : Env) (v : V) : putd t none v = t := rfl

def dstOk (N : Nat) (d : Option Tmp) : Prop := ∀ i, d = some i → i < N
theorem dstOk_some {d : Nat} (h : d < N) : dstOk N (some d) := fun i hi => by injection hi with hi; exact hi ▸ h
theorem dstOk_none : dstOk N none := fun i hi => by simp at hi

theorem Slots.putd {F : Part} {ρ : Lay} {a : Act} (h : Slots N F ρ t a) {d : Option Tmp} (hd : dstOk N d) {v : V} {u : Value} (hv : VR F ρ v u) :
    Slots N F ρ (Ab.putd t d v) (a.put d u) := by
  cases d with
  | none => exact h
  | some d => exact h.put (hd d rfl) hv

theorem a_cons_wanted {i : Nat} {rest : List Nat} {o : Oper} (ho : ops[i]? = some o) (hd : dstOk N o.dst)
    (hw : ∀ F ρ a, Slots N F ρ t a → Region.wanted o (yielded ops a.tmps) = true)
    (h : AOper P N o t σ fun r σ' => AOps P N ops rest (putd t o.dst r) σ' Q) : AOps P N ops (i :: rest) t σ Q := by
  intro W ρ F G a w hr hs
  simp only [wpOps, ho, hw F ρ a hs, if_true]
  left
  refine h W ρ F G a w hr hs _ _ ?_
  intro r σ' ρ' F' v w' hn hρ hF hrel hv
  have hs' := (hs.mono hF hρ).putd hd hv
  have := hn W ρ' F' G _ w' hrel hs'
  have mono : ∀ (l : List Nat) (a : Act) (w : World) (Q Q' : Exit → Act → World → Prop), (∀ e a w, Q e a w → Q' e a w) → wpOps P ops Q l a w → wpOps P ops Q' l a w := by
    intro l
    induction l with
    | nil => intro a w Q Q' hq h; exact hq _ _ _ h
    | cons i rest ih =>
      intro a w Q Q' hq h
      simp only [wpOps] at h ⊢
      cases ho : ops[i]? with
      | none => simp only [ho] at h ⊢; exact ih _ _ _ _ hq h
      | some o =>
        simp only [ho] at h ⊢
        split at h
        · rename_i hw
          rw [if_pos hw]
          rcases h with h | ⟨h, a₀, w₀, h'⟩
          · left
            unfold Oper.wp at h ⊢
            unfold Oper.upon at h ⊢
            split at h
            · exact ih _ _ _ _ hq h
            · exact ih _ _ _ _ hq h
            · exact ih _ _ _ _ hq h
            · refine h.mono fun e w' he => ?_
              cases e with
              | returned v => exact ih _ _ _ _ hq he
              | panicked ch => exact hq _ _ _ he
              | outgrown => obtain ⟨a, w, he⟩ := he; exact ⟨a, w, hq _ _ _ he⟩
            · exact h.mono fun v w' he => ih _ _ _ _ hq he
            · exact hq _ _ _ h
            · exact h.elim
          · exact .inr ⟨h, a₀, w₀, hq _ _ _ h'⟩
        · rename_i hw
          rw [if_neg hw]
          exact ih _ _ _ _ hq h
  exact mono rest _ w' _ _ (fun e a w l => l.mono hρ hF fun _ _ _ x => x) this

theorem a_cons {i : Nat} {rest : List Nat} {o : Oper} (ho : ops[i]? = some o) (hg : o.guard = none) (hd : dstOk N o.dst)
    (h : AOper P N o t σ fun r σ' => AOps P N ops rest (putd t o.dst r) σ' Q) : AOps P N ops (i :: rest) t σ Q :=
  a_cons_wanted ho hd (fun _ _ _ _ => by simp [Region.wanted, hg]) h

theorem yielded_of {F : Part} {ρ : Lay} {a : Act} {j d : Nat} {oj : Oper} {b : Bool} (hs : Slots N F ρ t a) (hj : ops[j]? = some oj) (hd : oj.dst = some d) (hn : d < N)
    (hb : t d = .bool b) : yielded ops a.tmps j = some b := by
  have hz : d < a.tmps.size := by rw [hs.size]; exact hn
  have h := hs.slot d
  rw [hb] at h
  have e := vr_bool h
  simp only [Array.getD, hz, dif_pos] at e
  simp [yielded, hj, hd, hz]
  rw [show a.tmps[d] = Value.bool b from e]

theorem a_cons_guarded {i j d : Nat} {rest : List Nat} {o oj : Oper} {b : Bool} (ho : ops[i]? = some o) (hg : o.guard = some (j, b)) (hj : ops[j]? = some oj) (hjd : oj.dst = some d) (hn : d < N)
    (hb : t d = .bool b) (hd : dstOk N o.dst)
    (h : AOper P N o t σ fun r σ' => AOps P N ops rest (putd t o.dst r) σ' Q) : AOps P N ops (i :: rest) t σ Q :=
  a_cons_wanted ho hd (fun F ρ a hs => by simp [Region.wanted, hg, yielded_of hs hj hjd hn hb]) h

theorem undefVR {F : Part} {ρ : Lay} : VR F ρ (.tup []) undef := VR.tup (cs := []) [] rfl (by simp)

theorem yielded_undef {F : Part} {ρ : Lay} {a : Act} {j d : Nat} {oj : Oper} (hs : Slots N F ρ t a) (hj : ops[j]? = some oj) (hd : oj.dst = some d) (hn : d < N)
    (hb : t d = .tup []) : yielded ops a.tmps j = none := by
  have hz : d < a.tmps.size := by rw [hs.size]; exact hn
  have h := hs.slot d
  rw [hb] at h
  simp only [Array.getD, hz, dif_pos] at h
  simp [yielded, hj, hd, hz]
  generalize ha : a.tmps[d] = v
  change VR F ρ (.tup []) (a.tmps[d]) at h
  rw [ha] at h
  cases h
  rfl

theorem a_cons_passed {i j d : Nat} {rest : List Nat} {o oj : Oper} {b c : Bool} (ho : ops[i]? = some o) (hg : o.guard = some (j, b)) (hj : ops[j]? = some oj) (hjd : oj.dst = some d) (hn : d < N)
    (hb : t d = .bool c) (hc : c ≠ b) (hd : dstOk N o.dst) (h : AOps P N ops rest (putd t o.dst (.tup [])) σ Q) : AOps P N ops (i :: rest) t σ Q := by
  intro W ρ F G a w hr hs
  have hw : Region.wanted o (yielded ops a.tmps) = false := by simp [Region.wanted, hg, yielded_of hs hj hjd hn hb, hc]
  simp only [wpOps, ho, hw, Bool.false_eq_true, if_false]
  exact h W ρ F G _ w hr (hs.putd hd undefVR)

theorem a_cons_undef {i j d : Nat} {rest : List Nat} {o oj : Oper} {b : Bool} (ho : ops[i]? = some o) (hg : o.guard = some (j, b)) (hj : ops[j]? = some oj) (hjd : oj.dst = some d) (hn : d < N)
    (hb : t d = .tup []) (hd : dstOk N o.dst) (h : AOps P N ops rest (putd t o.dst (.tup [])) σ Q) : AOps P N ops (i :: rest) t σ Q := by
  intro W ρ F G a w hr hs
  have hw : Region.wanted o (yielded ops a.tmps) = false := by simp [Region.wanted, hg, yielded_undef hs hj hjd hn hb]
  simp only [wpOps, ho, hw, Bool.false_eq_true, if_false]
  exact h W ρ F G _ w hr (hs.putd hd undefVR)

end ops

end Go.Proofs.Ytngbibpmaofamaa.Ab

/- The abstract calculus, calls: a function's body, pure calls, rows that are frozen. -/
-- Ab2
namespace Go.Proofs.Ytngbibpmaofamaa.Ab
open Go

variable {P : Program}

def aggD : TypeDesc → Bool
  | .struct _ | .array _ _ => true
  | _ => false

/-- What a load of a type reads in a row of cells, from a cell on. -/
def rowRead (P : Program) (ty : TypeId) (row : List V) (c : Nat) : Option V :=
  match P.underlying ty with
  | none => none
  | some d => if aggD d = true then (if c + P.cellsOf ty ≤ row.length then some (.agg ((row.drop c).take (P.cellsOf ty))) else none) else row[c]?

/-- What an own pointer or an immutable row's pointer reads. -/
def aload (P : Program) (σ : H) (ty : TypeId) (p : V) : Option V :=
  match p with
  | .ptr b r c =>
    match σ.get b with
    | some (.rows _ xs) =>
      match xs[r]? with
      | some row => rowRead P ty row c
      | none => none
    | _ => none
  | .iptr row c => rowRead P ty row c
  | _ => none

theorem cellsOf_info {t : TypeId} {d : TypeDesc} (h : P.underlying t = some d) : ∃ i, P.info? t = some i := by
  unfold Program.underlying at h
  cases hi : P.info? t with
  | none => rw [hi] at h; simp at h
  | some i => exact ⟨i, rfl⟩

theorem run_isAgg {t : TypeId} {d : TypeDesc} (h : P.underlying t = some d) (w : World) :
    (isAgg t).run P w = .ok (aggD d) w := by
  unfold isAgg
  simp only [Sem.run_bind, run_underlying h, Result.andThen]
  cases d <;> rfl

theorem run_sizeOf {t : TypeId} {i : TypeInfo} (h : P.info? t = some i) (w : World) : (sizeOf t).run P w = .ok (P.cellsOf t) w := by
  simp [sizeOf, typeInfo, h, Program.cellsOf]

/-- A load of cells that are known. -/
theorem run_loadVar_cells {w : World} {ty : TypeId} {k o : Nat} {d : TypeDesc} (hu : P.underlying ty = some d) {ys : List Value}
    (hc : ∀ (j : Nat) v, ys[j]? = some v → w.cell? ⟨k, o + j, none⟩ = some v) :
    (aggD d = true → ys.length = P.cellsOf ty → (loadVar ty ⟨k, o, none⟩).run P w = .ok (.agg ys.toArray) w) ∧
    (aggD d = false → ∀ v, ys = [v] → (loadVar ty ⟨k, o, none⟩).run P w = .ok v w) := by
  obtain ⟨i, hi⟩ := cellsOf_info hu
  constructor
  · intro ha hl
    have h := run_loadCells_list (P := P) w ⟨k, o, none⟩ ys (fun j v hv => by
      have := hc j v hv
      unfold Addr.add
      split
      · rename_i e; subst e; simpa using this
      · exact this)
    simp only [loadVar, Sem.run_bind, run_isAgg hu, ha, Result.andThen, if_true, run_sizeOf hi, ← hl, h]
    rfl
  · intro ha v hv
    subst hv
    have h := hc 0 v rfl
    simp only [loadVar, Sem.run_bind, run_isAgg hu, ha, Result.andThen, Bool.false_eq_true, if_false]
    rw [run_load]
    simp only [Nat.add_zero] at h
    rw [h]

theorem take_drop_get {α : Type} (l : List α) (c n j : Nat) (x : α) : ((l.drop c).take n)[j]? = some x ↔ j < n ∧ l[c + j]? = some x := by
  rw [List.getElem?_take]
  by_cases h : j < n
  · simp [h]
  · simp [h]

/-- Reading a row whose cells stand under abstract ones. -/
theorem load_row {W : World} {F : Part} {ρ : Lay} {w : World} {ty : TypeId} {row : List V} {c k o : Nat} {cc : Array Value} {e : TypeId} {fr : Nat × Nat} {v : V}
    (hk : w.heap[k]? = some (.cells cc e fr)) (hr : ∀ (j : Nat) x, row[j]? = some x → ∃ y, cc[o + j]? = some y ∧ VR F ρ x y)
    (h : rowRead P ty row c = some v) : ∃ u, (loadVar ty ⟨k, o + c, none⟩).run P w = .ok u w ∧ VR F ρ v u := by
  have hcell : ∀ (j : Nat) y, cc[o + c + j]? = some y → w.cell? ⟨k, o + c + j, none⟩ = some y := by
    intro j y hy; simp [World.cell?, hk, hy]
  unfold rowRead at h
  cases hu : P.underlying ty with
  | none => rw [hu] at h; simp at h
  | some d =>
    rw [hu] at h
    by_cases ha : aggD d = true
    · have h' : (if c + P.cellsOf ty ≤ row.length then some (V.agg ((row.drop c).take (P.cellsOf ty))) else none) = some v := by
        simpa [ha] using h
      split at h'
      · rename_i hle
        injection h' with h'
        subst h'
        let ys : List Value := (List.range (P.cellsOf ty)).map fun j => (cc[o + c + j]?).getD undef
        have hg : ∀ j, j < P.cellsOf ty → ∃ y, cc[o + c + j]? = some y ∧ VR F ρ (row[c + j]!) y := by
          intro j hj
          obtain ⟨y, h1, h2⟩ := hr (c + j) (row[c + j]!) (by rw [List.getElem!_eq_getElem?_getD, List.getElem?_eq_getElem (by omega)]; rfl)
          exact ⟨y, by rw [← h1]; congr 1; omega, h2⟩
        have hlen : ys.length = P.cellsOf ty := by simp [ys]
        have hys : ∀ (j : Nat) u, ys[j]? = some u → cc[o + c + j]? = some u := by
          intro j u hu'
          have hj : j < P.cellsOf ty := by
            rcases Nat.lt_or_ge j (P.cellsOf ty) with h | h
            · exact h
            · rw [List.getElem?_eq_none (by rw [hlen]; exact h)] at hu'; simp at hu'
          obtain ⟨y, h1, _⟩ := hg j hj
          simp [ys, hj, h1] at hu'
          rw [h1, hu']
        have := (run_loadVar_cells (P := P) (w := w) (ty := ty) (k := k) (o := o + c) hu (ys := ys) (fun j u hj => hcell j u (hys j u hj))).1 ha hlen
        refine ⟨_, this, .agg ys (by simp [hlen, List.length_take, List.length_drop]; omega) ?_⟩
        intro j x y hx hy
        rw [take_drop_get] at hx
        obtain ⟨y', h1, h2⟩ := hg j hx.1
        have h3 := hys j y hy
        rw [h1] at h3
        injection h3 with h3
        subst h3
        rwa [List.getElem!_eq_getElem?_getD, hx.2] at h2
      · simp at h'
    · have ha' : aggD d = false := by simpa using ha
      have h' : row[c]? = some v := by simpa [ha'] using h
      obtain ⟨y, h1, h2⟩ := hr c v h'
      refine ⟨y, (run_loadVar_cells (P := P) (w := w) (ty := ty) (k := k) (o := o + c) hu (ys := [y]) ?_).2 ha' y rfl, h2⟩
      intro j u hj
      cases j with
      | zero => simp at hj; subst hj; exact hcell 0 y h1
      | succ j => simp at hj

theorem Rel.load {W : World} {σ : H} {ρ : Lay} {F G : Part} {w : World} (h : Rel P W σ ρ F G w) {ty : TypeId} {p v : V} (hl : aload P σ ty p = some v) {u : Value} (hp : VR F ρ p u) :
    ∃ a y, u = .pointer (some a) ∧ (loadVar ty a).run P w = .ok y w ∧ VR F ρ v y := by
  cases hp with
  | ptr hb =>
    rename_i b r c l
    simp only [aload] at hl
    cases hg : σ.get b with
    | none => rw [hg] at hl; simp at hl
    | some x =>
      rw [hg] at hl
      cases x with
      | map es => simp at hl
      | rows e xs =>
        simp only at hl
        obtain ⟨l', h1, h2, h3, h4⟩ := h.live b _ hg
        rw [hb] at h1
        injection h1 with h1
        subst h1
        obtain ⟨g1, g2, cc, g3, g4, g5, g6⟩ := h4
        cases hx : xs[r]? with
        | none => rw [hx] at hl; simp at hl
        | some row =>
          rw [hx] at hl
          obtain ⟨k1, k2⟩ := g6 r row hx
          obtain ⟨y, hy, hv⟩ := load_row (P := P) (W := W) (o := l.o + r * l.sz) (c := c) g3 (fun j x hj => (k2 j x hj).2) hl
          exact ⟨_, y, rfl, hy, hv⟩
  | iptr y hk hc hv =>
    rename_i cs c k o cc e fr
    simp only [aload] at hl
    obtain ⟨y', hy, hv'⟩ := load_row (P := P) (W := W) (o := o) (c := c) (h.frz _ _ hk) (fun j x hj => ⟨y j, hc j x hj, hv j x hj⟩) hl
    exact ⟨_, y', rfl, hy, hv'⟩
  | _ => simp [aload] at hl

/-- A function's results. -/
def resV (P : Program) (t : Env) (σ : H) : ResultVar → Option V
  | .tmp i => some (t i)
  | .cell a ty => aload P σ ty (t a)

def resL (P : Program) (t : Env) (σ : H) : List ResultVar → Option (List V)
  | [] => some []
  | r :: rs => match resV P t σ r with
    | some v => (resL P t σ rs).map (v :: ·)
    | none => none

def one_or_tup : List V → V
  | [v] => v
  | vs => .tup vs

theorem run_results {W : World} {N : Nat} {t : Env} {σ : H} {ρ : Lay} {F G : Part} {a : Act} {w : World} (h : Rel P W σ ρ F G w) (hs : Slots N F ρ t a) {fn : Func} {vs : List V}
    (hv : resL P t σ fn.results.toList = some vs) : ∃ u, (results fn a.tmps).run P w = .ok u w ∧ VR F ρ (one_or_tup vs) u := by
  have key : ∀ (rs : List ResultVar) (vs : List V), resL P t σ rs = some vs → ∃ us, us.length = vs.length ∧ (rs.mapM fun
      | .tmp t => pure (a.tmps.getD t undef)
      | .cell b t => do loadVar t (← asAddr (a.tmps.getD b undef)) : Sem (List Value)).run P w = .ok us w ∧ ∀ (i : Nat) x y, vs[i]? = some x → us[i]? = some y → VR F ρ x y := by
    intro rs
    induction rs with
    | nil => intro vs hv; simp [resL] at hv; subst hv; exact ⟨[], rfl, rfl, by simp⟩
    | cons r rs ih =>
      intro vs hv
      simp only [resL] at hv
      cases hr : resV P t σ r with
      | none => rw [hr] at hv; simp at hv
      | some v =>
        rw [hr] at hv
        cases hrs : resL P t σ rs with
        | none => simp [hrs] at hv
        | some vs' =>
          simp [hrs] at hv
          subst hv
          obtain ⟨us, hlen, hrun, hus⟩ := ih vs' hrs
          have h1 : ∃ u, (match r with
              | .tmp t => pure (a.tmps.getD t undef)
              | .cell b t => do loadVar t (← asAddr (a.tmps.getD b undef)) : Sem Value).run P w = .ok u w ∧ VR F ρ v u := by
            cases r with
            | tmp i => simp [resV] at hr; subst hr; exact ⟨_, rfl, hs.slot i⟩
            | cell b ty =>
              obtain ⟨ad, y, h1, h2, h3⟩ := h.load hr (hs.slot b)
              refine ⟨y, ?_, h3⟩
              simp only [h1, asAddr, Sem.run_bind, Sem.run_pure, Result.andThen, h2]
          obtain ⟨u, hu, hvu⟩ := h1
          refine ⟨u :: us, by simp [hlen], ?_, ?_⟩
          · rw [List.mapM_cons]
            simp only [Sem.run_bind, hu, Result.andThen, hrun]
            rfl
          · intro i x y hx hy
            cases i with
            | zero => simp at hx hy; subst hx; subst hy; exact hvu
            | succ i => simp at hx hy; exact hus i x y hx hy
  obtain ⟨us, hlen, hrun, hus⟩ := key _ _ hv
  have hm : (fn.results.mapM fun
      | .tmp t => pure (a.tmps.getD t undef)
      | .cell b t => do loadVar t (← asAddr (a.tmps.getD b undef)) : Sem (Array Value)).run P w = .ok us.toArray w := by
    rw [Array.mapM_eq_mapM_toList]
    simp only [map_eq_pure_bind, Sem.run_bind, hrun, Result.andThen]
    rfl
  have hall : (results fn a.tmps).run P w = .ok (if h : us.toArray.size = 1 then us.toArray[0] else .tuple us.toArray) w := by
    have e : results fn a.tmps = (fn.results.mapM fun
      | .tmp t => pure (a.tmps.getD t undef)
      | .cell b t => do loadVar t (← asAddr (a.tmps.getD b undef)) : Sem (Array Value)) >>= fun vs => pure (if h : vs.size = 1 then vs[0] else .tuple vs) := by
      rfl
    rw [e, Sem.run_bind, hm]
    rfl
  refine ⟨_, hall, ?_⟩
  match vs, us, hlen, hus with
  | [v], [u], _, hus => exact hus 0 v u rfl rfl
  | [], [], _, hus => simpa [one_or_tup] using VR.tup (F := F) (ρ := ρ) (cs := []) [] rfl (by simp)
  | v :: v' :: vs, u :: u' :: us, hlen, hus =>
    have : ¬ (u :: u' :: us).toArray.size = 1 := by simp
    rw [dif_neg this]
    exact .tup _ hlen hus

def env (args : List V) : Env := fun i => args.getD i .junk

def retQ (P : Program) (fn : Func) (Q : V → H → Prop) : Exit → Env → H → Prop := fun e t σ =>
  (e = .normal ∨ e = .ret) ∧ ∃ vs, resL P t σ fn.results.toList = some vs ∧ Q (one_or_tup vs) σ

theorem run_of_code {f : FuncId} {fn : Func} {c : Code} {args : List V} {σ : H} {Q : V → H → Prop} (hf : P.funcs[f]? = some fn) (hb : fn.body = some c) (hn : args.length ≤ fn.ntmps)
    (h : ACode P fn.ntmps c (env args) σ (retQ P fn Q)) : Run P f args σ Q := by
  intro W ρ F G w ys hr hy
  refine calls_of_wp hf hb ?_
  have hs : Slots fn.ntmps F ρ (env args) { tmps := ys.toArray ++ Array.replicate (fn.ntmps - ys.toArray.size) undef, defers := [] } := by
    refine ⟨rfl, by simp [hy.1]; omega, fun i => ?_⟩
    by_cases hi : i < args.length
    · have hi' : i < ys.length := by rw [hy.1]; exact hi
      have := hy.2 i args[i] ys[i] (by simp [hi]) (by simp [hi'])
      simpa [env, Array.getD_eq_getD_getElem?, Array.getElem?_append, hi, hi'] using this
    · have : env args i = .junk := by simp [env, List.getD, List.getElem?_eq_none (Nat.le_of_not_lt hi)]
      rw [this]; exact .junk
  refine wp_mono (h W ρ F G _ w hr hs) ?_
  rintro e a' w' ⟨t', σ', ρ', F', ⟨he, vs, hvs, hq⟩, h1, h2, h3, h4⟩
  obtain ⟨u, hu, hv⟩ := run_results h3 h4 hvs
  rcases he with rfl | rfl
  · exact ⟨h4.defers, u, hu, u, _, σ', ρ', F', rfl, hq, h1, h2, h3, hv⟩
  · exact ⟨h4.defers, u, hu, u, _, σ', ρ', F', rfl, hq, h1, h2, h3, hv⟩

/-- No own block is named. -/
inductive V.Pure : V → Prop
  | bool (b : Bool) : Pure (.bool b)
  | int (k : IntKind) (n : Int) : Pure (.int k n)
  | str (s : ByteArray) : Pure (.str s)
  | nilp : Pure .nilp
  | iptr {cs : List V} {c : Nat} (h : ∀ x ∈ cs, Pure x) : Pure (.iptr cs c)
  | nils : Pure .nils
  | imm {xs : List (List V)} {ex : Bool} (h : ∀ row ∈ xs, ∀ x ∈ row, Pure x) : Pure (.imm xs ex)
  | nilm : Pure .nilm
  | nilf : Pure .nilf
  | fn {f : FuncId} {caps : List V} (h : ∀ x ∈ caps, Pure x) : Pure (.fn f caps)
  | agg {cs : List V} (h : ∀ x ∈ cs, Pure x) : Pure (.agg cs)
  | tup {cs : List V} (h : ∀ x ∈ cs, Pure x) : Pure (.tup cs)
  | junk : Pure .junk

theorem mem_of_get {α : Type} {l : List α} {i : Nat} {x : α} (h : l[i]? = some x) : x ∈ l := List.mem_of_getElem? h

theorem VR.pure {F : Part} {ρ ρ' : Lay} {v : V} {u : Value} (h : VR F ρ v u) (hp : v.Pure) : VR F ρ' v u := by
  induction h with
  | bool b => exact .bool b
  | int k n => exact .int k n
  | str s => exact .str s
  | nilp => exact .nilp
  | ptr h => cases hp
  | iptr y h hc hv ih => cases hp with | iptr hp => exact .iptr y h hc fun j x hx => ih j x hx (hp _ (mem_of_get hx))
  | nils => exact .nils
  | sl => cases hp
  | imm sz cc e fr y hl hx hs h hw hc hv ih => cases hp with | imm hp => exact .imm sz cc e fr y hl hx hs h hw hc fun i row hi j x hj => ih i row hi j x hj (hp _ (mem_of_get hi) _ (mem_of_get hj))
  | imm0 => exact .imm0
  | nilm => exact .nilm
  | mp h => cases hp
  | nilf => exact .nilf
  | fn ys hl h ih => cases hp with | fn hp => exact .fn ys hl fun i x y hx hy => ih i x y hx hy (hp _ (mem_of_get hx))
  | agg ys hl h ih => cases hp with | agg hp => exact .agg ys hl fun i x y hx hy => ih i x y hx hy (hp _ (mem_of_get hx))
  | tup ys hl h ih => cases hp with | tup hp => exact .tup ys hl fun i x y hx hy => ih i x y hx hy (hp _ (mem_of_get hx))
  | junk => exact .junk

/-- A call that neither sees nor turns the caller's own blocks, and whose result names none. -/
def PRun (P : Program) (f : FuncId) (args : List V) (Q : V → Prop) : Prop := Run P f args H.empty fun r _ => r.Pure ∧ Q r

theorem PRun.mono {f : FuncId} {args : List V} {Q Q' : V → Prop} (h : PRun P f args Q) (hq : ∀ r, r.Pure → Q r → Q' r) : PRun P f args Q' :=
  Run.mono h fun r _ ⟨hp, q⟩ => ⟨hp, hq r hp q⟩

/-- The blocks of the own heap that are live. -/
noncomputable def held (σ : H) (ρ : Lay) (G : Part) (w : World) : Part := fun k =>
  open Classical in if ∃ b x l, σ.get b = some x ∧ ρ b = some l ∧ l.k = k then w.heap[k]? else G k

theorem Run.of_pure {f : FuncId} {args : List V} {σ : H} {Q : V → Prop} (h : PRun P f args Q) (hp : ∀ x ∈ args, x.Pure) : Run P f args σ fun r σ' => σ' = σ ∧ r.Pure ∧ Q r := by
  intro W ρ F G w ys hr hy
  have hG : ∀ b x l, σ.get b = some x → ρ b = some l → held σ ρ G w l.k = w.heap[l.k]? := by
    intro b x l h1 h2
    unfold held
    rw [if_pos ⟨b, x, l, h1, h2, rfl⟩]
  have hsome : ∀ b x l, σ.get b = some x → ρ b = some l → ∃ o, w.heap[l.k]? = some o := by
    intro b x l h1 h2
    obtain ⟨l', g1, _, _, g4⟩ := hr.live b x h1
    rw [h2] at g1; injection g1 with g1; subst g1
    cases x with
    | rows e xs => obtain ⟨_, _, c, g, _⟩ := g4; exact ⟨_, g⟩
    | map es => obtain ⟨es', cl, g, _⟩ := g4; exact ⟨_, g⟩
  have hG' : ∀ k o, G k = some o → held σ ρ G w k = some o := by
    intro k o hk
    unfold held
    split
    · rename_i hx
      obtain ⟨b, x, l, h1, h2, rfl⟩ := hx
      exact hr.frm _ _ hk
    · exact hk
  have rel : Rel P W H.empty (fun _ => none) F (held σ ρ G w) w := by
    refine ⟨hr.os, hr.tape, hr.out, hr.frz, ?_, ?_, by intro b x hb; simp [H.empty] at hb, by intro b b' x x' l l' hb; simp [H.empty] at hb, fun _ _ => rfl⟩
    · intro k o hk
      unfold held at hk
      split at hk
      · exact hk
      · exact hr.frm _ _ hk
    · intro k o hk
      unfold held
      split
      · rename_i hx
        obtain ⟨b, x, l, h1, h2, rfl⟩ := hx
        obtain ⟨l', g1, g2, _⟩ := hr.live b x h1
        rw [h2] at g1; injection g1 with g1; subst g1
        rw [g2] at hk; simp at hk
      · exact hr.fg _ _ hk
  have hy0 : VRL F (fun _ => none) args ys := ⟨hy.1, fun i x y hx hy' => (hy.2 i x y hx hy').pure (hp _ (mem_of_get hx))⟩
  refine (h W _ F _ w ys rel hy0).mono ?_
  rintro e w' ⟨v, r, σ', ρ', F', he, ⟨hpure, hq⟩, h1, h2, h3, h4⟩
  refine ⟨v, r, σ, ρ, F', he, ⟨rfl, hpure, hq⟩, Lay.le_refl _, h2, ?_, h4.pure hpure⟩
  refine ⟨h3.os, h3.tape, h3.out, h3.frz, fun k o hk => h3.frm k o (hG' k o hk), ?_, ?_, hr.inj, hr.fresh⟩
  · intro k o hk
    have := h3.fg k o hk
    cases hg : G k with
    | none => rfl
    | some o' => rw [hG' k o' hg] at this; simp at this
  · intro b x hb
    obtain ⟨l, g1, g2, g3, g4⟩ := hr.live b x hb
    obtain ⟨o, ho⟩ := hsome b x l hb g1
    have hh : held σ ρ G w l.k = some o := by rw [hG b x l hb g1, ho]
    have hw' := h3.frm _ _ hh
    refine ⟨l, g1, ?_, g3, ?_⟩
    · cases hF : F' l.k with
      | none => rfl
      | some o' => have := h3.fg _ _ hF; rw [hh] at this; simp at this
    · cases x with
      | rows e xs =>
        obtain ⟨k1, k2, c, k3, k4, k5, k6⟩ := g4
        refine ⟨k1, k2, c, by rw [hw', ← ho, k3], k4, k5, fun i row hi => ⟨(k6 i row hi).1, fun j x hj => ?_⟩⟩
        obtain ⟨m1, y, m2, m3⟩ := (k6 i row hi).2 j x hj
        exact ⟨m1, y, m2, m3.mono h2 (Lay.le_refl _)⟩
      | map es =>
        obtain ⟨es', cl, k1, k2, k3, k4⟩ := g4
        exact ⟨es', cl, by rw [hw', ← ho, k1], k2, k3, fun i p e hi he => ⟨(k4 i p e hi he).1.mono h2 (Lay.le_refl _), (k4 i p e hi he).2.mono h2 (Lay.le_refl _)⟩⟩

/-- A ghost step: a value is told another way, the heap, too (own rows are frozen). -/
def Frz (P : Program) (σ : H) (v v' : V) (σ' : H) : Prop := ∀ W ρ F G w u, Rel P W σ ρ F G w → VR F ρ v u → ∃ F', F.le F' ∧ Rel P W σ' ρ F' G w ∧ VR F' ρ v' u

theorem Frz.refl {σ : H} {v : V} : Frz P σ v v σ := fun _ _ F _ _ _ h h' => ⟨F, Part.le_refl _, h, h'⟩
theorem Frz.junk {σ : H} {v : V} : Frz P σ v .junk σ := fun _ _ F _ _ _ h _ => ⟨F, Part.le_refl _, h, .junk⟩
theorem Frz.trans {σ σ' σ'' : H} {v v' v'' : V} (h : Frz P σ v v' σ') (h' : Frz P σ' v' v'' σ'') : Frz P σ v v'' σ'' := by
  intro W ρ F G w u hr hv
  obtain ⟨F1, a1, a2, a3⟩ := h W ρ F G w u hr hv
  obtain ⟨F2, b1, b2, b3⟩ := h' W ρ F1 G w u a2 a3
  exact ⟨F2, Part.le_trans a1 b1, b2, b3⟩

theorem Frz.sl {σ : H} {sz b off len : Nat} {ex ex' : Bool} {e : TypeId} {xs : List (List V)} (hb : σ.get b = some (.rows e xs)) (hl : off + len ≤ xs.length) (he : ex' = true → ex = true) :
    Frz P σ (.sl sz b off len ex) (.imm ((xs.drop off).take len) ex') (σ.kill b) := by
  intro W ρ F G w u hr hv
  cases hv with
  | sl hρ hz hlen hx hk hs ha hn =>
    rename_i l a cap
    obtain ⟨l', g1, g2, g3, g4⟩ := hr.live b _ hb
    rw [hρ] at g1; injection g1 with g1; subst g1
    obtain ⟨k1, k2, c, k3, k4, k5, k6⟩ := g4
    let F' : Part := fun k => if k = l.k then w.heap[k]? else F k
    have hF : F.le F' := by
      intro k o hk
      show (if k = l.k then w.heap[k]? else F k) = some o
      split
      · exact hr.frz _ _ hk
      · exact hk
    have hF' : F' l.k = some (.cells c e (0, 0)) := by show (if l.k = l.k then w.heap[l.k]? else F l.k) = _; rw [if_pos rfl, k3]
    refine ⟨F', hF, ?_, ?_⟩
    · refine ⟨hr.os, hr.tape, hr.out, ?_, hr.frm, ?_, ?_, ?_, hr.fresh⟩
      · intro k o hk
        change (if k = l.k then w.heap[k]? else F k) = some o at hk
        split at hk
        · exact hk
        · exact hr.frz _ _ hk
      · intro k o hk
        change (if k = l.k then w.heap[k]? else F k) = some o at hk
        split at hk
        · rename_i e; rw [e]; exact g3
        · exact hr.fg _ _ hk
      · intro b' x hb'
        have hne : b' ≠ b := by intro e; subst e; simp [H.get_kill] at hb'
        rw [H.get_kill_ne hne] at hb'
        obtain ⟨l2, m1, m2, m3, m4⟩ := hr.live b' x hb'
        have hnek : l2.k ≠ l.k := fun e => hne (hr.inj b' b _ _ _ _ hb' hb m1 hρ e)
        refine ⟨l2, m1, ?_, m3, ?_⟩
        · show (if l2.k = l.k then w.heap[l2.k]? else F l2.k) = none
          rw [if_neg hnek]; exact m2
        · cases x with
          | rows e xs =>
            obtain ⟨n1, n2, cc, n3, n4, n5, n6⟩ := m4
            refine ⟨n1, n2, cc, n3, n4, n5, fun i row hi => ⟨(n6 i row hi).1, fun j x hj => ?_⟩⟩
            obtain ⟨p1, y, p2, p3⟩ := (n6 i row hi).2 j x hj
            exact ⟨p1, y, p2, p3.mono hF (Lay.le_refl _)⟩
          | map es =>
            obtain ⟨es', cl, n1, n2, n3, n4⟩ := m4
            exact ⟨es', cl, n1, n2, n3, fun i p e hi he => ⟨(n4 i p e hi he).1.mono hF (Lay.le_refl _), (n4 i p e hi he).2.mono hF (Lay.le_refl _)⟩⟩
      · intro b1 b2 x1 x2 l1 l2 h1 h2
        have hne1 : b1 ≠ b := by intro e; subst e; simp [H.get_kill] at h1
        have hne2 : b2 ≠ b := by intro e; subst e; simp [H.get_kill] at h2
        rw [H.get_kill_ne hne1] at h1
        rw [H.get_kill_ne hne2] at h2
        exact hr.inj b1 b2 x1 x2 l1 l2 h1 h2
    · have hll : ((xs.drop off).take len).length = len := by simp; omega
      have hrow : ∀ (i : Nat) row, ((xs.drop off).take len)[i]? = some row → i < len ∧ xs[off + i]? = some row := fun i row hi => (take_drop_get _ _ _ _ _).1 hi
      have hcap : ∀ (i : Nat) row, ((xs.drop off).take len)[i]? = some row → cap ≠ 0 := fun i row hi => by have := (hrow i row hi).1; omega
      have := VR.imm (F := F') (ρ := ρ) (xs := (xs.drop off).take len) (ex := ex') (a := a) (cap := cap) l.sz c e (0, 0) (fun i j => (c[l.o + (off + i) * l.sz + j]?).getD undef) (by omega)
        (fun h => by rw [hll]; exact hx (he h)) (fun _ => hs) (fun _ => by rw [hk]; exact hF')
        (fun row hrow' => by
          obtain ⟨i, hi⟩ := List.getElem?_of_mem hrow'
          exact (k6 _ _ (hrow i row hi).2).1)
        (fun i row hi j x hj => by
          obtain ⟨_, y, p2, _⟩ := (k6 _ _ (hrow i row hi).2).2 j x hj
          have e1 : a.off + i * l.sz + j = l.o + (off + i) * l.sz + j := by rw [ha (hcap i row hi), Nat.add_mul]; omega
          rw [e1, p2]; rfl)
        (fun i row hi j x hj => by
          obtain ⟨_, y, p2, p3⟩ := (k6 _ _ (hrow i row hi).2).2 j x hj
          rw [p2]
          exact p3.mono hF (Lay.le_refl _))
      rwa [hll] at this

/-- One part of a struct is told another way. -/
theorem Frz.agg {σ σ' : H} {cs : List V} {i : Nat} {v v' : V} (hi : cs[i]? = some v) (h : Frz P σ v v' σ') : Frz P σ (.agg cs) (.agg (cs.set i v')) σ' := by
  intro W ρ F G w u hr hv
  cases hv with
  | agg ys hl hc =>
    have hlt : i < ys.length := by
      rw [hl]
      rcases Nat.lt_or_ge i cs.length with h | h
      · exact h
      · rw [List.getElem?_eq_none h] at hi; simp at hi
    have hy : ys[i]? = some ys[i] := by simp [hlt]
    obtain ⟨F', a1, a2, a3⟩ := h W ρ F G w _ hr (hc i v _ hi hy)
    refine ⟨F', a1, a2, .agg ys (by simp [hl]) fun j x y hx hyj => ?_⟩
    by_cases e : j = i
    · subst e
      rw [hy] at hyj; injection hyj with hyj; subst hyj
      rw [List.getElem?_set_self (by omega)] at hx
      injection hx with hx; subst hx
      exact a3
    · rw [List.getElem?_set_ne (Ne.symm e)] at hx
      exact (hc j x y hx hyj).mono a1 (Lay.le_refl _)

theorem Frz.tup {σ σ' : H} {cs : List V} {i : Nat} {v v' : V} (hi : cs[i]? = some v) (h : Frz P σ v v' σ') : Frz P σ (.tup cs) (.tup (cs.set i v')) σ' := by
  intro W ρ F G w u hr hv
  cases hv with
  | tup ys hl hc =>
    have hlt : i < ys.length := by
      rw [hl]
      rcases Nat.lt_or_ge i cs.length with h | h
      · exact h
      · rw [List.getElem?_eq_none h] at hi; simp at hi
    have hy : ys[i]? = some ys[i] := by simp [hlt]
    obtain ⟨F', a1, a2, a3⟩ := h W ρ F G w _ hr (hc i v _ hi hy)
    refine ⟨F', a1, a2, .tup ys (by simp [hl]) fun j x y hx hyj => ?_⟩
    by_cases e : j = i
    · subst e
      rw [hy] at hyj; injection hyj with hyj; subst hyj
      rw [List.getElem?_set_self (by omega)] at hx
      injection hx with hx; subst hx
      exact a3
    · rw [List.getElem?_set_ne (Ne.symm e)] at hx
      exact (hc j x y hx hyj).mono a1 (Lay.le_refl _)

theorem Run.frz {f : FuncId} {args : List V} {σ : H} {Q : V → H → Prop} (h : Run P f args σ fun r σ' => ∃ r' σ'', Frz P σ' r r' σ'' ∧ Q r' σ'') : Run P f args σ Q := by
  intro W ρ F G w ys hr hy
  refine (h W ρ F G w ys hr hy).mono ?_
  rintro e w' ⟨v, r, σ', ρ', F', he, ⟨r', σ'', hz, hq⟩, h1, h2, h3, h4⟩
  obtain ⟨F'', a1, a2, a3⟩ := hz W ρ' F' G w' v h3 h4
  exact ⟨v, r', σ'', ρ', F'', he, hq, h1, Part.le_trans h2 a1, a2, a3⟩

theorem AOps.frz {N : Nat} {ops : Array Oper} {l : List Nat} {t : Env} {σ σ' : H} {Q : Env → H → Prop} (i : Nat) {v v' : V} (hi : t i = v) (hz : Frz P σ v v' σ')
    (h : AOps P N ops l (upd t i v') σ' Q) (mono : ∀ (a : Act) (w : World) (Q Q' : Exit → Act → World → Prop), (∀ e a w, Q e a w → Q' e a w) → wpOps P ops Q l a w → wpOps P ops Q' l a w) : AOps P N ops l t σ Q := by
  intro W ρ F G a w hr hs
  obtain ⟨F', a1, a2, a3⟩ := hz W ρ F G w _ hr (hi ▸ hs.slot i)
  have hs' : Slots N F' ρ (upd t i v') a := ⟨hs.defers, hs.size, fun j => by
    by_cases e : j = i
    · subst e; rw [upd_same]; exact a3
    · rw [upd_ne _ _ e]; exact (hs.slot j).mono a1 (Lay.le_refl _)⟩
  exact mono a w _ _ (fun e a w l => l.mono (Lay.le_refl _) a1 fun _ _ _ x => x) (h W ρ F' G a w a2 hs')

theorem ACode.frz {N : Nat} {c : Code} {t : Env} {σ σ' : H} {Q : Exit → Env → H → Prop} (i : Nat) {v v' : V} (hi : t i = v) (hz : Frz P σ v v' σ')
    (h : ACode P N c (upd t i v') σ' Q) : ACode P N c t σ Q := by
  intro W ρ F G a w hr hs
  obtain ⟨F', a1, a2, a3⟩ := hz W ρ F G w _ hr (hi ▸ hs.slot i)
  have hs' : Slots N F' ρ (upd t i v') a := ⟨hs.defers, hs.size, fun j => by
    by_cases e : j = i
    · subst e; rw [upd_same]; exact a3
    · rw [upd_ne _ _ e]; exact (hs.slot j).mono a1 (Lay.le_refl _)⟩
  exact wp_mono (h W ρ F' G a w a2 hs') fun e a w l => l.mono (Lay.le_refl _) a1 fun _ _ _ x => x

end Go.Proofs.Ytngbibpmaofamaa.Ab

/- The abstract calculus, memory: a new block, a store, and the operations that only compute. -/
-- Ab3
namespace Go.Proofs.Ytngbibpmaofamaa.Ab
open Go

variable {P : Program}

theorem VR.cells {F : Part} {ρ : Lay} {v : V} {u : Value} (h : VR F ρ v u) (h1 : v.cells.all V.one = true) :
    u.cells.toList.length = v.cells.length ∧ ∀ (i : Nat) x y, v.cells[i]? = some x → u.cells.toList[i]? = some y → VR F ρ x y := by
  have single : ∀ {v : V} {u : Value}, v.cells = [v] → u.cells = #[u] → VR F ρ v u → u.cells.toList.length = v.cells.length ∧ ∀ (i : Nat) x y, v.cells[i]? = some x → u.cells.toList[i]? = some y → VR F ρ x y := by
    intro v u e1 e2 h
    rw [e1, e2]
    refine ⟨rfl, fun i x y hx hy => ?_⟩
    cases i with
    | zero => simp at hx hy; subst hx; subst hy; exact h
    | succ i => simp at hx
  cases h with
  | agg ys hl h => exact ⟨by simpa [Value.cells, V.cells] using hl, fun i x y hx hy => h i x y (by simpa [V.cells] using hx) (by simpa [Value.cells] using hy)⟩
  | tup ys hl h => simp [V.cells, V.one] at h1
  | junk => simp [V.cells, V.one] at h1
  | bool b => exact single rfl rfl (.bool b)
  | int k n => exact single rfl rfl (.int k n)
  | str s => exact single rfl rfl (.str s)
  | nilp => exact single rfl rfl .nilp
  | ptr h => exact single rfl rfl (.ptr h)
  | iptr y h hc hv => exact single rfl rfl (.iptr y h hc hv)
  | nils => exact single rfl rfl .nils
  | sl h hz hl hx hk hs ha hn => exact single rfl rfl (.sl h hz hl hx hk hs ha hn)
  | imm sz cc e fr y hl hx hs h hw hc hv => exact single rfl rfl (.imm sz cc e fr y hl hx hs h hw hc hv)
  | imm0 => exact single rfl rfl .imm0
  | nilm => exact single rfl rfl .nilm
  | mp h => exact single rfl rfl (.mp h)
  | nilf => exact single rfl rfl .nilf
  | fn ys hl h => exact single rfl rfl (.fn ys hl h)

/-- A new block of rows. -/
theorem Rel.allocAt {W : World} {σ : H} {ρ : Lay} {F G : Part} {w : World} (h : Rel P W σ ρ F G w) {n : Nat} (hn : σ.use n = false) {e : TypeId} {xs : List (List V)} {cs : Array Value}
    (hs : xs.length * P.cellsOf e ≤ cs.size)
    (hc : ∀ (i : Nat) row, xs[i]? = some row → row.length = P.cellsOf e ∧ ∀ (j : Nat) x, row[j]? = some x → x.one = true ∧ ∃ y, cs[i * P.cellsOf e + j]? = some y ∧ VR F ρ x y) :
    ∃ ρ' : Lay, ρ.le ρ' ∧ ρ' n = some ⟨w.heap.size, 0, e, P.cellsOf e, cs.size⟩ ∧ Rel P W (σ.allocAt n (.rows e xs)) ρ' F G { w with heap := w.heap.push (.cells cs e) } := by
  have hρn := h.fresh n hn
  let ρ' : Lay := fun b => if b = n then some ⟨w.heap.size, 0, e, P.cellsOf e, cs.size⟩ else ρ b
  have hle : ρ.le ρ' := by
    intro b l hb
    show (if b = n then _ else ρ b) = some l
    rw [if_neg (by intro e; subst e; rw [hρn] at hb; simp at hb), hb]
  have hpush : ∀ (k : Nat) o, w.heap[k]? = some o → (w.heap.push (.cells cs e))[k]? = some o := by
    intro k o hk
    rw [Array.getElem?_push]
    split
    · rename_i e1; rw [e1] at hk; simp at hk
    · exact hk
  have hlt : ∀ (k : Nat) o, w.heap[k]? = some o → k < w.heap.size := by
    intro k o hk
    rcases Nat.lt_or_ge k w.heap.size with h | h
    · exact h
    · rw [Array.getElem?_eq_none h] at hk; simp at hk
  have hF : F w.heap.size = none := by
    cases hx : F w.heap.size with
    | none => rfl
    | some o => exact absurd (hlt _ _ (h.frz _ _ hx)) (by omega)
  have hG : G w.heap.size = none := by
    cases hx : G w.heap.size with
    | none => rfl
    | some o => exact absurd (hlt _ _ (h.frm _ _ hx)) (by omega)
  have old : ∀ b x, σ.get b = some x → b ≠ n := by intro b x hb e; subst e; rw [σ.wf _ _ hb] at hn; simp at hn
  have oldk : ∀ b x l, σ.get b = some x → ρ b = some l → l.k < w.heap.size := by
    intro b x l hb hl
    obtain ⟨l', g1, _, _, g4⟩ := h.live b x hb
    rw [hl] at g1; injection g1 with g1; subst g1
    cases x with
    | rows e xs => obtain ⟨_, _, c, g, _⟩ := g4; exact hlt _ _ g
    | map es => obtain ⟨es', cl, g, _⟩ := g4; exact hlt _ _ g
  refine ⟨ρ', hle, if_pos rfl, h.os, h.tape, h.out, fun k o hk => hpush k o (h.frz k o hk), fun k o hk => hpush k o (h.frm k o hk), h.fg, ?_, ?_, ?_⟩
  · intro b x hb
    rw [H.get_allocAt] at hb
    split at hb
    · rename_i hbn
      injection hb with hb
      subst hb
      subst hbn
      refine ⟨_, if_pos rfl, hF, hG, rfl, rfl, cs, ?_, rfl, by show 0 + xs.length * P.cellsOf e ≤ cs.size; omega, fun i row hi => ⟨(hc i row hi).1, fun j x hj => ?_⟩⟩
      · simp
      · obtain ⟨h1, y, h2, h3⟩ := (hc i row hi).2 j x hj
        exact ⟨h1, y, by rw [← h2]; congr 1; show 0 + i * P.cellsOf e + j = _; omega, h3.mono (Part.le_refl _) hle⟩
    · obtain ⟨l, g1, g2, g3, g4⟩ := h.live b x hb
      refine ⟨l, hle _ _ g1, g2, g3, ?_⟩
      cases x with
      | rows e xs =>
        obtain ⟨k1, k2, c, k3, k4, k5, k6⟩ := g4
        refine ⟨k1, k2, c, hpush _ _ k3, k4, k5, fun i row hi => ⟨(k6 i row hi).1, fun j x hj => ?_⟩⟩
        obtain ⟨m1, y, m2, m3⟩ := (k6 i row hi).2 j x hj
        exact ⟨m1, y, m2, m3.mono (Part.le_refl _) hle⟩
      | map es =>
        obtain ⟨es', cl, k1, k2, k3, k4⟩ := g4
        exact ⟨es', cl, hpush _ _ k1, k2, k3, fun i p e hi he => ⟨(k4 i p e hi he).1.mono (Part.le_refl _) hle, (k4 i p e hi he).2.mono (Part.le_refl _) hle⟩⟩
  · intro b b' x x' l l' hb hb' hl hl' hk
    rw [H.get_allocAt] at hb hb'
    change (if b = n then _ else ρ b) = some l at hl
    change (if b' = n then _ else ρ b') = some l' at hl'
    by_cases e1 : b = n
    · by_cases e2 : b' = n
      · rw [e1, e2]
      · rw [if_pos e1] at hl
        rw [if_neg e2] at hl' hb'
        injection hl with hl
        have := oldk b' x' l' hb' hl'
        rw [← hk, ← hl] at this
        exact absurd this (Nat.lt_irrefl _)
    · rw [if_neg e1] at hl hb
      by_cases e2 : b' = n
      · rw [if_pos e2] at hl'
        injection hl' with hl'
        have := oldk b x l hb hl
        rw [hk, ← hl'] at this
        exact absurd this (Nat.lt_irrefl _)
      · rw [if_neg e2] at hl' hb'
        exact h.inj b b' x x' l l' hb hb' hl hl' hk
  · intro b hb
    have hb' : b ≠ n ∧ σ.use b = false := by simpa [H.allocAt] using hb
    show (if b = n then _ else ρ b) = none
    rw [if_neg hb'.1]
    exact h.fresh b hb'.2

/-- Cells are written in one row of an own block. -/
def rowSet (row : List V) (c : Nat) (new : List V) : List V := row.take c ++ new ++ row.drop (c + new.length)

theorem rowSet_length {row : List V} {c : Nat} {new : List V} (h : c + new.length ≤ row.length) : (rowSet row c new).length = row.length := by
  simp [rowSet]; omega

theorem rowSet_get {row : List V} {c : Nat} {new : List V} (h : c + new.length ≤ row.length) (j : Nat) :
    (rowSet row c new)[j]? = if c ≤ j ∧ j < c + new.length then new[j - c]? else row[j]? := by
  unfold rowSet
  by_cases h1 : j < c
  · rw [if_neg (by omega), List.append_assoc, List.getElem?_append_left (by simp; omega), List.getElem?_take, if_pos h1]
  · by_cases h2 : j < c + new.length
    · rw [if_pos ⟨by omega, h2⟩, List.append_assoc, List.getElem?_append_right (by simp; omega), List.getElem?_append_left (by simp; omega)]
      congr 1
      simp; omega
    · rw [if_neg (by omega), List.getElem?_append_right (by simp; omega), List.getElem?_drop]
      congr 1
      simp; omega

def astore (P : Program) (σ : H) (ty : TypeId) (p v : V) : Option H :=
  match p with
  | .ptr b r c =>
    match σ.get b with
    | some (.rows e xs) =>
      match xs[r]? with
      | some row => if (P.info? ty).isSome = true ∧ v.cells.length = P.cellsOf ty ∧ c + v.cells.length ≤ row.length ∧ v.cells.all V.one = true then some (σ.set b (.rows e (xs.set r (rowSet row c v.cells)))) else none
      | none => none
    | _ => none
  | _ => none

theorem heap_setRow (w : World) (g : Nat) (cs : Array Value) (c : Array Value) (e : TypeId) (fr : Nat × Nat) (h : w.heap[g]? = some (.cells c e fr)) (k : Nat) :
    (w.setRow g cs).heap[k]? = if k = g then some (.cells cs e fr) else w.heap[k]? := by
  by_cases hk : k = g
  · subst hk; rw [if_pos rfl]; exact setRow_heap w k c cs e fr h
  · rw [if_neg hk]
    simp only [World.setRow, Array.getElem?_modify]
    rw [if_neg (fun x => hk x.symm)]

/-- An own block of rows is written. -/
theorem Rel.setRows {W : World} {σ : H} {ρ : Lay} {F G : Part} {w : World} (h : Rel P W σ ρ F G w) {b : Nat} {e : TypeId} {xs xs' : List (List V)} {l : Loc} {c c' : Array Value}
    (hb : σ.get b = some (.rows e xs)) (hl : ρ b = some l) (hh : w.heap[l.k]? = some (.cells c e (0, 0))) (hz : c'.size = c.size) (hn : l.o + xs'.length * l.sz ≤ l.n)
    (hr : ∀ (i : Nat) row, xs'[i]? = some row → row.length = l.sz ∧ ∀ (j : Nat) x, row[j]? = some x → x.one = true ∧ ∃ y, c'[l.o + i * l.sz + j]? = some y ∧ VR F ρ x y) :
    Rel P W (σ.set b (.rows e xs')) ρ F G (w.setRow l.k c') := by
  obtain ⟨l', g1, g2, g3, g4⟩ := h.live b _ hb
  rw [hl] at g1; injection g1 with g1; subst g1
  obtain ⟨k1, k2, cc, k3, k4, k5, k6⟩ := g4
  rw [hh] at k3
  injection k3 with k3
  injection k3 with k3
  subst k3
  have hheap := heap_setRow w l.k c' c e (0, 0) hh
  refine ⟨h.os, h.tape, h.out, ?_, ?_, h.fg, ?_, ?_, h.fresh⟩
  · intro k o hk
    rw [hheap, if_neg (by intro e; rw [e, g2] at hk; simp at hk)]
    exact h.frz k o hk
  · intro k o hk
    rw [hheap, if_neg (by intro e; rw [e, g3] at hk; simp at hk)]
    exact h.frm k o hk
  · intro b2 x2 hb2
    by_cases e2 : b2 = b
    · subst e2
      rw [H.get_set_same hb] at hb2
      injection hb2 with hb2
      subst hb2
      refine ⟨l, hl, g2, g3, k1, k2, c', by rw [hheap, if_pos rfl], by rw [hz, k4], hn, hr⟩
    · rw [H.get_set_ne e2] at hb2
      obtain ⟨l2, m1, m2, m3, m4⟩ := h.live b2 x2 hb2
      have hne : l2.k ≠ l.k := fun e => e2 (h.inj b2 b _ _ _ _ hb2 hb m1 hl e)
      refine ⟨l2, m1, m2, m3, ?_⟩
      cases x2 with
      | rows e xs =>
        obtain ⟨n1, n2, cc, n3, n4, n5, n6⟩ := m4
        exact ⟨n1, n2, cc, by rw [hheap, if_neg hne]; exact n3, n4, n5, n6⟩
      | map es =>
        obtain ⟨es', cl, n1, n2, n3, n4⟩ := m4
        exact ⟨es', cl, by rw [hheap, if_neg hne]; exact n1, n2, n3, n4⟩
  · intro b1 b2 x1 x2 l1 l2 h1 h2
    have c1 : ∃ y, σ.get b1 = some y := by
      by_cases e : b1 = b
      · exact ⟨_, e ▸ hb⟩
      · exact ⟨x1, by rwa [H.get_set_ne e] at h1⟩
    have c2 : ∃ y, σ.get b2 = some y := by
      by_cases e : b2 = b
      · exact ⟨_, e ▸ hb⟩
      · exact ⟨x2, by rwa [H.get_set_ne e] at h2⟩
    obtain ⟨y1, c1⟩ := c1
    obtain ⟨y2, c2⟩ := c2
    exact h.inj b1 b2 y1 y2 l1 l2 c1 c2

theorem seg_get (l new : List Value) (o : Nat) (h : o + new.length ≤ l.length) (j : Nat) :
    (l.take o ++ new ++ l.drop (o + new.length))[j]? = if o ≤ j ∧ j < o + new.length then new[j - o]? else l[j]? := by
  by_cases h1 : j < o
  · rw [if_neg (by omega), List.append_assoc, List.getElem?_append_left (by simp; omega), List.getElem?_take, if_pos h1]
  · by_cases h2 : j < o + new.length
    · rw [if_pos ⟨by omega, h2⟩, List.append_assoc, List.getElem?_append_right (by simp; omega), List.getElem?_append_left (by simp; omega)]
      congr 1
      simp; omega
    · rw [if_neg (by omega), List.getElem?_append_right (by simp; omega), List.getElem?_drop]
      congr 1
      simp; omega

theorem Rel.store {W : World} {σ σ' : H} {ρ : Lay} {F G : Part} {w : World} (h : Rel P W σ ρ F G w) {ty : TypeId} {p v : V} (hst : astore P σ ty p v = some σ') {u y : Value} (hp : VR F ρ p u) (hv : VR F ρ v y) :
    ∃ a w', u = .pointer (some a) ∧ (storeVar ty a y).run P w = .ok () w' ∧ Rel P W σ' ρ F G w' := by
  cases hp with
  | ptr hb =>
    rename_i b r c l
    simp only [astore] at hst
    cases hg : σ.get b with
    | none => rw [hg] at hst; simp at hst
    | some x =>
      rw [hg] at hst
      cases x with
      | map es => simp at hst
      | rows e xs =>
        simp only at hst
        cases hx : xs[r]? with
        | none => rw [hx] at hst; simp at hst
        | some row =>
          rw [hx] at hst
          simp only at hst
          split at hst
          · rename_i hcond
            obtain ⟨hi, hlen, hfit, hone⟩ := hcond
            injection hst with hst
            subst hst
            obtain ⟨l', g1, g2, g3, g4⟩ := h.live b _ hg
            rw [hb] at g1; injection g1 with g1; subst g1
            obtain ⟨k1, k2, cc, k3, k4, k5, k6⟩ := g4
            obtain ⟨hrl, hrv⟩ := k6 r row hx
            obtain ⟨hyl, hyv⟩ := hv.cells hone
            have hrlt : r < xs.length := by
              rcases Nat.lt_or_ge r xs.length with h | h
              · exact h
              · rw [List.getElem?_eq_none h] at hx; simp at hx
            have hrs : r * l.sz + l.sz ≤ xs.length * l.sz := by
              have := Nat.mul_le_mul_right l.sz (show r + 1 ≤ xs.length from hrlt)
              rw [Nat.add_mul, Nat.one_mul] at this
              exact this
            have hfit' : l.o + r * l.sz + c + 0 + y.cells.toList.length ≤ cc.size := by rw [hyl, k4]; omega
            have hall : ∀ v ∈ y.cells.toList, v.oneCell' = true := by
              intro z hz
              obtain ⟨i, hi⟩ := List.getElem?_of_mem hz
              have hilt : i < v.cells.length := by
                rw [← hyl]
                rcases Nat.lt_or_ge i y.cells.toList.length with h | h
                · exact h
                · rw [List.getElem?_eq_none h] at hi; simp at hi
              have := hyv i v.cells[i] z (by simp [hilt]) hi
              exact this.one (List.all_eq_true.1 hone _ (List.getElem_mem hilt))
            have hrun := run_storeCells_at P l.k (l.o + r * l.sz + c) e y.cells.toList 0 cc w k3 (by omega) hall
            obtain ⟨inf, hinf⟩ := Option.isSome_iff_exists.1 hi
            refine ⟨_, w.setRow l.k (cc.toList.take (l.o + r * l.sz + c + 0) ++ y.cells.toList ++ cc.toList.drop (l.o + r * l.sz + c + 0 + y.cells.toList.length)).toArray, rfl, ?_, ?_⟩
            · have hsz : (y.cells.size ≠ P.cellsOf ty) = False := by
                have : y.cells.size = v.cells.length := by rw [← hyl, Array.length_toList]
                simp [this, hlen]
              simp only [storeVar, Sem.run_bind, run_sizeOf hinf, Result.andThen, hsz, if_false]
              exact hrun
            · refine h.setRows (c := cc) hg hb k3 ?_ (by simpa using k5) ?_
              · have hz2 := hfit'
                simp only [Array.length_toList] at hz2
                simp only [List.size_toArray, List.length_append, List.length_take, List.length_drop, Array.length_toList]
                omega
              · intro i row' hi'
                have hseg := fun j => seg_get cc.toList y.cells.toList (l.o + r * l.sz + c) (by simp; simp at hfit'; omega) j
                have hread : ∀ j, ((cc.toList.take (l.o + r * l.sz + c + 0) ++ y.cells.toList ++ cc.toList.drop (l.o + r * l.sz + c + 0 + y.cells.toList.length)).toArray)[j]? =
                    if l.o + r * l.sz + c ≤ j ∧ j < l.o + r * l.sz + c + y.cells.toList.length then y.cells.toList[j - (l.o + r * l.sz + c)]? else cc[j]? := by
                  intro j
                  have := hseg j
                  simpa using this
                by_cases e1 : i = r
                · subst e1
                  rw [List.getElem?_set_self hrlt] at hi'
                  injection hi' with hi'
                  subst hi'
                  refine ⟨by rw [rowSet_length hfit, hrl], fun j x hj => ?_⟩
                  rw [rowSet_get hfit] at hj
                  split at hj
                  · rename_i hjc
                    have hjl : j - c < y.cells.toList.length := by rw [hyl]; omega
                    obtain ⟨z, hz⟩ : ∃ z, y.cells.toList[j - c]? = some z := ⟨_, List.getElem?_eq_getElem hjl⟩
                    refine ⟨List.all_eq_true.1 hone _ (mem_of_get hj), z, ?_, hyv _ _ _ hj hz⟩
                    rw [hread, if_pos (by omega), ← hz]
                    congr 1
                    omega
                  · rename_i hjc
                    obtain ⟨m1, z, m2, m3⟩ := hrv j x hj
                    refine ⟨m1, z, ?_, m3⟩
                    rw [hread, if_neg (by rw [hyl]; omega)]
                    exact m2
                · rw [List.getElem?_set_ne (Ne.symm e1)] at hi'
                  obtain ⟨n1, n2⟩ := k6 i row' hi'
                  refine ⟨n1, fun j x hj => ?_⟩
                  obtain ⟨m1, z, m2, m3⟩ := n2 j x hj
                  refine ⟨m1, z, ?_, m3⟩
                  have hjl : j < l.sz := by
                    rw [← n1]
                    rcases Nat.lt_or_ge j row'.length with h | h
                    · exact h
                    · rw [List.getElem?_eq_none h] at hj; simp at hj
                  rw [hread, if_neg]
                  · exact m2
                  · rw [hyl]
                    rcases Nat.lt_or_gt_of_ne e1 with h | h
                    · have := Nat.mul_le_mul_right l.sz (show i + 1 ≤ r from h)
                      rw [Nat.add_mul, Nat.one_mul] at this
                      omega
                    · have := Nat.mul_le_mul_right l.sz (show r + 1 ≤ i from h)
                      rw [Nat.add_mul, Nat.one_mul] at this
                      omega
          · simp at hst
  | _ => simp [astore] at hst

end Go.Proofs.Ytngbibpmaofamaa.Ab

/- The abstract calculus, the single operations: what each comes to over abstract values. -/
-- Ab4
namespace Go.Proofs.Ytngbibpmaofamaa.Ab
open Go

variable {P : Program}

section opers
variable {N : Nat} {o : Oper} {t : Env} {σ : H} {next : V → H → Prop}

theorem oper_value {v : V} {σ' : H} (h : next v σ') (hx : ∀ W ρ F G a w, Rel P W σ ρ F G w → Slots N F ρ t a →
    ∃ u w' ρ' F', (execOp a.eval o).run P w = .ok (.value u) w' ∧ ρ.le ρ' ∧ F.le F' ∧ Rel P W σ' ρ' F' G w' ∧ VR F' ρ' v u) : AOper P N o t σ next := by
  intro W ρ F G a w hr hs K QQ hK
  obtain ⟨u, w', ρ', F', h1, h2, h3, h4, h5⟩ := hx W ρ F G a w hr hs
  unfold Oper.wp
  rw [h1]
  exact hK v σ' ρ' F' u w' h h2 h3 h4 h5

theorem oper_pure {v : V} (h : next v σ) (hx : ∀ W ρ F G a w, Rel P W σ ρ F G w → Slots N F ρ t a →
    ∃ u, (execOp a.eval o).run P w = .ok (.value u) w ∧ VR F ρ v u) : AOper P N o t σ next :=
  oper_value h fun W ρ F G a w hr hs => let ⟨u, h1, h2⟩ := hx W ρ F G a w hr hs; ⟨u, w, ρ, F, h1, Lay.le_refl _, Part.le_refl _, hr, h2⟩

theorem oper_skip {σ' : H} (h : next .junk σ') (hx : ∀ W ρ F G a w, Rel P W σ ρ F G w → Slots N F ρ t a →
    ∃ w', (execOp a.eval o).run P w = .ok .skip w' ∧ Rel P W σ' ρ F G w') : AOper P N o t σ next := by
  intro W ρ F G a w hr hs K QQ hK
  obtain ⟨w', h1, h2⟩ := hx W ρ F G a w hr hs
  unfold Oper.wp
  rw [h1]
  exact hK .junk σ' ρ F undef w' h (Lay.le_refl _) (Part.le_refl _) h2 .junk

end opers

def azero (P : Program) (e : TypeId) : Option V := match P.info? e with
  | some i => i.zero.map cv
  | none => none

theorem run_zeroValue {e : TypeId} {z : V} (h : azero P e = some z) (F : Part) (ρ : Lay) : ∃ u, (∀ w : World, (zeroValue e).run P w = .ok u w) ∧ VR F ρ z u ∧ ∃ i, P.info? e = some i ∧ i.zero = some u := by
  unfold azero at h
  cases hi : P.info? e with
  | none => rw [hi] at h; simp at h
  | some i =>
    rw [hi] at h
    simp only at h
    cases hz : i.zero with
    | none => rw [hz] at h; simp at h
    | some u =>
      rw [hz] at h
      simp at h
      subst h
      exact ⟨u, fun w => by simp [zeroValue, typeInfo, hi, hz], vr_cv F ρ u, i, rfl, hz⟩

def anew (P : Program) (σ : H) (e : TypeId) (v : V) : Option (V × H) :=
  if v.cells.length = P.cellsOf e ∧ v.cells.all V.one = true then some (.ptr σ.nx 0 0, σ.alloc (.rows e [v.cells])) else none

theorem Rel.newVar {W : World} {σ σ' : H} {ρ : Lay} {F G : Part} {w : World} (h : Rel P W σ ρ F G w) {e : TypeId} {v r : V} {u : Value} (hv : VR F ρ v u) (hn : anew P σ e v = some (r, σ')) :
    ∃ a w' ρ', (newVar e u).run P w = .ok a w' ∧ ρ.le ρ' ∧ Rel P W σ' ρ' F G w' ∧ VR F ρ' r (.pointer (some a)) := by
  unfold anew at hn
  split at hn
  · rename_i hc
    obtain ⟨h1, h2⟩ := hc
    injection hn with hn
    injection hn with hr hσ
    subst hr; subst hσ
    obtain ⟨k1, k2⟩ := hv.cells h2
    obtain ⟨ρ', g1, g2, g3⟩ := h.allocAt (n := σ.nx) (H.use_nx σ) (e := e) (xs := [v.cells]) (cs := u.cells) (by rw [← h1, ← k1]; simp) (by
      intro i row hi
      cases i with
      | succ i => simp at hi
      | zero =>
        simp at hi
        subst hi
        refine ⟨h1, fun j x hj => ⟨List.all_eq_true.1 h2 _ (mem_of_get hj), ?_⟩⟩
        have hlt : j < u.cells.toList.length := by
          rw [k1]
          rcases Nat.lt_or_ge j v.cells.length with h | h
          · exact h
          · rw [List.getElem?_eq_none h] at hj; simp at hj
        obtain ⟨y, hy⟩ : ∃ y, u.cells.toList[j]? = some y := ⟨_, List.getElem?_eq_getElem hlt⟩
        exact ⟨y, by simpa using hy, k2 j x y hj hy⟩)
    refine ⟨⟨w.heap.size, 0, none⟩, _, ρ', ?_, g1, g3, ?_⟩
    · simp only [Go.newVar, newRow, Sem.run_bind, run_newObj, Result.andThen]
      rfl
    · have := VR.ptr (F := F) (ρ := ρ') (b := σ.nx) (r := 0) (c := 0) g2
      simpa using this
  · simp at hn

/-- Cells that are written one part after another. -/
def afill (place : Nat → Option (Nat × Nat)) (cells : List V) : List (Nat × V) → Option (List V)
  | [] => some cells
  | (i, v) :: rest =>
    match place i with
    | none => none
    | some (off, size) => if v.cells.length = size ∧ off + size ≤ cells.length ∧ v.cells.all V.one = true then afill place (rowSet cells off v.cells) rest else none

theorem foldl_put (off : Nat) : ∀ (l : List Value) (k : Nat) (cells : Array Value), off + k + l.length ≤ cells.size →
    ((l.zipIdx k).foldl (fun cs (c, j) => cs.setIfInBounds (off + j) c) cells).size = cells.size ∧
    ∀ m, ((l.zipIdx k).foldl (fun cs (c, j) => cs.setIfInBounds (off + j) c) cells)[m]? = if off + k ≤ m ∧ m < off + k + l.length then l[m - (off + k)]? else cells[m]?
  | [], k, cells, _ => ⟨rfl, fun m => by rw [if_neg (by simp)]; rfl⟩
  | v :: l, k, cells, h => by
    obtain ⟨h1, h2⟩ := foldl_put off l (k + 1) (cells.setIfInBounds (off + k) v) (by simp at h ⊢; omega)
    refine ⟨by simpa [List.zipIdx_cons] using h1, fun m => ?_⟩
    have := h2 m
    simp only [List.zipIdx_cons, List.foldl_cons]
    rw [this]
    simp at h
    by_cases e : m = off + k
    · subst e
      rw [if_neg (by omega), if_pos (by simp), Array.getElem?_setIfInBounds, if_pos rfl, if_pos (by omega)]
      simp
    · by_cases c : off + k < m ∧ m < off + k + (l.length + 1)
      · rw [if_pos (by omega), if_pos (by simp; omega)]
        rw [show m - (off + k) = m - (off + (k + 1)) + 1 by omega]
        simp
      · rw [if_neg (by omega), if_neg (by simp; omega), Array.getElem?_setIfInBounds, if_neg (fun x => e x.symm)]

theorem fill_step (off : Nat) (cells cs : Array Value) (h : off + cells.size ≤ cs.size) :
    (cells.zipIdx.foldl (fun cs (c, j) => cs.setIfInBounds (off + j) c) cs).toList = cs.toList.take off ++ cells.toList ++ cs.toList.drop (off + cells.toList.length) := by
  have e : cells.zipIdx.foldl (fun cs (c, j) => cs.setIfInBounds (off + j) c) cs = (cells.toList.zipIdx 0).foldl (fun cs (c, j) => cs.setIfInBounds (off + j) c) cs := by
    rw [← Array.foldl_toList, Array.toList_zipIdx]
  rw [e]
  obtain ⟨h1, h2⟩ := foldl_put off cells.toList 0 cs (by simpa using h)
  apply List.ext_getElem?
  intro m
  rw [seg_get _ _ _ (by simpa using h)]
  have := h2 m
  simpa using this

theorem fill_sound {F : Part} {ρ : Lay} (place : Nat → Option (Nat × Nat)) : ∀ (ps : List (Nat × V)) (qs : List (Nat × Value)) (cells out : List V) (cs : Array Value),
    VRL F ρ cells cs.toList → ps.length = qs.length → (∀ (i : Nat) p q, ps[i]? = some p → qs[i]? = some q → p.1 = q.1 ∧ VR F ρ p.2 q.2) → afill place cells ps = some out →
    ∃ outc, Instr.fill place cs qs = some outc ∧ VRL F ρ out outc.toList ∧ out.length = cells.length
  | [], [], cells, out, cs, h, _, _, hf => by simp [afill] at hf; subst hf; exact ⟨cs, rfl, h, rfl⟩
  | [], q :: qs, cells, out, cs, h, hl, _, hf => by simp at hl
  | p :: ps, [], cells, out, cs, h, hl, _, hf => by simp at hl
  | (i, v) :: ps, (i', u) :: qs, cells, out, cs, h, hl, hp, hf => by
    obtain ⟨e1, hv⟩ := hp 0 _ _ rfl rfl
    change i = i' at e1
    change VR F ρ v u at hv
    subst e1
    simp only [afill] at hf
    cases hpl : place i with
    | none => rw [hpl] at hf; simp at hf
    | some os =>
      obtain ⟨off, size⟩ := os
      rw [hpl] at hf
      simp only at hf
      split at hf
      · rename_i hc
        obtain ⟨c1, c2, c3⟩ := hc
        obtain ⟨k1, k2⟩ := VR.cells hv c3
        have hz : u.cells.size = size := by rw [← c1, ← k1]; simp
        have hcs : cs.size = cells.length := by rw [← h.1]; simp
        have hstep := fill_step off u.cells cs (by omega)
        obtain ⟨outc, g1, g2, g3⟩ := fill_sound place ps qs (rowSet cells off v.cells) out (u.cells.zipIdx.foldl (fun cs (c, j) => cs.setIfInBounds (off + j) c) cs) (by
          rw [hstep]
          constructor
          · rw [rowSet_length (by omega)]
            have hcs' : cs.toList.length = cs.size := Array.length_toList
            have hz' : u.cells.toList.length = u.cells.size := Array.length_toList
            simp only [List.length_append, List.length_take, List.length_drop]
            omega
          · intro m x y hx hy
            rw [rowSet_get (by omega)] at hx
            rw [seg_get _ _ _ (by rw [k1]; have hcs' : cs.toList.length = cs.size := Array.length_toList; omega)] at hy
            rw [k1] at hy
            split at hx
            · rename_i hm; rw [if_pos hm] at hy; exact k2 _ _ _ hx hy
            · rename_i hm; rw [if_neg hm] at hy; exact h.2 _ _ _ hx hy) (by simpa using hl) (fun j p q hp' hq' => hp (j + 1) p q (by simpa using hp') (by simpa using hq')) hf
        refine ⟨outc, ?_, g2, by rw [g3, rowSet_length (by omega)]⟩
        simp only [Instr.fill, hpl]
        rw [if_neg (by simp; omega)]
        exact g1
      · simp at hf

/-- A struct or an array put together. -/
def abuild (P : Program) (ty : TypeId) (parts : List (Nat × V)) : Option V :=
  match azero P ty, P.underlying ty with
  | some z, some (.struct fields) =>
    if (fields.toList.all fun f => (P.info? f.type).isSome) = true then (afill (fun i => (fields[i]?).map fun f => (f.offset, P.cellsOf f.type)) z.cells parts).map .agg else none
  | some z, some (.array _ elem) => if (P.info? elem).isSome = true then (afill (fun i => some (i * P.cellsOf elem, P.cellsOf elem)) z.cells parts).map .agg else none
  | _, _ => none

theorem run_places (fields : Array Field) (h : (fields.toList.all fun f => (P.info? f.type).isSome) = true) (w : World) :
    (fields.mapM fun f => do pure (f.offset, ← sizeOf f.type) : Sem (Array (Nat × Nat))).run P w = .ok (fields.map fun f => (f.offset, P.cellsOf f.type)) w := by
  have key : ∀ (l : List Field), (l.all fun f => (P.info? f.type).isSome) = true → (l.mapM fun f => do pure (f.offset, ← sizeOf f.type) : Sem (List (Nat × Nat))).run P w = .ok (l.map fun f => (f.offset, P.cellsOf f.type)) w := by
    intro l
    induction l with
    | nil => intro _; rfl
    | cons f l ih =>
      intro hl
      simp only [List.all_cons, Bool.and_eq_true] at hl
      obtain ⟨i, hi⟩ := Option.isSome_iff_exists.1 hl.1
      rw [List.mapM_cons]
      simp only [Sem.run_bind, run_sizeOf hi, Result.andThen, Sem.run_pure, ih hl.2, List.map_cons]
  rw [Array.mapM_eq_mapM_toList]
  simp only [map_eq_pure_bind, Sem.run_bind, key _ h, Result.andThen]
  show Result.ok _ w = _
  congr 1
  apply Array.ext'
  simp

theorem cv_cells_one {F : Part} {ρ : Lay} {z : V} {u : Value} (h : VR F ρ z u) (hz : z.cells.all V.one = true) : VRL F ρ z.cells u.cells.toList := h.cells hz

theorem build_sound {F : Part} {ρ : Lay} {ty : TypeId} {ps : List (Nat × V)} {qs : Array (Nat × Value)} {v : V} (hl : ps.length = qs.toList.length)
    (hp : ∀ (i : Nat) p q, ps[i]? = some p → qs.toList[i]? = some q → p.1 = q.1 ∧ VR F ρ p.2 q.2)
    (hz : ∀ z, azero P ty = some z → z.cells.all V.one = true) (h : abuild P ty ps = some v) (w : World) : ∃ u, (Instr.build ty qs).run P w = .ok u w ∧ VR F ρ v u := by
  unfold abuild at h
  cases hz0 : azero P ty with
  | none => rw [hz0] at h; simp at h
  | some z =>
    obtain ⟨u0, r1, r2, i0, r3, r4⟩ := run_zeroValue hz0 F ρ
    have hcells := r2.cells (hz z hz0)
    cases hu : P.underlying ty with
    | none => rw [hz0, hu] at h; simp at h
    | some d =>
      rw [hz0, hu] at h
      cases d with
      | struct fields =>
        simp only at h
        split at h
        · rename_i hall
          cases ha : afill (fun i => (fields[i]?).map fun f => (f.offset, P.cellsOf f.type)) z.cells ps with
          | none => rw [ha] at h; simp at h
          | some out =>
            rw [ha] at h
            simp at h
            subst h
            obtain ⟨outc, g1, g2, _⟩ := fill_sound _ ps qs.toList z.cells out u0.cells hcells hl hp ha
            refine ⟨.agg outc, ?_, by have := VR.agg (F := F) (ρ := ρ) (cs := out) outc.toList g2.1 g2.2; simpa using this⟩
            have hplace : (fun (i : Nat) => (fields[i]?).map fun (f : Field) => (f.offset, P.cellsOf f.type)) = ((fields.map fun f => (f.offset, P.cellsOf f.type))[·]?) := by funext i; simp
            simp only [Instr.build, Sem.run_bind, r1, Result.andThen, run_underlying hu, run_places fields hall]
            rw [← hplace, g1]
            rfl
        · simp at h
      | array n elem =>
        simp only at h
        split at h
        · rename_i hi
          obtain ⟨ie, hie⟩ := Option.isSome_iff_exists.1 hi
          cases ha : afill (fun i => some (i * P.cellsOf elem, P.cellsOf elem)) z.cells ps with
          | none => rw [ha] at h; simp at h
          | some out =>
            rw [ha] at h
            simp at h
            subst h
            obtain ⟨outc, g1, g2, _⟩ := fill_sound _ ps qs.toList z.cells out u0.cells hcells hl hp ha
            refine ⟨.agg outc, ?_, by have := VR.agg (F := F) (ρ := ρ) (cs := out) outc.toList g2.1 g2.2; simpa using this⟩
            simp only [Instr.build, Sem.run_bind, r1, Result.andThen, run_underlying hu, run_sizeOf hie]
            rw [g1]
            rfl
        · simp at h
      | _ => simp at h

end Go.Proofs.Ytngbibpmaofamaa.Ab

/- The abstract calculus, numbers: what the operators come to. -/
-- Ab5
namespace Go.Proofs.Ytngbibpmaofamaa.Ab
open Go

variable {P : Program}

def acmp (op : BinOp) (a b : Int) : Option V := match op with
  | .eql => some (.bool (decide (a = b)))
  | .neq => some (.bool (decide (a ≠ b)))
  | .lss => some (.bool (decide (a < b)))
  | .leq => some (.bool (decide (a ≤ b)))
  | .gtr => some (.bool (decide (b < a)))
  | .geq => some (.bool (decide (b ≤ a)))
  | _ => none

def aint (op : BinOp) (k : IntKind) (a : Int) (k' : IntKind) (b : Int) : Option V := match op with
  | .shl => if 0 ≤ b then some (.int k (k.wrap (a * 2 ^ (min b.toNat k.bits)))) else none
  | .shr => if 0 ≤ b then some (.int k (a.fdiv (2 ^ (min b.toNat k.bits)))) else none
  | .add => if k = k' then some (.int k (k.wrap (a + b))) else none
  | .sub => if k = k' then some (.int k (k.wrap (a - b))) else none
  | .mul => if k = k' then some (.int k (k.wrap (a * b))) else none
  | .quo => if k = k' ∧ b ≠ 0 then some (.int k (k.wrap (a.tdiv b))) else none
  | .rem => if k = k' ∧ b ≠ 0 then some (.int k (a.tmod b)) else none
  | .and => if k = k' then some (.int k (k.wrap ((BitVec.ofInt k.bits a &&& BitVec.ofInt k.bits b).toNat))) else none
  | .or => if k = k' then some (.int k (k.wrap ((BitVec.ofInt k.bits a ||| BitVec.ofInt k.bits b).toNat))) else none
  | .xor => if k = k' then some (.int k (k.wrap ((BitVec.ofInt k.bits a ^^^ BitVec.ofInt k.bits b).toNat))) else none
  | op => if k = k' then acmp op a b else none

theorem aint_sound {F : Part} {ρ : Lay} {op : BinOp} {k k' : IntKind} {a b : Int} {v : V} (h : aint op k a k' b = some v) (xt : TypeId) (w : World) :
    ∃ u, (binOp op xt (.int k a) (.int k' b)).run P w = .ok u w ∧ VR F ρ v u := by
  cases op <;> simp only [aint, acmp] at h <;> first
    | (simp at h; done)
    | (split at h
       · rename_i hk
         injection h with h
         subst h
         first
           | (refine ⟨_, ?_, .int _ _⟩; simp [binOp, Op.shift, show ¬ b < 0 by omega]; done)
           | (obtain rfl := hk; refine ⟨_, ?_, .int _ _⟩; simp [binOp, Op.intArith, Op.intBits]; done)
           | (obtain ⟨rfl, hb⟩ := hk; refine ⟨_, ?_, .int _ _⟩; simp [binOp, Op.intDiv, hb]; done)
           | (obtain rfl := hk; refine ⟨_, ?_, .bool _⟩; simp [binOp, Op.intCmp]; first | done | rfl)
       · simp at h)

/-- Equality where one side may be nil; of truth values; of strings. -/
def aeq (d : Option TypeDesc) (x y : V) : Option Bool := match d, x, y with
  | some .bool, .bool a, .bool b => some (a == b)
  | some (.slice _), .nils, .nils => some true
  | some (.slice _), .nils, .sl .. | some (.slice _), .sl .., .nils | some (.slice _), .nils, .imm _ true | some (.slice _), .imm _ true, .nils
  | some (.slice _), .nils, .imm (_ :: _) _ | some (.slice _), .imm (_ :: _) _, .nils => some false
  | some (.pointer _), .nilp, .nilp => some true
  | some (.pointer _), .nilp, .ptr .. | some (.pointer _), .nilp, .iptr .. | some (.pointer _), .ptr .., .nilp | some (.pointer _), .iptr .., .nilp => some false
  | some (.map ..), .nilm, .nilm => some true
  | some (.map ..), .mp _, .nilm | some (.map ..), .nilm, .mp _ => some false
  | _, _, _ => none

theorem vr_imm_ex {F : Part} {ρ : Lay} {xs : List (List V)} {ex : Bool} {u : Value} (h : VR F ρ (.imm xs ex) u) (hx : ex = true ∨ xs ≠ []) : ∃ a n c, u = .slice (some a) n c := by
  cases h with
  | imm => exact ⟨_, _, _, rfl⟩
  | imm0 => simp at hx

theorem aeq_sound {F : Part} {ρ : Lay} {xt : TypeId} {x y : V} {b : Bool} (h : aeq (P.underlying xt) x y = some b) {a c : Value} (ha : VR F ρ x a) (hc : VR F ρ y c) (w : World) :
    (Op.equal xt a c).run P w = .ok b w := by
  unfold aeq at h
  unfold Op.equal Op.maxDepth
  rw [show (10000 : Nat) = 9999 + 1 from rfl, Op.equalIn]
  split at h
  case h_17 => simp at h
  all_goals rename_i hu
  all_goals injection h with h
  all_goals subst h
  all_goals try (rename_i hu2 _; simp only [Sem.run_bind, run_underlying hu2, Result.andThen])
  all_goals try (simp only [Sem.run_bind, run_underlying hu, Result.andThen])
  all_goals first
    | (cases ha; cases hc; first | rfl | (simp; done))
    | (obtain ⟨_, _, _, rfl⟩ := vr_imm_ex ha (by simp); cases hc; first | rfl | (simp; done))
    | (obtain ⟨_, _, _, rfl⟩ := vr_imm_ex hc (by simp); cases ha; first | rfl | (simp; done))

theorem rowRead_part {F : Part} {ρ : Lay} {ty : TypeId} {xs : List V} {c : Nat} {v : V} (h : rowRead P ty xs c = some v) {ys : List Value} (hl : ys.length = xs.length)
    (hv : ∀ (i : Nat) x y, xs[i]? = some x → ys[i]? = some y → VR F ρ x y) (w : World) : ∃ u, (part ty ys.toArray c).run P w = .ok u w ∧ VR F ρ v u := by
  unfold rowRead at h
  cases hu : P.underlying ty with
  | none => rw [hu] at h; simp at h
  | some d =>
    rw [hu] at h
    obtain ⟨i, hi⟩ := cellsOf_info hu
    by_cases ha : aggD d = true
    · simp only [ha, if_true] at h
      split at h
      · rename_i hle
        injection h with h
        subst h
        refine ⟨.agg (ys.toArray.extract c (c + P.cellsOf ty)), ?_, ?_⟩
        · simp only [part, Sem.run_bind, run_isAgg hu, ha, Result.andThen, if_true, run_sizeOf hi, Sem.run_pure]
        · have e : ys.toArray.extract c (c + P.cellsOf ty) = ((ys.drop c).take (P.cellsOf ty)).toArray := by
            apply Array.ext'
            simp [List.extract_eq_take_drop]
          rw [e]
          refine .agg _ (by simp [hl]) fun j x y hx hy => ?_
          rw [take_drop_get] at hx hy
          exact hv _ _ _ hx.2 hy.2
      · simp at h
    · have ha' : aggD d = false := by simpa using ha
      simp only [ha', Bool.false_eq_true, if_false] at h
      have hlt : c < ys.length := by
        rw [hl]
        rcases Nat.lt_or_ge c xs.length with h' | h'
        · exact h'
        · rw [List.getElem?_eq_none h'] at h; simp at h
      refine ⟨ys[c], ?_, hv c v ys[c] h (List.getElem?_eq_getElem hlt)⟩
      simp only [part, Sem.run_bind, run_isAgg hu, ha', Result.andThen, Bool.false_eq_true, if_false]
      simp [hlt]

def aeqFields (P : Program) (rec : TypeId → V → V → Option Bool) (xs ys : List V) : List Field → Option Bool
  | [] => some true
  | f :: fs =>
    if f.name ≠ "_" then
      match rowRead P f.type xs f.offset, rowRead P f.type ys f.offset with
      | some a, some b => match rec f.type a b with
        | some true => aeqFields P rec xs ys fs
        | some false => some false
        | none => none
      | _, _ => none
    else aeqFields P rec xs ys fs

def aeqItems (P : Program) (rec : TypeId → V → V → Option Bool) (e : TypeId) (n : Nat) (xs ys : List V) : List Nat → Option Bool
  | [] => some true
  | j :: js =>
    match rowRead P e xs (j * n), rowRead P e ys (j * n) with
    | some a, some b => match rec e a b with
      | some true => aeqItems P rec e n xs ys js
      | some false => some false
      | none => none
    | _, _ => none

/-- Equality of numbers, strings, structs and arrays. -/
def aeqIn (P : Program) : Nat → TypeId → V → V → Option Bool
  | 0, _, _, _ => none
  | d + 1, t, x, y => match P.underlying t, x, y with
    | some (.int _), .int k a, .int k' b => if k = k' then some (decide (a = b)) else none
    | some .bool, .bool a, .bool b => some (a == b)
    | some .string, .str a, .str b => some (a.toList == b.toList)
    | some (.struct fs), .agg xs, .agg ys => if P.stoodInHeld t = true then none else aeqFields P (aeqIn P d) xs ys fs.toList
    | some (.array n e), .agg xs, .agg ys => if (P.info? e).isSome = true then aeqItems P (aeqIn P d) e (P.cellsOf e) xs ys (List.range n) else none
    | _, _, _ => none

theorem aeqIn_sound {F : Part} {ρ : Lay} : ∀ (m d : Nat) (t : TypeId) (x y : V) (b : Bool), m ≤ d → aeqIn P m t x y = some b → ∀ (a c : Value), VR F ρ x a → VR F ρ y c → ∀ w : World,
    (Op.equalIn d t a c).run P w = .ok b w := by
  intro m
  induction m with
  | zero => intro d t x y b _ h; simp [aeqIn] at h
  | succ m ih =>
    intro d t x y b hd h a c ha hc w
    obtain ⟨d, rfl⟩ : ∃ d', d = d' + 1 := ⟨d - 1, by omega⟩
    have hd : m ≤ d := by omega
    have hfields : ∀ (fs : List Field) (xs ys : List V) (xs' ys' : List Value), xs'.length = xs.length → ys'.length = ys.length → (∀ (i : Nat) x y, xs[i]? = some x → xs'[i]? = some y → VR F ρ x y) →
        (∀ (i : Nat) x y, ys[i]? = some x → ys'[i]? = some y → VR F ρ x y) → aeqFields P (aeqIn P m) xs ys fs = some b → (Op.eqFields d xs'.toArray ys'.toArray fs).run P w = .ok b w := by
      intro fs xs ys xs' ys' l1 l2 v1 v2
      induction fs with
      | nil => intro h; simp [aeqFields] at h; subst h; simp [Op.eqFields]
      | cons f fs ih2 =>
        intro h
        simp only [aeqFields] at h
        simp only [Op.eqFields]
        by_cases hn : f.name ≠ "_"
        · rw [if_pos hn] at h
          rw [if_pos hn]
          cases hx : rowRead P f.type xs f.offset with
          | none => rw [hx] at h; simp at h
          | some p =>
            cases hy : rowRead P f.type ys f.offset with
            | none => rw [hx, hy] at h; simp at h
            | some q =>
              rw [hx, hy] at h
              simp only at h
              obtain ⟨p', k1, k2⟩ := rowRead_part hx l1 v1 w
              obtain ⟨q', k3, k4⟩ := rowRead_part hy l2 v2 w
              cases hr : aeqIn P m f.type p q with
              | none => rw [hr] at h; simp at h
              | some r =>
                rw [hr] at h
                have := ih d f.type p q r hd hr p' q' k2 k4 w
                simp only [Sem.run_bind, k1, k3, this, Result.andThen]
                cases r with
                | true => simp only [Bool.not_true, Bool.false_eq_true, if_false]; exact ih2 h
                | false => simp at h; subst h; simp
        · rw [if_neg hn] at h
          rw [if_neg hn]
          exact ih2 h
    have hitems : ∀ (js : List Nat) (e : TypeId) (n : Nat) (xs ys : List V) (xs' ys' : List Value), xs'.length = xs.length → ys'.length = ys.length → (∀ (i : Nat) x y, xs[i]? = some x → xs'[i]? = some y → VR F ρ x y) →
        (∀ (i : Nat) x y, ys[i]? = some x → ys'[i]? = some y → VR F ρ x y) → aeqItems P (aeqIn P m) e n xs ys js = some b → (Op.eqItems d e n xs'.toArray ys'.toArray js).run P w = .ok b w := by
      intro js e n xs ys xs' ys' l1 l2 v1 v2
      induction js with
      | nil => intro h; simp [aeqItems] at h; subst h; simp [Op.eqItems]
      | cons j js ih2 =>
        intro h
        simp only [aeqItems] at h
        simp only [Op.eqItems]
        cases hx : rowRead P e xs (j * n) with
        | none => rw [hx] at h; simp at h
        | some p =>
          cases hy : rowRead P e ys (j * n) with
          | none => rw [hx, hy] at h; simp at h
          | some q =>
            rw [hx, hy] at h
            simp only at h
            obtain ⟨p', k1, k2⟩ := rowRead_part hx l1 v1 w
            obtain ⟨q', k3, k4⟩ := rowRead_part hy l2 v2 w
            cases hr : aeqIn P m e p q with
            | none => rw [hr] at h; simp at h
            | some r =>
              rw [hr] at h
              have := ih d e p q r hd hr p' q' k2 k4 w
              simp only [Sem.run_bind, k1, k3, this, Result.andThen]
              cases r with
              | true => simp only [Bool.not_true, Bool.false_eq_true, if_false]; exact ih2 h
              | false => simp at h; subst h; simp
    simp only [aeqIn] at h
    split at h
    · rename_i hu
      split at h
      · rename_i hk
        subst hk
        injection h with h
        cases ha; cases hc
        rw [run_equalIn_int w d t _ _ _ _ hu, ← h]
        rfl
      · simp at h
    · rename_i hu
      injection h with h
      cases ha; cases hc
      rw [run_equalIn_bool' w d t _ _ hu, ← h]
    · rename_i hu
      injection h with h
      cases ha; cases hc
      rw [run_equalIn_string w d t _ _ hu, ← h]
    · rename_i fs xs ys hu
      split at h
      · simp at h
      · rename_i hst
        cases ha with
        | agg xs' l1 v1 =>
          cases hc with
          | agg ys' l2 v2 =>
            have hfs : P.fieldsOf t = fs := by simp [Program.fieldsOf, hu]
            rw [run_equalIn_struct w d t _ _ (by rw [hfs]; exact hu) (by simpa using hst), hfs]
            exact hfields fs.toList xs ys xs' ys' l1 l2 v1 v2 h
    · rename_i n e xs ys hu
      split at h
      · rename_i hi
        obtain ⟨i, hi⟩ := Option.isSome_iff_exists.1 hi
        cases ha with
        | agg xs' l1 v1 =>
          cases hc with
          | agg ys' l2 v2 =>
            rw [run_equalIn_array w d _ _ hu hi]
            exact hitems _ e _ xs ys xs' ys' l1 l2 v1 v2 h
      · simp at h
    · simp at h

def astr (op : BinOp) (a b : ByteArray) : Option V := match op with
  | .add => if a.size + b.size ≤ 2 ^ 60 then some (.str (a ++ b)) else none
  | .eql => some (.bool (a.toList == b.toList))
  | .neq => some (.bool (!(a.toList == b.toList)))
  | .lss => some (.bool (Op.bytesLess a.toList b.toList))
  | .leq => some (.bool (Op.bytesLess a.toList b.toList || a.toList == b.toList))
  | .gtr => some (.bool (!(Op.bytesLess a.toList b.toList || a.toList == b.toList)))
  | .geq => some (.bool (!(Op.bytesLess a.toList b.toList)))
  | _ => none

/-- An operator of two operands. -/
def abin (P : Program) (op : BinOp) (xt : TypeId) (x y : V) : Option V := match x, y with
  | .int k a, .int k' b => aint op k a k' b
  | .str a, .str b => astr op a b
  | .agg xs, .agg ys => if P.eqGuardType P.depth xt = true then none else match op with
    | .eql => (aeqIn P 12 xt (.agg xs) (.agg ys)).map .bool
    | .neq => (aeqIn P 12 xt (.agg xs) (.agg ys)).map fun b => .bool (!b)
    | _ => none
  | x, y => match op with
    | .eql => (aeq (P.underlying xt) x y).map .bool
    | .neq => (aeq (P.underlying xt) x y).map fun b => .bool (!b)
    | _ => none

theorem abin_sound {F : Part} {ρ : Lay} {op : BinOp} {xt : TypeId} {x y v : V} (h : abin P op xt x y = some v) {a c : Value} (ha : VR F ρ x a) (hc : VR F ρ y c) (ox oy : Operand) (w : World) :
    ∃ u, (do eqGuard op xt ox oy a c; binOp op xt a c : Sem Value).run P w = .ok u w ∧ VR F ρ v u := by
  unfold abin at h
  split at h
  · rename_i k a' k' b'
    cases ha; cases hc
    obtain ⟨u, h1, h2⟩ := aint_sound (P := P) (F := F) (ρ := ρ) h xt w
    refine ⟨u, ?_, h2⟩
    have hg : (eqGuard op xt ox oy (.int k a') (.int k' b')).run P w = .ok () w := by cases op <;> simp [eqGuard]
    simp only [Sem.run_bind, hg, Result.andThen, h1]
  · rename_i a' b'
    cases ha; cases hc
    have hg : (eqGuard op xt ox oy (.string a') (.string b')).run P w = .ok () w := by cases op <;> simp [eqGuard]
    simp only [Sem.run_bind, hg, Result.andThen]
    cases op <;> simp only [astr] at h
    case add =>
      split at h
      · rename_i hs
        injection h with h
        subst h
        refine ⟨_, ?_, .str _⟩
        simp only [binOp, Op.stringOp]
        rw [if_neg (by simp [IntKind.max, IntKind.signed, IntKind.bits]; omega)]
        rfl
      · simp at h
    all_goals first
      | (simp at h; done)
      | (injection h with h; subst h; refine ⟨_, ?_, .bool _⟩; simp only [binOp, Op.stringOp]; rfl)
  · rename_i xs ys
    split at h
    · simp at h
    · rename_i hgt
      cases ha with
      | agg xs' l1 v1 =>
        cases hc with
        | agg ys' l2 v2 =>
          have hg := run_eqGuard_agg w op xt ox oy xs'.toArray ys'.toArray (by simpa using hgt)
          simp only [Sem.run_bind, hg, Result.andThen]
          split at h
          · cases hb : aeqIn P 12 xt (.agg xs) (.agg ys) with
            | none => rw [hb] at h; simp at h
            | some b =>
              rw [hb] at h
              injection h with h
              subst h
              have := aeqIn_sound (F := F) (ρ := ρ) 12 10000 xt _ _ b (by omega) hb _ _ (.agg xs' l1 v1) (.agg ys' l2 v2) w
              exact ⟨_, by rw [run_eql_struct, this]; rfl, .bool _⟩
          · cases hb : aeqIn P 12 xt (.agg xs) (.agg ys) with
            | none => rw [hb] at h; simp at h
            | some b =>
              rw [hb] at h
              injection h with h
              subst h
              have := aeqIn_sound (F := F) (ρ := ρ) 12 10000 xt _ _ b (by omega) hb _ _ (.agg xs' l1 v1) (.agg ys' l2 v2) w
              exact ⟨_, by rw [run_neq_struct, this]; rfl, .bool _⟩
          · simp at h
  · rename_i n1 n2 n3
    have key : ∀ b, aeq (P.underlying xt) x y = some b → (eqGuard op xt ox oy a c).run P w = .ok () w ∧ (op = .eql → (binOp op xt a c).run P w = .ok (.bool b) w) ∧ (op = .neq → (binOp op xt a c).run P w = .ok (.bool (!b)) w) := by
      intro b hb
      have he := aeq_sound hb ha hc w
      have hshape : (∃ p q, a = .bool p ∧ c = .bool q) ∨ (∃ p q r p' q' r', a = .slice p q r ∧ c = .slice p' q' r') ∨ (∃ p q, a = .pointer p ∧ c = .pointer q) ∨ (∃ p q, a = .map p ∧ c = .map q) := by
        unfold aeq at hb
        split at hb
        case h_17 => simp at hb
        all_goals first
          | (left; cases ha; cases hc; exact ⟨_, _, rfl, rfl⟩)
          | (right; left; cases ha <;> cases hc <;> exact ⟨_, _, _, _, _, _, rfl, rfl⟩)
          | (right; right; left; cases ha; cases hc; exact ⟨_, _, rfl, rfl⟩)
          | (right; right; right; cases ha; cases hc; exact ⟨_, _, rfl, rfl⟩)
      rcases hshape with ⟨p, q, rfl, rfl⟩ | ⟨p, q, r, p', q', r', rfl, rfl⟩ | ⟨p, q, rfl, rfl⟩ | ⟨p, q, rfl, rfl⟩
      all_goals refine ⟨by cases op <;> simp [eqGuard], fun e => ?_, fun e => ?_⟩
      all_goals subst e
      all_goals simp only [binOp, Sem.run_bind, he, Result.andThen]
      all_goals rfl
    split at h
    · cases hb : aeq (P.underlying xt) x y with
      | none => rw [hb] at h; simp at h
      | some b =>
        rw [hb] at h
        injection h with h
        subst h
        obtain ⟨k1, k2, _⟩ := key b hb
        exact ⟨_, by simp only [Sem.run_bind, k1, Result.andThen]; exact k2 rfl, .bool _⟩
    · cases hb : aeq (P.underlying xt) x y with
      | none => rw [hb] at h; simp at h
      | some b =>
        rw [hb] at h
        injection h with h
        subst h
        obtain ⟨k1, _, k2⟩ := key b hb
        exact ⟨_, by simp only [Sem.run_bind, k1, Result.andThen]; exact k2 rfl, .bool _⟩
    · simp at h

def aun (op : UnOp) (x : V) : Option V := match op, x with
  | .neg, .int k n => some (.int k (k.wrap (0 - n)))
  | .not, .bool b => some (.bool (!b))
  | .xor, .int k n => some (.int k (k.wrap ((BitVec.ofInt k.bits (if k.signed then -1 else k.max) ^^^ BitVec.ofInt k.bits n).toNat)))
  | _, _ => none

theorem aun_sound {F : Part} {ρ : Lay} {op : UnOp} {x v : V} (h : aun op x = some v) {a : Value} (ha : VR F ρ x a) (w : World) : ∃ u, (Op.unary op a).run P w = .ok u w ∧ VR F ρ v u := by
  unfold aun at h
  split at h
  · injection h with h; subst h; cases ha; exact ⟨_, by simp [Op.unary, Op.intArith], .int _ _⟩
  · injection h with h; subst h; cases ha; exact ⟨_, by simp [Op.unary], .bool _⟩
  · injection h with h; subst h; cases ha; exact ⟨_, by simp [Op.unary, Op.intBits], .int _ _⟩
  · simp at h

def aconv (P : Program) (src dst : TypeId) (x : V) : Option V := match P.underlying src, P.underlying dst, x with
  | some _, some (.int k), .int _ n => some (.int k (k.wrap n))
  | some _, some .string, .str s => some (.str s)
  | _, _, _ => none

theorem aconv_sound {F : Part} {ρ : Lay} {src dst : TypeId} {x v : V} (h : aconv P src dst x = some v) {a : Value} (ha : VR F ρ x a) (w : World) : ∃ u, (convert src dst a).run P w = .ok u w ∧ VR F ρ v u := by
  unfold aconv at h
  split at h
  · rename_i h1 h2
    injection h with h; subst h; cases ha
    exact ⟨_, by simp [convert, run_underlying h1, run_underlying h2, Conv.intToInt], .int _ _⟩
  · rename_i h1 h2
    injection h with h; subst h; cases ha
    refine ⟨_, ?_, .str _⟩
    simp only [convert, Sem.run_bind, run_underlying h1, run_underlying h2, Result.andThen]
    rename_i d _ _ _ _
    cases d <;> rfl
  · simp at h

end Go.Proofs.Ytngbibpmaofamaa.Ab

/- The abstract calculus, slices: addresses, fields, cuts. -/
-- Ab6
namespace Go.Proofs.Ytngbibpmaofamaa.Ab
open Go

variable {P : Program}

theorem lt_of_get {α : Type} {l : List α} {i : Nat} {x : α} (h : l[i]? = some x) : i < l.length := by
  rcases Nat.lt_or_ge i l.length with h' | h'
  · exact h'
  · rw [List.getElem?_eq_none h'] at h; simp at h

theorem add_eq {a : Addr} (h : a.spot = none) (n : Nat) : a.add n = ⟨a.block, a.off + n, none⟩ := by
  unfold Addr.add
  split
  · rename_i e; subst e; cases a; simp_all
  · rfl

def aindexAddr (P : Program) (t : TypeId) (x i : V) : Option V := match i with
  | .int _ n => match P.underlying t, x with
    | some (.slice e), .sl sz b off len _ => if 0 ≤ n ∧ n < len ∧ P.cellsOf e = sz ∧ (P.info? e).isSome = true then some (.ptr b (off + n.toNat) 0) else none
    | some (.slice e), .imm xs _ => if 0 ≤ n ∧ (P.info? e).isSome = true then (match xs[n.toNat]? with
      | some row => if row.length = P.cellsOf e then some (.iptr row 0) else none
      | none => none) else none
    | some (.array len e), .ptr b r c => if 0 ≤ n ∧ n < len ∧ (P.info? e).isSome = true then some (.ptr b r (c + n.toNat * P.cellsOf e)) else none
    | some (.array len e), .iptr row c => if 0 ≤ n ∧ n < len ∧ (P.info? e).isSome = true then some (.iptr row (c + n.toNat * P.cellsOf e)) else none
    | _, _ => none
  | _ => none

theorem aindexAddr_sound {F : Part} {ρ : Lay} {w : World} {t : TypeId} {x i v : V} (h : aindexAddr P t x i = some v) {a c : Value} (ha : VR F ρ x a) (hc : VR F ρ i c) :
    ∃ u, (Instr.indexAt t a c).run P w = .ok u w ∧ VR F ρ v u := by
  unfold aindexAddr at h
  split at h
  case h_2 => simp at h
  rename_i k n
  cases hc
  split at h
  · rename_i e sz b off len ex hu
    split at h
    · rename_i hcond
      obtain ⟨h0, h1, h2, h3⟩ := hcond
      injection h with h
      subst h
      obtain ⟨ie, hie⟩ := Option.isSome_iff_exists.1 h3
      cases ha with
      | sl hb hz hl hx hk hs haddr hn =>
        rename_i l ad cap
        refine ⟨.pointer (some (ad.add (n.toNat * P.cellsOf e))), ?_, ?_⟩
        · simp only [Instr.indexAt, asIntOf, Sem.run_bind, Sem.run_pure, Result.andThen, run_underlying hu]
          rw [if_pos ⟨h0, h1⟩]
          simp only [Sem.run_bind, run_sizeOf hie, Result.andThen, Sem.run_pure]
        · rw [add_eq hs, hk, haddr (by omega)]
          have := VR.ptr (F := F) (r := off + n.toNat) (c := 0) hb
          rw [h2, ← hz]
          rw [show l.o + off * l.sz + n.toNat * l.sz = l.o + (off + n.toNat) * l.sz + 0 by rw [Nat.add_mul]; omega]
          exact this
    · simp at h
  · rename_i e xs ex hu
    split at h
    · rename_i hcond
      obtain ⟨h0, h3⟩ := hcond
      obtain ⟨ie, hie⟩ := Option.isSome_iff_exists.1 h3
      cases hx : xs[n.toNat]? with
      | none => rw [hx] at h; simp at h
      | some row =>
        rw [hx] at h
        simp only at h
        split at h
        · rename_i hrow
          injection h with h
          subst h
          have hlt := lt_of_get hx
          cases ha with
          | imm sz cc el fr y hl hx2 hs hF hw hcell hv =>
            rename_i ad cap
            have hsz : sz = P.cellsOf e := by rw [← hw row (mem_of_get hx), hrow]
            refine ⟨.pointer (some (ad.add (n.toNat * P.cellsOf e))), ?_, ?_⟩
            · simp only [Instr.indexAt, asIntOf, Sem.run_bind, Sem.run_pure, Result.andThen, run_underlying hu]
              rw [if_pos ⟨h0, by omega⟩]
              simp only [Sem.run_bind, run_sizeOf hie, Result.andThen, Sem.run_pure]
            · rw [add_eq (hs (by intro e; subst e; simp at hx))]
              have := VR.iptr (F := F) (ρ := ρ) (cs := row) (c := 0) (o := ad.off + n.toNat * sz) (y n.toNat) (hF (by intro e; subst e; simp at hx)) (hcell _ _ hx) (hv _ _ hx)
              rw [← hsz]
              simpa using this
          | imm0 => simp at hx
        · simp at h
    · simp at h
  · rename_i len e b r c' hu
    split at h
    · rename_i hcond
      obtain ⟨h0, h1, h3⟩ := hcond
      obtain ⟨ie, hie⟩ := Option.isSome_iff_exists.1 h3
      injection h with h
      subst h
      cases ha with
      | ptr hb =>
        rename_i l
        refine ⟨_, ?_, VR.ptr (F := F) (r := r) (c := c' + n.toNat * P.cellsOf e) hb⟩
        simp only [Instr.indexAt, asIntOf, Sem.run_bind, Sem.run_pure, Result.andThen, run_underlying hu, Instr.sureAddr]
        rw [if_pos ⟨h0, h1⟩]
        simp only [Sem.run_bind, run_sizeOf hie, Result.andThen, Sem.run_pure]
        rw [add_eq rfl]
        simp [Nat.add_assoc]
    · simp at h
  · rename_i len e row c' hu
    split at h
    · rename_i hcond
      obtain ⟨h0, h1, h3⟩ := hcond
      obtain ⟨ie, hie⟩ := Option.isSome_iff_exists.1 h3
      injection h with h
      subst h
      cases ha with
      | iptr y hF hcell hv =>
        refine ⟨_, ?_, VR.iptr (F := F) (ρ := ρ) (c := c' + n.toNat * P.cellsOf e) y hF hcell hv⟩
        simp only [Instr.indexAt, asIntOf, Sem.run_bind, Sem.run_pure, Result.andThen, run_underlying hu, Instr.sureAddr]
        rw [if_pos ⟨h0, h1⟩]
        simp only [Sem.run_bind, run_sizeOf hie, Result.andThen, Sem.run_pure]
        rw [add_eq rfl]
        simp [Nat.add_assoc]
    · simp at h
  · simp at h

def afieldAddr (P : Program) (s : TypeId) (x : V) (f : Nat) : Option V := match P.underlying s with
  | some (.struct fields) => match fields[f]? with
    | some fd => if (P.info? fd.type).isSome = true ∧ P.cellsOf fd.type ≠ 0 then (match x with
      | .ptr b r c => some (.ptr b r (c + fd.offset))
      | .iptr row c => some (.iptr row (c + fd.offset))
      | _ => none) else none
    | none => none
  | _ => none

theorem afieldAddr_sound {F : Part} {ρ : Lay} {w : World} {s : TypeId} {x v : V} {f : Nat} (h : afieldAddr P s x f = some v) {a : Value} (ha : VR F ρ x a) :
    ∃ u, (Instr.fieldAt s a f).run P w = .ok u w ∧ VR F ρ v u := by
  unfold afieldAddr at h
  split at h
  case h_2 => simp at h
  rename_i fields hu
  cases hf : fields[f]? with
  | none => rw [hf] at h; simp at h
  | some fd =>
    rw [hf] at h
    simp only at h
    split at h
    · rename_i hcond
      obtain ⟨hi, hz⟩ := hcond
      obtain ⟨ie, hie⟩ := Option.isSome_iff_exists.1 hi
      split at h
      · injection h with h
        subst h
        cases ha with
        | ptr hb =>
          refine ⟨_, ?_, VR.ptr (F := F) hb⟩
          simp only [Instr.fieldAt, Sem.run_bind, run_underlying hu, Result.andThen, hf, Instr.sureAddr, Sem.run_pure, fieldPlace, run_sizeOf hie, hz, if_false]
          rw [add_eq rfl]
          simp [Nat.add_assoc]
      · injection h with h
        subst h
        cases ha with
        | iptr y hF hcell hv =>
          refine ⟨_, ?_, VR.iptr (F := F) (ρ := ρ) y hF hcell hv⟩
          simp only [Instr.fieldAt, Sem.run_bind, run_underlying hu, Result.andThen, hf, Instr.sureAddr, Sem.run_pure, fieldPlace, run_sizeOf hie, hz, if_false]
          rw [add_eq rfl]
          simp [Nat.add_assoc]
      · simp at h
    · simp at h

def afield (P : Program) (s : TypeId) (x : V) (f : Nat) : Option V := match P.underlying s, x with
  | some (.struct fields), .agg cs => match fields[f]? with
    | some fd => rowRead P fd.type cs fd.offset
    | none => none
  | _, _ => none

theorem afield_sound {F : Part} {ρ : Lay} {w : World} {s : TypeId} {x v : V} {f : Nat} (h : afield P s x f = some v) {a : Value} (ha : VR F ρ x a) :
    ∃ u, (Instr.field s a f).run P w = .ok u w ∧ VR F ρ v u := by
  unfold afield at h
  split at h
  case h_2 => simp at h
  rename_i fields cs hu
  cases hf : fields[f]? with
  | none => rw [hf] at h; simp at h
  | some fd =>
    rw [hf] at h
    cases ha with
    | agg ys hl hv =>
      obtain ⟨u, h1, h2⟩ := rowRead_part h hl hv w
      exact ⟨u, by simp only [Instr.field, Sem.run_bind, run_underlying hu, Result.andThen, hf, asAgg, Sem.run_pure, h1], h2⟩

def aindex (P : Program) (t : TypeId) (x i : V) : Option V := match i with
  | .int _ n => match P.underlying t, x with
    | some (.array len e), .agg cs => if 0 ≤ n ∧ n < len ∧ (P.info? e).isSome = true then rowRead P e cs (n.toNat * P.cellsOf e) else none
    | some .string, .str s => if 0 ≤ n then (match s[n.toNat]? with
      | some b => some (.int .u8 b.toNat)
      | none => none) else none
    | _, _ => none
  | _ => none

theorem aindex_sound {F : Part} {ρ : Lay} {w : World} {t : TypeId} {x i v : V} (h : aindex P t x i = some v) {a c : Value} (ha : VR F ρ x a) (hc : VR F ρ i c) :
    ∃ u, (Instr.index t a c).run P w = .ok u w ∧ VR F ρ v u := by
  unfold aindex at h
  split at h
  case h_2 => simp at h
  rename_i k n
  cases hc
  split at h
  · rename_i len e cs hu
    split at h
    · rename_i hcond
      obtain ⟨h0, h1, h3⟩ := hcond
      obtain ⟨ie, hie⟩ := Option.isSome_iff_exists.1 h3
      cases ha with
      | agg ys hl hv =>
        obtain ⟨u, g1, g2⟩ := rowRead_part h hl hv w
        refine ⟨u, ?_, g2⟩
        simp only [Instr.index, asIntOf, Sem.run_bind, Sem.run_pure, Result.andThen, run_underlying hu]
        rw [if_pos ⟨h0, h1⟩]
        simp only [Sem.run_bind, run_sizeOf hie, Result.andThen, g1]
    · simp at h
  · rename_i s hu
    split at h
    · rename_i h0
      cases hb : s[n.toNat]? with
      | none => rw [hb] at h; simp at h
      | some b =>
        rw [hb] at h
        injection h with h
        subst h
        cases ha
        refine ⟨_, ?_, .int _ _⟩
        simp only [Instr.index, asIntOf, Sem.run_bind, Sem.run_pure, Result.andThen, run_underlying hu, h0, if_true, hb]
    · simp at h
  · simp at h

def aextract (x : V) (i : Nat) : Option V := match x with
  | .tup vs => vs[i]?
  | _ => none

theorem aextract_sound {F : Part} {ρ : Lay} {w : World} {x v : V} {i : Nat} (h : aextract x i = some v) {a : Value} (ha : VR F ρ x a) : ∃ u, (Instr.extract a i).run P w = .ok u w ∧ VR F ρ v u := by
  unfold aextract at h
  split at h
  · cases ha with
    | tup ys hl hv =>
      have hlt := lt_of_get h
      have hy : ys[i]? = some ys[i] := List.getElem?_eq_getElem (by omega)
      exact ⟨ys[i], by simp [Instr.extract, hy], hv i v _ h hy⟩
  · simp at h

/-- The bounds of a cut: low, high and the third one if it is there. -/
def abounds (len : Nat) (lo hi mx : Option V) : Option (Nat × Nat × Option Nat) :=
  let h? : Option Nat := match hi with
    | none => some len
    | some (.int _ n) => if 0 ≤ n ∧ n ≤ len then some n.toNat else none
    | _ => none
  let l? : Option Nat := match lo with
    | none => some 0
    | some (.int _ n) => if 0 ≤ n then some n.toNat else none
    | _ => none
  match h?, l? with
  | some h, some l => if l ≤ h then (match mx with
    | none => some (l, h, none)
    | some (.int _ m) => if (h : Int) ≤ m ∧ m ≤ len ∧ hi.isSome = true then some (l, h, some m.toNat) else none
    | _ => none) else none
  | _, _ => none

inductive OptVR (F : Part) (ρ : Lay) : Option V → Option Value → Prop
  | none : OptVR F ρ none none
  | some {v : V} {u : Value} (h : VR F ρ v u) : OptVR F ρ (some v) (some u)

theorem abounds_sound {F : Part} {ρ : Lay} {w : World} {len cap : Nat} (hcap : len ≤ cap) {lo hi mx : Option V} {l h : Nat} {m : Option Nat} (hb : abounds len lo hi mx = some (l, h, m)) {lo' hi' mx' : Option Value}
    (h1 : OptVR F ρ lo lo') (h2 : OptVR F ρ hi hi') (h3 : OptVR F ρ mx mx') (isSlice : Bool) :
    (Instr.sliceBounds isSlice len cap lo' hi' mx').run P w = .ok (l, h, m.getD cap) w ∧ l ≤ h ∧ h ≤ len ∧ (∀ k, m = some k → h ≤ k ∧ k ≤ len) ∧ m.isSome = mx.isSome := by
  have bound : ∀ (k : IntKind) (n : Int) (y : Nat) (c : BoundsCode), 0 ≤ n → n ≤ y → (Instr.sliceBound (.int k n) y c).run P w = .ok n.toNat w := by
    intro k n y c a b
    simp [Instr.sliceBound, asIntOf, a, b]
  unfold abounds at hb
  have hh : ∃ hv, (match hi with
    | none => some len
    | some (.int _ n) => if 0 ≤ n ∧ n ≤ len then some n.toNat else none
    | _ => none) = some hv := by
    cases hx : (match hi with
    | none => some len
    | some (.int _ n) => if 0 ≤ n ∧ n ≤ len then some n.toNat else none
    | _ => none) with
    | none => simp only [hx] at hb; simp at hb
    | some hv => exact ⟨hv, rfl⟩
  have hl : ∃ lv, (match lo with
    | none => some 0
    | some (.int _ n) => if 0 ≤ n then some n.toNat else none
    | _ => none) = some lv := by
    cases hx : (match lo with
    | none => some 0
    | some (.int _ n) => if 0 ≤ n then some n.toNat else none
    | _ => none) with
    | none => simp only [hx] at hb; split at hb <;> simp_all
    | some lv => exact ⟨lv, rfl⟩
  obtain ⟨hv, hh⟩ := hh
  obtain ⟨lv, hl⟩ := hl
  simp only [hh, hl] at hb
  split at hb
  case isFalse => simp at hb
  rename_i hle
  have hfin : hv ≤ len ∧ (hi = none → hv = len) ∧ (∀ k n, hi = some (.int k n) → 0 ≤ n ∧ n ≤ len ∧ hv = n.toNat) ∧ (∀ v, hi = some v → ∃ k n, v = .int k n) := by
    cases hi with
    | none => simp at hh; subst hh; simp
    | some v =>
      cases v <;> simp at hh
      rename_i k n
      refine ⟨by omega, by simp, ?_, by simp⟩
      intro k' n' e
      injection e with e
      injection e with e1 e2
      subst e2
      exact ⟨hh.1.1, hh.1.2, hh.2.symm⟩
  have lfin : (lo = none → lv = 0) ∧ (∀ k n, lo = some (.int k n) → 0 ≤ n ∧ lv = n.toNat) ∧ (∀ v, lo = some v → ∃ k n, v = .int k n) := by
    cases lo with
    | none => simp at hl; subst hl; simp
    | some v =>
      cases v <;> simp at hl
      rename_i k n
      refine ⟨by simp, ?_, by simp⟩
      intro k' n' e
      injection e with e
      injection e with e1 e2
      subst e2
      exact ⟨hl.1, hl.2.symm⟩
  have lowrun : (lo' = none ∧ lv = 0) ∨ ∃ k n, lo' = some (.int k n) ∧ 0 ≤ n ∧ lv = n.toNat := by
    cases h1 with
    | none => exact .inl ⟨rfl, lfin.1 rfl⟩
    | some hv1 =>
      obtain ⟨k, n, rfl⟩ := lfin.2.2 _ rfl
      cases hv1
      obtain ⟨a, b⟩ := lfin.2.1 k n rfl
      exact .inr ⟨k, n, rfl, a, b⟩
  cases h3 with
  | none =>
    simp at hb
    obtain ⟨rfl, rfl, rfl⟩ := hb
    refine ⟨?_, hle, hfin.1, by simp, rfl⟩
    cases h2 with
    | none =>
      have e := hfin.2.1 rfl
      rcases lowrun with ⟨rfl, e0⟩ | ⟨k0, n0, rfl, a0, e0⟩
      · simp only [Instr.sliceBounds, Sem.run_bind, Sem.run_pure, Result.andThen, e, e0]; rfl
      · simp only [Instr.sliceBounds, Sem.run_bind, Sem.run_pure, Result.andThen, bound k0 n0 len _ a0 (by omega)]
        rw [e, ← e0]; rfl
    | some hv2 =>
      obtain ⟨k, n, rfl⟩ := hfin.2.2.2 _ rfl
      cases hv2
      obtain ⟨a, b, c⟩ := hfin.2.2.1 k n rfl
      rcases lowrun with ⟨rfl, e0⟩ | ⟨k0, n0, rfl, a0, e0⟩
      · simp only [Instr.sliceBounds, Sem.run_bind, Sem.run_pure, Result.andThen, bound k n cap _ a (by omega)]
        rw [← c, e0]; rfl
      · simp only [Instr.sliceBounds, Sem.run_bind, Sem.run_pure, Result.andThen, bound k n cap _ a (by omega), bound k0 n0 n.toNat _ a0 (by omega)]
        rw [← c, ← e0]; rfl
  | some hv3 =>
    rename_i mv mu
    cases mv with
    | int km nm =>
      simp only at hb
      split at hb
      case isFalse => simp at hb
      rename_i hm
      obtain ⟨m1, m2, m3⟩ := hm
      injection hb with hb
      injection hb with e1 hb
      injection hb with e2 e3
      subst e1; subst e2; subst e3
      cases hv3
      refine ⟨?_, hle, hfin.1, ?_, rfl⟩
      · cases h2 with
        | none => simp at m3
        | some hv2 =>
          obtain ⟨k, n, rfl⟩ := hfin.2.2.2 _ rfl
          cases hv2
          obtain ⟨a, b, c⟩ := hfin.2.2.1 k n rfl
          rcases lowrun with ⟨rfl, e0⟩ | ⟨k0, n0, rfl, a0, e0⟩
          · simp only [Instr.sliceBounds, Sem.run_bind, Sem.run_pure, Result.andThen, bound km nm cap _ (by omega) (by omega), bound k n nm.toNat _ a (by omega)]
            rw [← c, e0]; rfl
          · simp only [Instr.sliceBounds, Sem.run_bind, Sem.run_pure, Result.andThen, bound km nm cap _ (by omega) (by omega), bound k n nm.toNat _ a (by omega), bound k0 n0 n.toNat _ a0 (by omega)]
            rw [← c, ← e0]; rfl
      · intro k' e
        injection e with e
        omega
    | _ => simp at hb

end Go.Proofs.Ytngbibpmaofamaa.Ab

/- The abstract calculus, slices made: cuts, literals, make, append. -/
-- Ab7
namespace Go.Proofs.Ytngbibpmaofamaa.Ab
open Go

variable {P : Program}

/-- A cut of a slice or a string. -/
def aslice (P : Program) (t : TypeId) (x : V) (lo hi mx : Option V) : Option V := match P.underlying t, x with
  | some (.slice e), .sl sz b off len ex => if P.cellsOf e = sz ∧ (P.info? e).isSome = true then (match abounds len lo hi mx with
    | some (l, h, m) => some (.sl sz b (off + l) (h - l) (match m with | some m => decide (m = h) | none => ex && decide (h = len)))
    | none => none) else none
  | some (.slice e), .imm xs ex => if (∀ row ∈ xs, row.length = P.cellsOf e) ∧ (P.info? e).isSome = true then (match abounds xs.length lo hi mx with
    | some (l, h, m) => some (.imm ((xs.drop l).take (h - l)) (match m with | some m => decide (m = h) && (ex || !xs.isEmpty) | none => ex && decide (h = xs.length)))
    | none => none) else none
  | some (.slice e), .nils => if (P.info? e).isSome = true then (match abounds 0 lo hi mx with
    | some _ => some .nils
    | none => none) else none
  | some .string, .str s => match mx, abounds s.size lo hi none with
    | none, some (l, h, _) => some (.str (s.extract l h))
    | _, _ => none
  | _, _ => none

theorem aslice_sound {F : Part} {ρ : Lay} {w : World} {t : TypeId} {x v : V} {lo hi mx : Option V} (h : aslice P t x lo hi mx = some v)
    {a : Value} {lo' hi' mx' : Option Value} (ha : VR F ρ x a) (h1 : OptVR F ρ lo lo') (h2 : OptVR F ρ hi hi') (h3 : OptVR F ρ mx mx') :
    ∃ u, (Instr.sliceAt t a lo' hi' mx').run P w = .ok u w ∧ VR F ρ v u := by
  unfold aslice at h
  split at h
  · rename_i e sz b off len ex hu
    split at h
    case isFalse => simp at h
    rename_i hcond
    obtain ⟨c1, c2⟩ := hcond
    obtain ⟨ie, hie⟩ := Option.isSome_iff_exists.1 c2
    cases hb : abounds len lo hi mx with
    | none => rw [hb] at h; simp at h
    | some lhm =>
      obtain ⟨l, h', m⟩ := lhm
      rw [hb] at h
      injection h with h
      subst h
      cases ha with
      | sl hρ hz hl hx hk hs haddr hn =>
        rename_i lc ad cap
        obtain ⟨r1, r2, r3, r4, r5⟩ := abounds_sound (P := P) (w := w) hl hb h1 h2 h3 true
        have hsz : P.cellsOf e = lc.sz := by rw [c1, hz]
        have hm : h' ≤ m.getD cap ∧ m.getD cap ≤ cap := by
          cases m with
          | none => simp; omega
          | some k => have := r4 k rfl; simp; omega
        refine ⟨.slice (if m.getD cap = l then some ad else (some ad).map (·.add (l * P.cellsOf e))) (h' - l) (m.getD cap - l), ?_, ?_⟩
        · simp only [Instr.sliceAt, Instr.slice, Sem.run_bind, run_underlying hu, Result.andThen, r1, run_sizeOf hie, Sem.run_pure]
        · have hadd : (if m.getD cap = l then some ad else (some ad).map (·.add (l * P.cellsOf e))) = some (if m.getD cap = l then ad else ad.add (l * P.cellsOf e)) := by split <;> rfl
          rw [hadd]
          refine .sl hρ hz (by omega) ?_ ?_ ?_ ?_ ?_
          · intro hex
            cases m with
            | none => simp at hex; simp; have := hx hex.1; omega
            | some k => simp at hex; simp; omega
          · split
            · exact hk
            · rw [add_eq hs]; exact hk
          · split
            · exact hs
            · rw [add_eq hs]
          · intro hne
            rw [if_neg (by omega), add_eq hs]
            show ad.off + l * P.cellsOf e = _
            rw [haddr (by omega), hsz, Nat.add_mul]
            omega
          · intro hne
            have := hn (by omega)
            refine Nat.le_trans (Nat.add_le_add_left (Nat.mul_le_mul_right lc.sz ?_) lc.o) this
            omega
  · rename_i e xs ex hu
    split at h
    case isFalse => simp at h
    rename_i hcond
    obtain ⟨c1, c2⟩ := hcond
    obtain ⟨ie, hie⟩ := Option.isSome_iff_exists.1 c2
    cases hb : abounds xs.length lo hi mx with
    | none => rw [hb] at h; simp at h
    | some lhm =>
      obtain ⟨l, h', m⟩ := lhm
      rw [hb] at h
      injection h with h
      subst h
      cases ha with
      | imm sz cc el fr y hl hx hs hF hw hcell hv =>
        rename_i ad cap
        obtain ⟨r1, r2, r3, r4, r5⟩ := abounds_sound (P := P) (w := w) hl hb h1 h2 h3 true
        have hm : h' ≤ m.getD cap ∧ m.getD cap ≤ cap := by
          cases m with
          | none => simp; omega
          | some k => have := r4 k rfl; simp; omega
        have hlen : ((xs.drop l).take (h' - l)).length = h' - l := by simp; omega
        refine ⟨.slice (if m.getD cap = l then some ad else (some ad).map (·.add (l * P.cellsOf e))) (h' - l) (m.getD cap - l), ?_, ?_⟩
        · simp only [Instr.sliceAt, Instr.slice, Sem.run_bind, run_underlying hu, Result.andThen, r1, run_sizeOf hie, Sem.run_pure]
        · have hadd : (if m.getD cap = l then some ad else (some ad).map (·.add (l * P.cellsOf e))) = some (if m.getD cap = l then ad else ad.add (l * P.cellsOf e)) := by split <;> rfl
          rw [hadd]
          have hrow : ∀ (i : Nat) row, ((xs.drop l).take (h' - l))[i]? = some row → i < h' - l ∧ xs[l + i]? = some row := fun i row hi => (take_drop_get _ _ _ _ _).1 hi
          have hne0 : ∀ (i : Nat) row, ((xs.drop l).take (h' - l))[i]? = some row → ¬ m.getD cap = l := fun i row hi => by have := (hrow i row hi).1; omega
          have hszr : ∀ (i : Nat) row, xs[i]? = some row → sz = P.cellsOf e := fun i row hi => by rw [← hw row (mem_of_get hi), c1 row (mem_of_get hi)]
          have := VR.imm (F := F) (ρ := ρ) (xs := (xs.drop l).take (h' - l)) (ex := (match m with | some m => decide (m = h') && (ex || !xs.isEmpty) | none => ex && decide (h' = xs.length)))
            (a := if m.getD cap = l then ad else ad.add (l * P.cellsOf e)) (cap := m.getD cap - l) sz cc el fr (fun i j => y (l + i) j) (by rw [hlen]; omega)
            (by
              intro hex
              rw [hlen]
              cases m with
              | none => simp at hex; simp; have := hx hex.1; omega
              | some k => simp at hex; simp; omega)
            (by
              intro hne
              have hs' := hs (by intro e; subst e; simp at hne)
              split
              · exact hs'
              · rw [add_eq hs'])
            (by
              intro hne
              have : (if m.getD cap = l then ad else ad.add (l * P.cellsOf e)).block = ad.block := by
                split
                · rfl
                · rw [add_eq (hs (by intro e; subst e; simp at hne))]
              rw [this]
              exact hF (by intro e; subst e; simp at hne))
            (by
              intro row hrow'
              obtain ⟨i, hi⟩ := List.getElem?_of_mem hrow'
              exact hw row (mem_of_get (hrow i row hi).2))
            (by
              intro i row hi j x hj
              obtain ⟨i1, i2⟩ := hrow i row hi
              rw [if_neg (hne0 i row hi), add_eq (hs (by intro e; subst e; simp at i2))]
              have e1 := hcell (l + i) row i2 j x hj
              rw [← hszr _ _ i2]
              rw [← e1]
              congr 1
              show ad.off + l * sz + i * sz + j = _
              rw [Nat.add_mul]; omega)
            (by
              intro i row hi j x hj
              exact hv (l + i) row (hrow i row hi).2 j x hj)
          rwa [hlen] at this
      | imm0 =>
        obtain ⟨r1, r2, r3, r4, r5⟩ := abounds_sound (P := P) (w := w) (Nat.le_refl 0) hb h1 h2 h3 true
        have hl0 : l = 0 := by simp at r3; omega
        have hh0 : h' = 0 := by simpa using r3
        have hm0 : m.getD 0 = 0 := by
          cases m with
          | none => rfl
          | some k => have := r4 k rfl; simp at this ⊢; omega
        subst hl0; subst hh0
        refine ⟨.slice none 0 0, ?_, ?_⟩
        · simp only [Instr.sliceAt, Instr.slice, Sem.run_bind, run_underlying hu, Result.andThen, r1, run_sizeOf hie, Sem.run_pure, hm0]
          rfl
        · cases m with
          | none => exact .imm0
          | some k => simpa using VR.imm0
  · rename_i e hu
    split at h
    case isFalse => simp at h
    rename_i c2
    obtain ⟨ie, hie⟩ := Option.isSome_iff_exists.1 c2
    cases hb : abounds 0 lo hi mx with
    | none => rw [hb] at h; simp at h
    | some lhm =>
      obtain ⟨l, h', m⟩ := lhm
      rw [hb] at h
      injection h with h
      subst h
      cases ha
      obtain ⟨r1, r2, r3, r4, r5⟩ := abounds_sound (P := P) (w := w) (Nat.le_refl 0) hb h1 h2 h3 true
      have hl0 : l = 0 := by omega
      have hh0 : h' = 0 := by omega
      have hm0 : m.getD 0 = 0 := by
        cases m with
        | none => rfl
        | some k => have := r4 k rfl; simp at this ⊢; omega
      subst hl0; subst hh0
      refine ⟨.slice none 0 0, ?_, .nils⟩
      simp only [Instr.sliceAt, Instr.slice, Sem.run_bind, run_underlying hu, Result.andThen, r1, run_sizeOf hie, Sem.run_pure, hm0]
      rfl
  · rename_i s hu
    split at h
    · rename_i l h' m hb
      injection h with h
      subst h
      cases ha
      cases h3
      obtain ⟨r1, r2, r3, r4, r5⟩ := abounds_sound (P := P) (w := w) (Nat.le_refl s.size) hb h1 h2 (.none : OptVR F ρ none none) false
      refine ⟨_, ?_, .str _⟩
      simp only [Instr.sliceAt, Instr.slice, Sem.run_bind, run_underlying hu, Result.andThen, r1, Sem.run_pure, Option.isSome_none, Bool.false_eq_true, if_false]
    · simp at h
  · simp at h

def alen (P : Program) (σ : H) (t : TypeId) (x : V) : Option V := match P.underlying t, x with
  | some .string, .str s => some (.int .i64 s.size)
  | some (.array n _), _ => some (.int .i64 n)
  | some (.slice _), .sl _ _ _ len _ => some (.int .i64 len)
  | some (.slice _), .imm xs _ => some (.int .i64 xs.length)
  | some (.slice _), .nils => some (.int .i64 0)
  | some (.map ..), .nilm => some (.int .i64 0)
  | some (.map ..), .mp b => match σ.get b with
    | some (.map es) => some (.int .i64 es.length)
    | _ => none
  | _, _ => none

theorem alen_sound {W : World} {σ : H} {ρ : Lay} {F G : Part} {w : World} (hr : Rel P W σ ρ F G w) {t ty : TypeId} {x v : V} (h : alen P σ t x = some v) {a : Value} (ha : VR F ρ x a) {ts : Array TypeId} (ht : ts[0]? = some t) :
    ∃ u, (Builtin.len_ ts ty #[a]).run P w = .ok u w ∧ VR F ρ v u := by
  have e1 : (#[a] : Array Value)[0]? = some a := rfl
  unfold alen at h
  split at h
  · rename_i hu; injection h with h; subst h; cases ha
    exact ⟨_, by simp only [Builtin.len_, ht, e1, Sem.run_bind, run_underlying hu, Result.andThen, Sem.run_pure]; rfl, .int _ _⟩
  · rename_i hu; injection h with h; subst h
    exact ⟨_, by simp only [Builtin.len_, ht, e1, Sem.run_bind, run_underlying hu, Result.andThen, Sem.run_pure]; rfl, .int _ _⟩
  · rename_i hu; injection h with h; subst h; cases ha
    exact ⟨_, by simp only [Builtin.len_, ht, e1, Sem.run_bind, run_underlying hu, Result.andThen, Sem.run_pure]; rfl, .int _ _⟩
  · rename_i hu; injection h with h; subst h
    cases ha <;> exact ⟨_, by simp only [Builtin.len_, ht, e1, Sem.run_bind, run_underlying hu, Result.andThen, Sem.run_pure]; rfl, .int _ _⟩
  · rename_i hu; injection h with h; subst h; cases ha
    exact ⟨_, by simp only [Builtin.len_, ht, e1, Sem.run_bind, run_underlying hu, Result.andThen, Sem.run_pure]; rfl, .int _ _⟩
  · rename_i hu; injection h with h; subst h; cases ha
    exact ⟨_, by simp only [Builtin.len_, ht, e1, Sem.run_bind, run_underlying hu, Result.andThen, Sem.run_pure]; rfl, .int _ _⟩
  · rename_i b hu
    split at h
    · rename_i es hg
      injection h with h; subst h
      cases ha with
      | mp hb =>
        rename_i l
        obtain ⟨l', g1, _, _, g4⟩ := hr.live b _ hg
        rw [hb] at g1; injection g1 with g1; subst g1
        obtain ⟨es', cl, k1, k2, _⟩ := g4
        refine ⟨_, ?_, .int _ _⟩
        simp only [Builtin.len_, ht, e1, Sem.run_bind, run_underlying hu, Result.andThen]
        simp only [getObj, Sem.run, k1]
        simp [goInt, k2, Sem.run]
    · simp at h
  · simp at h

theorem flatten_get {α : Type} {n : Nat} : ∀ {rows : List (List α)}, (∀ row ∈ rows, row.length = n) → ∀ (i j : Nat), j < n → rows.flatten[i * n + j]? = (rows[i]?).bind (·[j]?)
  | [], _, i, j, _ => by simp
  | r :: rows, h, i, j, hj => by
    have hr := h r (by simp)
    cases i with
    | zero => simp only [Nat.zero_mul, Nat.zero_add, List.flatten_cons]; rw [List.getElem?_append_left (by omega)]; simp
    | succ i =>
      rw [List.flatten_cons, List.getElem?_append_right (by rw [hr, Nat.add_mul]; omega)]
      have := flatten_get (rows := rows) (fun row hrow => h row (List.mem_cons_of_mem _ hrow)) i j hj
      rw [show (i + 1) * n + j - r.length = i * n + j by rw [hr, Nat.add_mul]; omega, this]
      simp

theorem flatten_len {α : Type} {n : Nat} : ∀ {rows : List (List α)}, (∀ row ∈ rows, row.length = n) → rows.flatten.length = rows.length * n
  | [], _ => by simp
  | r :: rows, h => by
    rw [List.flatten_cons, List.length_append, h r (by simp), flatten_len fun row hrow => h row (by simp [hrow])]
    simp [Nat.add_mul]; omega

/-- Rows that are set one after another. -/
def asetRows (n : Nat) (rows : List (List V)) : List (Nat × V) → Option (List (List V))
  | [] => some rows
  | (i, v) :: rest => if v.cells.length = n ∧ i < rows.length ∧ v.cells.all V.one = true then asetRows n (rows.set i v.cells) rest else none

theorem rowSet_flatten {n : Nat} {rows : List (List V)} (h : ∀ row ∈ rows, row.length = n) {i : Nat} (hi : i < rows.length) {new : List V} (hn : new.length = n) :
    rowSet rows.flatten (i * n) new = (rows.set i new).flatten := by
  have hl := flatten_len h
  have hle : i * n + n ≤ rows.length * n := by
    have := Nat.mul_le_mul_right n (show i + 1 ≤ rows.length from hi)
    rw [Nat.add_mul, Nat.one_mul] at this
    exact this
  have h' : ∀ row ∈ rows.set i new, row.length = n := by
    intro row hrow
    rcases List.mem_or_eq_of_mem_set hrow with hm | hm
    · exact h row hm
    · rw [hm, hn]
  apply List.ext_getElem?
  intro m
  rw [rowSet_get (by rw [hl, hn]; exact hle)]
  by_cases hz : n = 0
  · subst hz
    have e1 : rows.flatten = [] := List.eq_nil_of_length_eq_zero (by rw [hl]; simp)
    have e2 : (rows.set i new).flatten = [] := List.eq_nil_of_length_eq_zero (by rw [flatten_len h']; simp)
    rw [if_neg (by omega), e1, e2]
  · have hn0 : 0 < n := Nat.pos_of_ne_zero hz
    have em : m = m / n * n + m % n := by rw [Nat.mul_comm]; exact (Nat.div_add_mod m n).symm
    have hlt : m % n < n := Nat.mod_lt _ hn0
    have g1 := flatten_get h (m / n) (m % n) hlt
    have g2 := flatten_get h' (m / n) (m % n) hlt
    rw [← em] at g1 g2
    rw [g2, g1]
    by_cases hq : m / n = i
    · have hm : m = i * n + m % n := by rw [← hq]; exact em
      rw [if_pos ⟨by omega, by omega⟩, hq, List.getElem?_set_self hi]
      simp only [Option.bind_some]
      congr 1
      omega
    · rw [if_neg, List.getElem?_set_ne (Ne.symm hq)]
      intro ⟨a, b⟩
      apply hq
      rw [hn] at b
      exact Nat.div_eq_of_lt_le a (by rw [Nat.add_mul, Nat.one_mul]; exact b)

theorem asetRows_fill {n : Nat} : ∀ (ps : List (Nat × V)) (rows out : List (List V)), (∀ row ∈ rows, row.length = n) → asetRows n rows ps = some out →
    afill (fun i => some (i * n, n)) rows.flatten ps = some out.flatten ∧ (∀ row ∈ out, row.length = n) ∧ out.length = rows.length
  | [], rows, out, h, ha => by simp [asetRows] at ha; subst ha; exact ⟨rfl, h, rfl⟩
  | (i, v) :: ps, rows, out, h, ha => by
    simp only [asetRows] at ha
    split at ha
    · rename_i hc
      obtain ⟨c1, c2, c3⟩ := hc
      have hle : i * n + n ≤ rows.length * n := by
        have := Nat.mul_le_mul_right n (show i + 1 ≤ rows.length from c2)
        rw [Nat.add_mul, Nat.one_mul] at this
        exact this
      have h' : ∀ row ∈ rows.set i v.cells, row.length = n := by
        intro row hrow
        rcases List.mem_or_eq_of_mem_set hrow with hm | hm
        · exact h row hm
        · rw [hm, c1]
      obtain ⟨g1, g2, g3⟩ := asetRows_fill ps _ out h' ha
      refine ⟨?_, g2, by rw [g3]; simp⟩
      simp only [afill]
      rw [if_pos ⟨c1, by rw [flatten_len h]; exact hle, c3⟩, rowSet_flatten h c2 c1]
      exact g1
    · simp at ha

def arows (P : Program) (σ : H) (e : TypeId) (xs : List (List V)) (ex : Bool) : V × H := (.sl (P.cellsOf e) σ.nx 0 xs.length ex, σ.alloc (.rows e xs))

def abuildSlice (P : Program) (σ : H) (t : TypeId) (len : Nat) (parts : List (Nat × V)) : Option (V × H) := match P.underlying t with
  | some (.slice e) => match azero P e with
    | some z => if len * P.cellsOf e ≤ 2 ^ 24 ∧ z.cells.length = P.cellsOf e ∧ z.cells.all V.one = true ∧ P.cellsOf e ≠ 0 then
      (asetRows (P.cellsOf e) (List.replicate len z.cells) parts).map fun xs => arows P σ e xs true else none
    | none => none
  | _ => none

/-- Rows laid out in fresh cells. -/
theorem Rel.newRows {W : World} {σ : H} {ρ : Lay} {F G : Part} {w : World} (hr : Rel P W σ ρ F G w) {e : TypeId} {xs : List (List V)} {cs : Array Value} {cap : Nat} {ex : Bool} (hcap : xs.length ≤ cap)
    (hsz : cap * P.cellsOf e ≤ cs.size) (hex : ex = true → cap = xs.length)
    (hc : ∀ (i : Nat) row, xs[i]? = some row → row.length = P.cellsOf e ∧ ∀ (j : Nat) x, row[j]? = some x → x.one = true ∧ ∃ y, cs[i * P.cellsOf e + j]? = some y ∧ VR F ρ x y) :
    ∃ w' ρ', (newRow e cs).run P w = .ok ⟨w.heap.size, 0, none⟩ w' ∧ ρ.le ρ' ∧ Rel P W (arows P σ e xs ex).2 ρ' F G w' ∧
      VR F ρ' (arows P σ e xs ex).1 (.slice (some ⟨w.heap.size, 0, none⟩) xs.length cap) := by
  obtain ⟨ρ', g1, g2, g3⟩ := hr.allocAt (n := σ.nx) (H.use_nx σ) (e := e) (xs := xs) (cs := cs) (Nat.le_trans (Nat.mul_le_mul_right _ hcap) hsz) hc
  refine ⟨_, ρ', ?_, g1, g3, ?_⟩
  · simp only [newRow, Sem.run_bind, run_newObj, Result.andThen]; rfl
  · exact .sl g2 rfl hcap hex rfl rfl (fun _ => by show (0 : Nat) = 0 + 0 * _; omega) (fun _ => by show 0 + (0 + cap) * P.cellsOf e ≤ cs.size; rw [Nat.zero_add, Nat.zero_add]; exact hsz)

theorem abuildSlice_sound {W : World} {σ σ' : H} {ρ : Lay} {F G : Part} {w : World} (hr : Rel P W σ ρ F G w) {t : TypeId} {len : Nat} {ps : List (Nat × V)} {v : V} (h : abuildSlice P σ t len ps = some (v, σ')) {qs : Array (Nat × Value)}
    (hl : ps.length = qs.toList.length) (hp : ∀ (i : Nat) p q, ps[i]? = some p → qs.toList[i]? = some q → p.1 = q.1 ∧ VR F ρ p.2 q.2) :
    ∃ u w' ρ', (Instr.buildSlice t len qs).run P w = .ok u w' ∧ ρ.le ρ' ∧ Rel P W σ' ρ' F G w' ∧ VR F ρ' v u := by
  unfold abuildSlice at h
  cases hu : P.underlying t with
  | none => rw [hu] at h; simp at h
  | some d =>
    rw [hu] at h
    cases d with
    | slice e =>
      simp only at h
      cases hz0 : azero P e with
      | none => rw [hz0] at h; simp at h
      | some z =>
        rw [hz0] at h
        simp only at h
        split at h
        case isFalse => simp at h
        rename_i hc
        obtain ⟨c1, c2, c3, c4⟩ := hc
        cases hs : asetRows (P.cellsOf e) (List.replicate len z.cells) ps with
        | none => rw [hs] at h; simp at h
        | some xs =>
          rw [hs] at h
          simp only [Option.map_some] at h
          injection h with h
          obtain ⟨u0, r1, r2, ie, r3, r4⟩ := run_zeroValue hz0 F ρ
          obtain ⟨d1, d2⟩ := r2.cells c3
          have hzl : u0.cells.size = P.cellsOf e := by rw [← c2, ← d1]; simp
          have hrep : ∀ row ∈ List.replicate len z.cells, row.length = P.cellsOf e := by intro row hrow; rw [List.eq_of_mem_replicate hrow, c2]
          obtain ⟨f1, f2, f3⟩ := asetRows_fill ps _ xs hrep hs
          have hxl : xs.length = len := by rw [f3]; simp
          have hsize : (sizeOf e).run P w = .ok (P.cellsOf e) w := run_sizeOf r3 w
          have hcs : VRL F ρ (List.replicate len z.cells).flatten ((Array.range (len * P.cellsOf e)).map (u0.cells[· % u0.cells.size]!)).toList := by
            refine ⟨by rw [flatten_len hrep]; simp, fun m x y hx hy => ?_⟩
            have hn0 : 0 < P.cellsOf e := Nat.pos_of_ne_zero c4
            have em : m = m / P.cellsOf e * P.cellsOf e + m % P.cellsOf e := by rw [Nat.mul_comm]; exact (Nat.div_add_mod m _).symm
            have hlt : m % P.cellsOf e < P.cellsOf e := Nat.mod_lt _ hn0
            have g := flatten_get hrep (m / P.cellsOf e) (m % P.cellsOf e) hlt
            rw [← em, hx] at g
            have hml := lt_of_get hy
            simp at hml
            simp [hml] at hy
            cases hrow : (List.replicate len z.cells)[m / P.cellsOf e]? with
            | none => rw [hrow] at g; simp at g
            | some row =>
              rw [hrow] at g
              simp only [Option.bind_some] at g
              have : row = z.cells := List.eq_of_mem_replicate (mem_of_get hrow)
              subst this
              refine d2 (m % P.cellsOf e) x y g.symm ?_
              rw [← hy, hzl]
              have : m % P.cellsOf e < u0.cells.size := by rw [hzl]; exact hlt
              simp [this]
          obtain ⟨outc, k1, k2, k3⟩ := fill_sound _ ps qs.toList _ _ _ hcs hl hp f1
          have hoc : outc.size = len * P.cellsOf e := by
            have := k2.1
            rw [flatten_len f2, hxl] at this
            rw [← this, Array.length_toList]
          have hcell : ∀ (i : Nat) row, xs[i]? = some row → row.length = P.cellsOf e ∧ ∀ (j : Nat) x, row[j]? = some x → x.one = true ∧ ∃ y, outc[i * P.cellsOf e + j]? = some y ∧ VR F ρ x y := by
            intro i row hi
            have hrl := f2 row (mem_of_get hi)
            refine ⟨hrl, fun j x hj => ?_⟩
            have hjl : j < P.cellsOf e := by rw [← hrl]; exact lt_of_get hj
            have g := flatten_get f2 i j hjl
            rw [hi] at g
            simp only [Option.bind_some, hj] at g
            have hlt := lt_of_get g
            have hy : outc.toList[i * P.cellsOf e + j]? = some (outc.toList[i * P.cellsOf e + j]'(by rw [k2.1]; exact hlt)) := List.getElem?_eq_getElem _
            have hv := k2.2 _ _ _ g hy
            refine ⟨?_, _, by simp, hv⟩
            have allone : ∀ (ps : List (Nat × V)) (rows out : List (List V)), (∀ row ∈ rows, row.all V.one = true) → asetRows (P.cellsOf e) rows ps = some out → ∀ row ∈ out, row.all V.one = true := by
              intro ps
              induction ps with
              | nil => intro rows out h1 h2; simp [asetRows] at h2; subst h2; exact h1
              | cons p ps ih =>
                intro rows out h1 h2
                obtain ⟨i, v⟩ := p
                simp only [asetRows] at h2
                split at h2
                · rename_i hc
                  refine ih _ _ ?_ h2
                  intro row hrow
                  rcases List.mem_or_eq_of_mem_set hrow with hm | hm
                  · exact h1 row hm
                  · rw [hm]; exact hc.2.2
                · simp at h2
            have := allone ps _ xs (by intro row hrow; rw [List.eq_of_mem_replicate hrow]; exact c3) hs row (mem_of_get hi)
            exact List.all_eq_true.1 this _ (mem_of_get hj)
          obtain ⟨w', ρ', m1, m2, m3, m4⟩ := hr.newRows (e := e) (xs := xs) (cs := outc) (cap := xs.length) (ex := true) (Nat.le_refl _) (by rw [hoc, hxl]; omega) (fun _ => rfl) hcell
          have hv' : (arows P σ e xs true).1 = v ∧ (arows P σ e xs true).2 = σ' := by rw [h]; exact ⟨rfl, rfl⟩
          rw [hv'.2] at m3
          rw [hv'.1] at m4
          refine ⟨.slice (some ⟨w.heap.size, 0, none⟩) len len, w', ρ', ?_, m2, m3, by rw [hxl] at m4; exact m4⟩
          simp only [Instr.buildSlice, Sem.run_bind, run_underlying hu, Result.andThen, hsize]
          rw [if_neg (by omega)]
          by_cases hlen : len * P.cellsOf e = 0
          · have hz0' : len = 0 := by
              rcases Nat.mul_eq_zero.1 hlen with h | h
              · exact h
              · exact absurd h c4
            subst hz0'
            rw [if_pos (by simp)]
            simp only [Sem.run_bind, Sem.run_pure, Result.andThen]
            have : (Array.range (0 * P.cellsOf e)).map (u0.cells[· % u0.cells.size]!) = (Array.range (0 * P.cellsOf e)).map ((#[] : Array Value)[· % (#[] : Array Value).size]!) := by simp
            rw [this] at k1
            rw [k1]
            simp only [Sem.run_bind, m1, Result.andThen, Sem.run_pure]
          · rw [if_neg hlen]
            simp only [Sem.run_bind, r1, Sem.run_pure, Result.andThen, k1, m1]
    | _ => simp at h

end Go.Proofs.Ytngbibpmaofamaa.Ab

/- The abstract calculus, slices that grow: make and append. -/
-- Ab8
namespace Go.Proofs.Ytngbibpmaofamaa.Ab
open Go

variable {P : Program}

def amakeSlice (P : Program) (σ : H) (t : TypeId) (len cap : V) : Option (V × H) := match P.underlying t, len, cap with
  | some (.slice e), .int _ n, .int _ c => match azero P e with
    | some z => if 0 ≤ n ∧ n ≤ c ∧ c * P.bytesOf e ≤ 2 ^ 40 ∧ c ≤ 2 ^ 40 ∧ z.cells.length = P.cellsOf e ∧ z.cells.all V.one = true ∧ P.cellsOf e ≠ 0 then
      some (arows P σ e (List.replicate n.toNat z.cells) (decide (c = n))) else none
    | none => none
  | _, _, _ => none

theorem wrap_i64 {n : Int} (h0 : 0 ≤ n) (h1 : n ≤ 2 ^ 40) : IntKind.i64.wrap n = n := by
  have e : IntKind.i64.wrap n = (if (n % 18446744073709551616) ≥ 9223372036854775808 then n % 18446744073709551616 - 18446744073709551616 else n % 18446744073709551616) := by
    unfold IntKind.wrap; simp [IntKind.signed, IntKind.bits]
  rw [e]
  split <;> omega

theorem amakeSlice_sound {W : World} {σ σ' : H} {ρ : Lay} {F G : Part} {w : World} (hr : Rel P W σ ρ F G w) {t : TypeId} {len cap v : V} (h : amakeSlice P σ t len cap = some (v, σ')) {a c : Value} (ha : VR F ρ len a) (hc : VR F ρ cap c) :
    ∃ u w' ρ', (Instr.makeSlice t a c).run P w = .ok u w' ∧ ρ.le ρ' ∧ Rel P W σ' ρ' F G w' ∧ VR F ρ' v u := by
  unfold amakeSlice at h
  split at h
  case h_2 => simp at h
  rename_i e _ n _ cc hu
  cases ha; cases hc
  cases hz0 : azero P e with
  | none => rw [hz0] at h; simp at h
  | some z =>
    rw [hz0] at h
    simp only at h
    split at h
    case isFalse => simp at h
    rename_i hcond
    obtain ⟨c0, c1, c2, c3, c4, c5, c6⟩ := hcond
    injection h with h
    obtain ⟨u0, r1, r2, ie, r3, r4⟩ := run_zeroValue hz0 F ρ
    obtain ⟨d1, d2⟩ := r2.cells c5
    have hzl : u0.cells.size = P.cellsOf e := by rw [← c4, ← d1]; simp
    have hbytes : ie.bytes = P.bytesOf e := by simp [Program.bytesOf, r3]
    have hcells : ∀ (i : Nat) row, (List.replicate n.toNat z.cells)[i]? = some row → row.length = P.cellsOf e ∧ ∀ (j : Nat) x, row[j]? = some x → x.one = true ∧ ∃ y, ((Array.range (cc.toNat * P.cellsOf e)).map (u0.cells[· % u0.cells.size]!))[i * P.cellsOf e + j]? = some y ∧ VR F ρ x y := by
      intro i row hi
      have hrow : row = z.cells := List.eq_of_mem_replicate (mem_of_get hi)
      subst hrow
      refine ⟨c4, fun j x hj => ⟨List.all_eq_true.1 c5 _ (mem_of_get hj), ?_⟩⟩
      have hjl : j < P.cellsOf e := by rw [← c4]; exact lt_of_get hj
      have hil : i < n.toNat := by have := lt_of_get hi; simpa using this
      have hlt : i * P.cellsOf e + j < cc.toNat * P.cellsOf e := by
        have := Nat.mul_le_mul_right (P.cellsOf e) (show i + 1 ≤ cc.toNat by omega)
        rw [Nat.add_mul, Nat.one_mul] at this
        omega
      have hlu : j < u0.cells.size := by rw [hzl]; exact hjl
      refine ⟨u0.cells[j], ?_, d2 j x _ hj (by simp [hlu])⟩
      have hmod : (i * P.cellsOf e + j) % P.cellsOf e = j := by rw [Nat.mul_comm, Nat.mul_add_mod]; exact Nat.mod_eq_of_lt hjl
      simp [hlt, hzl, hmod]
      simp [hlu]
    obtain ⟨w', ρ', m1, m2, m3, m4⟩ := hr.newRows (e := e) (xs := List.replicate n.toNat z.cells) (cs := (Array.range (cc.toNat * P.cellsOf e)).map (u0.cells[· % u0.cells.size]!)) (cap := cc.toNat) (ex := decide (cc = n))
      (by simp; omega) (by simp) (by intro hh; simp at hh; simp [hh]) hcells
    have hv' : (arows P σ e (List.replicate n.toNat z.cells) (decide (cc = n))).1 = v ∧ (arows P σ e (List.replicate n.toNat z.cells) (decide (cc = n))).2 = σ' := by rw [h]; exact ⟨rfl, rfl⟩
    rw [hv'.2] at m3
    rw [hv'.1] at m4
    refine ⟨_, w', ρ', ?_, m2, m3, m4⟩
    have hwn := wrap_i64 (n := n) c0 (by omega)
    have hwc := wrap_i64 (n := cc) (by omega) c3
    have hbz : (ie.bytes : Int) * cc ≤ 2 ^ 40 := by rw [hbytes, Int.mul_comm]; exact c2
    have hbn : (ie.bytes : Int) * n ≤ 2 ^ 40 := Int.le_trans (Int.mul_le_mul_of_nonneg_left c1 (by omega)) hbz
    have hsm : ∀ {x : Int}, x ≤ 2 ^ 40 → ¬ x > 2 ^ 48 := by intro x hx; omega
    have hroom : (askRoom (cc.toNat * ie.bytes)).run P w = .ok () w := by unfold askRoom; split <;> rfl
    have hnn : ¬ (cc < 0) := by omega
    have hz1 : (cc.toNat * P.cellsOf e = 0) ∨ ¬ (cc.toNat * P.cellsOf e = 0) := Decidable.em _
    have hti : (typeInfo e).run P w = .ok ie w := by simp [typeInfo, r3]
    have hsize := run_sizeOf r3 w
    simp only [Instr.makeSlice, Sem.run_bind, run_underlying hu, Result.andThen, asInt, asIntOf, Sem.run_pure, hti, hwn, hwc]
    rw [if_neg (by simp [hnn, hsm hbz]; omega)]
    simp only [Sem.run_bind, hroom, Result.andThen, hsize]
    rcases hz1 with hz1 | hz1
    · rw [if_pos hz1]
      simp only [Sem.run_bind, Sem.run_pure, Result.andThen]
      have : (Array.range (cc.toNat * P.cellsOf e)).map ((#[] : Array Value)[· % (#[] : Array Value).size]!) = (Array.range (cc.toNat * P.cellsOf e)).map (u0.cells[· % u0.cells.size]!) := by rw [hz1]; simp
      rw [this, m1]
      simp
    · rw [if_neg hz1]
      simp only [Sem.run_bind, r1, Sem.run_pure, Result.andThen, m1]
      simp

/-- The rows that a slice shows. -/
def asrc (σ : H) (x : V) : Option (List (List V)) := match x with
  | .nils => some []
  | .imm ys _ => some ys
  | .sl _ b off len _ => match σ.get b with
    | some (.rows _ xs) => if off + len ≤ xs.length then some ((xs.drop off).take len) else none
    | _ => none
  | _ => none

theorem load_flat {F : Part} {ρ : Lay} {w : World} {a : Addr} (hs : a.spot = none) {flat : List V} (h : ∀ (m : Nat) x, flat[m]? = some x → ∃ y, w.cell? ⟨a.block, a.off + m, none⟩ = some y ∧ VR F ρ x y) :
    ∃ cs : Array Value, (loadCells a flat.length).run P w = .ok cs w ∧ VRL F ρ flat cs.toList := by
  let ys : List Value := (List.range flat.length).map fun m => (w.cell? ⟨a.block, a.off + m, none⟩).getD undef
  have hg : ∀ (m : Nat) y, ys[m]? = some y → w.cell? ⟨a.block, a.off + m, none⟩ = some y := by
    intro m y hy
    have hm : m < flat.length := by have := lt_of_get hy; simpa [ys] using this
    obtain ⟨y', h1, _⟩ := h m flat[m] (List.getElem?_eq_getElem hm)
    simp [ys, hm, h1] at hy
    rw [h1, hy]
  have hlen : ys.length = flat.length := by simp [ys]
  have := run_loadCells_list (P := P) w a ys (fun j v hj => by rw [add_eq hs]; exact hg j v hj)
  rw [hlen] at this
  refine ⟨ys.toArray, this, by simpa using hlen, fun m x y hx hy => ?_⟩
  obtain ⟨y', h1, h2⟩ := h m x hx
  have := hg m y (by simpa using hy)
  rw [h1] at this
  injection this with this
  subst this
  exact h2

theorem get_flat_inv {α : Type} {n : Nat} {rows : List (List α)} (h : ∀ row ∈ rows, row.length = n) {m : Nat} {x : α} (hx : rows.flatten[m]? = some x) :
    0 < n ∧ ∃ row, rows[m / n]? = some row ∧ row[m % n]? = some x ∧ m = m / n * n + m % n := by
  have hm := lt_of_get hx
  rw [flatten_len h] at hm
  have hn : 0 < n := by
    rcases Nat.eq_zero_or_pos n with h0 | h0
    · subst h0; simp at hm
    · exact h0
  have em : m = m / n * n + m % n := by rw [Nat.mul_comm]; exact (Nat.div_add_mod m n).symm
  have g := flatten_get h (m / n) (m % n) (Nat.mod_lt _ hn)
  rw [← em, hx] at g
  cases hr : rows[m / n]? with
  | none => rw [hr] at g; simp at g
  | some row => rw [hr] at g; exact ⟨hn, row, rfl, by simpa using g.symm, em⟩

theorem src_cells {W : World} {σ : H} {ρ : Lay} {F G : Part} {w : World} (hr : Rel P W σ ρ F G w) {x : V} {new : List (List V)} (h : asrc σ x = some new) {n : Nat} (hn : ∀ row ∈ new, row.length = n) {u : Value} (hx : VR F ρ x u) :
    (Builtin.lenOf u).run P w = .ok new.length w ∧ ∃ cs : Array Value, (Builtin.firstCells n new.length u).run P w = .ok cs w ∧ VRL F ρ new.flatten cs.toList := by
  unfold asrc at h
  split at h
  · injection h with h; subst h; cases hx
    exact ⟨rfl, #[], rfl, rfl, by simp⟩
  · injection h with h; subst h
    rename_i ys ex
    cases hx with
    | imm sz cc e fr y hl hx hs hF hw hcell hv =>
      rename_i a cap
      by_cases hys : ys = []
      · subst hys
        exact ⟨rfl, #[], by simp [Builtin.firstCells, loadCells]; rfl, rfl, by simp⟩
      refine ⟨rfl, ?_⟩
      obtain ⟨cs, h1, h2⟩ := load_flat (P := P) (F := F) (ρ := ρ) (w := w) (hs hys) (flat := ys.flatten) (by
        intro m x hm
        obtain ⟨hn0, row, g1, g2, g3⟩ := get_flat_inv hn hm
        have hne : ys ≠ [] := by intro e; subst e; simp at g1
        have hsz : sz = n := by rw [← hw row (mem_of_get g1), hn row (mem_of_get g1)]
        subst hsz
        refine ⟨y (m / sz) (m % sz), ?_, hv _ _ g1 _ _ g2⟩
        have := hcell _ _ g1 _ _ g2
        simp only [World.cell?, hr.frz _ _ (hF hne)]
        rw [show a.off + m = a.off + m / sz * sz + m % sz by omega]
        simpa using this)
      rw [flatten_len hn] at h1
      exact ⟨cs, by simpa [Builtin.firstCells] using h1, h2⟩
    | imm0 => exact ⟨rfl, #[], rfl, rfl, by simp⟩
  · rename_i sz b off len ex
    cases hg : σ.get b with
    | none => rw [hg] at h; simp at h
    | some bl =>
      rw [hg] at h
      cases bl with
      | map es => simp at h
      | rows e xs =>
        simp only at h
        split at h
        case isFalse => simp at h
        rename_i hle
        injection h with h
        cases hx with
        | sl hρ hz hl hx hk hs haddr hcap =>
          rename_i l a cap
          obtain ⟨l', g1, _, _, g4⟩ := hr.live b _ hg
          rw [hρ] at g1; injection g1 with g1; subst g1
          obtain ⟨k1, k2, c, k3, k4, k5, k6⟩ := g4
          have hlen : new.length = len := by rw [← h]; simp; omega
          refine ⟨by rw [hlen]; rfl, ?_⟩
          obtain ⟨cs, h1, h2⟩ := load_flat (P := P) (F := F) (ρ := ρ) (w := w) hs (flat := new.flatten) (by
            intro m x hm
            obtain ⟨hn0, row, p1, p2, p3⟩ := get_flat_inv hn hm
            have p1' := p1
            rw [← h, take_drop_get] at p1'
            obtain ⟨q1, q2⟩ := k6 _ _ p1'.2
            have hsz : l.sz = n := by rw [← q1, hn row (mem_of_get p1)]
            obtain ⟨_, y, q3, q4⟩ := q2 _ _ p2
            refine ⟨y, ?_, q4⟩
            have hlt := p1'.1
            have hlen0 : len ≠ 0 := Nat.ne_of_gt (Nat.lt_of_le_of_lt (Nat.zero_le _) hlt)
            clear hlt
            simp only [World.cell?, hk, k3]
            rw [haddr (by omega), hsz]
            rw [hsz, Nat.add_mul] at q3
            rw [show l.o + off * n + m = l.o + (off * n + m / n * n) + m % n by omega]
            simpa using q3)
          rw [flatten_len hn, hlen] at h1
          exact ⟨cs, by rw [hlen]; simpa [Builtin.firstCells] using h1, h2⟩
  · simp at h

theorem growBy_le (newLen : Nat) : ∀ (r c : Nat), Builtin.growBy newLen r c ≤ max c (newLen + (newLen + 768) / 4)
  | 0, c => by simp [Builtin.growBy]; omega
  | r + 1, c => by
    simp only [Builtin.growBy]
    split
    · omega
    · have := growBy_le newLen r (c + (c + 768) / 4)
      omega

theorem nextslicecap_le {need cap : Nat} (h : cap < need) : Builtin.nextslicecap need cap ≤ 2 * need + 192 := by
  unfold Builtin.nextslicecap
  split
  · omega
  · split
    · omega
    · have := growBy_le need 4 cap
      omega

/-- A block whose rows another number takes over: what is appended in place. -/
theorem Rel.regrow {W : World} {σ : H} {ρ : Lay} {F G : Part} {w : World} (h : Rel P W σ ρ F G w) {b : Nat} {e : TypeId} {xs xs' : List (List V)} {l : Loc} {c c' : Array Value} {o : Nat}
    (hb : σ.get b = some (.rows e xs)) (hl : ρ b = some l) (hh : w.heap[l.k]? = some (.cells c e (0, 0))) (hz : c'.size = c.size) (hn : o + xs'.length * l.sz ≤ l.n)
    (hr : ∀ (i : Nat) row, xs'[i]? = some row → row.length = l.sz ∧ ∀ (j : Nat) x, row[j]? = some x → x.one = true ∧ ∃ y, c'[o + i * l.sz + j]? = some y ∧ VR F ρ x y) :
    ∃ ρ' : Lay, ρ.le ρ' ∧ ρ' σ.nx = some ⟨l.k, o, e, l.sz, l.n⟩ ∧ Rel P W ((σ.kill b).alloc (.rows e xs')) ρ' F G (w.setRow l.k c') := by
  obtain ⟨l', g1, g2, g3, g4⟩ := h.live b _ hb
  rw [hl] at g1; injection g1 with g1; subst g1
  obtain ⟨k1, k2, cc, k3, k4, k5, k6⟩ := g4
  rw [hh] at k3
  injection k3 with k3
  injection k3 with k3
  subst k3
  have hheap := heap_setRow w l.k c' c e (0, 0) hh
  have hρn := h.fresh σ.nx (H.use_nx σ)
  let ρ' : Lay := fun b => if b = σ.nx then some ⟨l.k, o, e, l.sz, l.n⟩ else ρ b
  have hle : ρ.le ρ' := by
    intro b l hb
    show (if b = σ.nx then _ else ρ b) = some l
    rw [if_neg (by intro e; subst e; rw [hρn] at hb; simp at hb), hb]
  have hget : ∀ b2, ((σ.kill b).alloc (.rows e xs')).get b2 = if b2 = σ.nx then some (.rows e xs') else (σ.kill b).get b2 := fun b2 => rfl
  have hkill : ∀ b2 x2, (σ.kill b).get b2 = some x2 → b2 ≠ b ∧ σ.get b2 = some x2 := by
    intro b2 x2 hb2
    have hne : b2 ≠ b := by intro e; subst e; simp [H.get_kill] at hb2
    exact ⟨hne, by rwa [H.get_kill_ne hne] at hb2⟩
  refine ⟨ρ', hle, if_pos rfl, h.os, h.tape, h.out, ?_, ?_, h.fg, ?_, ?_, ?_⟩
  · intro k o hk
    rw [hheap, if_neg (by intro e; rw [e, g2] at hk; simp at hk)]
    exact h.frz k o hk
  · intro k o hk
    rw [hheap, if_neg (by intro e; rw [e, g3] at hk; simp at hk)]
    exact h.frm k o hk
  · intro b2 x2 hb2
    rw [hget] at hb2
    split at hb2
    · rename_i e2
      injection hb2 with hb2
      subst hb2; subst e2
      refine ⟨_, if_pos rfl, g2, g3, rfl, k2, c', by rw [hheap, if_pos rfl], by rw [hz, k4], hn, fun i row hi => ⟨(hr i row hi).1, fun j x hj => ?_⟩⟩
      obtain ⟨m1, y, m2, m3⟩ := (hr i row hi).2 j x hj
      exact ⟨m1, y, m2, m3.mono (Part.le_refl _) hle⟩
    · obtain ⟨hne2, hb2⟩ := hkill b2 x2 hb2
      obtain ⟨l2, m1, m2, m3, m4⟩ := h.live b2 x2 hb2
      have hne : l2.k ≠ l.k := fun e => hne2 (h.inj b2 b _ _ _ _ hb2 hb m1 hl e)
      refine ⟨l2, hle _ _ m1, m2, m3, ?_⟩
      cases x2 with
      | rows e xs =>
        obtain ⟨n1, n2, cc, n3, n4, n5, n6⟩ := m4
        refine ⟨n1, n2, cc, by rw [hheap, if_neg hne]; exact n3, n4, n5, fun i row hi => ⟨(n6 i row hi).1, fun j x hj => ?_⟩⟩
        obtain ⟨p1, y, p2, p3⟩ := (n6 i row hi).2 j x hj
        exact ⟨p1, y, p2, p3.mono (Part.le_refl _) hle⟩
      | map es =>
        obtain ⟨es', cl, n1, n2, n3, n4⟩ := m4
        exact ⟨es', cl, by rw [hheap, if_neg hne]; exact n1, n2, n3, fun i p e hi he => ⟨(n4 i p e hi he).1.mono (Part.le_refl _) hle, (n4 i p e hi he).2.mono (Part.le_refl _) hle⟩⟩
  · intro b1 b2 x1 x2 l1 l2 h1 h2 hl1 hl2 hk
    rw [hget] at h1 h2
    change (if b1 = σ.nx then _ else ρ b1) = some l1 at hl1
    change (if b2 = σ.nx then _ else ρ b2) = some l2 at hl2
    by_cases e1 : b1 = σ.nx
    · by_cases e2 : b2 = σ.nx
      · rw [e1, e2]
      · rw [if_pos e1] at hl1
        rw [if_neg e2] at h2 hl2
        obtain ⟨q1, q2⟩ := hkill _ _ h2
        injection hl1 with hl1
        subst hl1
        exact absurd (h.inj b2 b _ _ _ _ q2 hb hl2 hl hk.symm) q1
    · rw [if_neg e1] at h1 hl1
      obtain ⟨q1, q2⟩ := hkill _ _ h1
      by_cases e2 : b2 = σ.nx
      · rw [if_pos e2] at hl2
        injection hl2 with hl2
        subst hl2
        exact absurd (h.inj b1 b _ _ _ _ q2 hb hl1 hl hk) q1
      · rw [if_neg e2] at h2 hl2
        obtain ⟨q3, q4⟩ := hkill _ _ h2
        exact h.inj b1 b2 x1 x2 l1 l2 q2 q4 hl1 hl2 hk
  · intro b2 hb2
    have hb2' : b2 ≠ σ.nx ∧ σ.use b2 = false := by simpa [H.alloc, H.allocAt, H.kill] using hb2
    show (if b2 = σ.nx then _ else ρ b2) = none
    rw [if_neg hb2'.1]
    exact h.fresh b2 hb2'.2

theorem Rel.kill {W : World} {σ : H} {ρ : Lay} {F G : Part} {w : World} (h : Rel P W σ ρ F G w) (b : Nat) : Rel P W (σ.kill b) ρ F G w := by
  have hkill : ∀ b2 x2, (σ.kill b).get b2 = some x2 → σ.get b2 = some x2 := by
    intro b2 x2 hb2
    have hne : b2 ≠ b := by intro e; subst e; simp [H.get_kill] at hb2
    rwa [H.get_kill_ne hne] at hb2
  exact ⟨h.os, h.tape, h.out, h.frz, h.frm, h.fg, fun b2 x2 h2 => h.live b2 x2 (hkill _ _ h2), fun b1 b2 x1 x2 l1 l2 h1 h2 => h.inj b1 b2 x1 x2 l1 l2 (hkill _ _ h1) (hkill _ _ h2), h.fresh⟩

end Go.Proofs.Ytngbibpmaofamaa.Ab

/- The abstract calculus: append. -/
-- Ab9
namespace Go.Proofs.Ytngbibpmaofamaa.Ab
open Go

variable {P : Program}

def rowsOk (P : Program) (e : TypeId) (rows : List (List V)) : Prop := ∀ row ∈ rows, row.length = P.cellsOf e ∧ row.all V.one = true

instance (P : Program) (e : TypeId) (rows : List (List V)) : Decidable (rowsOk P e rows) := inferInstanceAs (Decidable (∀ row ∈ rows, _))

/-- Whether a slice of so many elements is one that grows within what memory bears. -/
def fitsMem (P : Program) (e : TypeId) (n : Nat) : Prop := (n + 256) * P.bytesOf e ≤ 2 ^ 40 ∧ P.bytesOf e ≠ 0
instance (P : Program) (e : TypeId) (n : Nat) : Decidable (fitsMem P e n) := inferInstanceAs (Decidable (_ ∧ _))

/-- What an append leaves: the new slice and the heap. -/
def aappendTo (P : Program) (σ : H) (e : TypeId) (s : V) (new : List (List V)) : Option (V × H) :=
  if new = [] then (match s with
    | .nils | .imm .. | .sl .. => some (s, σ)
    | _ => none)
  else match s with
  | .nils => if rowsOk P e new ∧ fitsMem P e new.length then some (arows P σ e new false) else none
  | .imm xs true => if rowsOk P e xs ∧ rowsOk P e new ∧ fitsMem P e (xs.length + new.length) then some (arows P σ e (xs ++ new) false) else none
  | .sl _ b off len ex => match σ.get b with
    | some (.rows e' xs) => if e' = e ∧ rowsOk P e new ∧ fitsMem P e (len + new.length) ∧ off + len ≤ xs.length then
        (if ex = true then some (arows P σ e ((xs.drop off).take len ++ new) false)
        else if off + len = xs.length then some (arows P (σ.kill b) e (xs.drop off ++ new) false) else none) else none
    | _ => none
  | _ => none

def zeroOk (P : Program) (e : TypeId) : Prop := ∃ z, azero P e = some z ∧ z.cells.length = P.cellsOf e ∧ z.cells.all V.one = true

def isInt : TypeDesc → Bool
  | .int _ => true
  | _ => false

/-- The rows of two lists one behind the other, in cells one behind the other. -/
theorem two_rows {F : Part} {ρ : Lay} {n : Nat} {xs ys : List (List V)} {c1 c2 : List Value} (hx : ∀ row ∈ xs, row.length = n ∧ row.all V.one = true) (hy : ∀ row ∈ ys, row.length = n ∧ row.all V.one = true)
    (h1 : VRL F ρ xs.flatten c1) (h2 : VRL F ρ ys.flatten c2) (cs : Array Value) (rest : List Value) (hcs : cs.toList = c1 ++ c2 ++ rest) :
    ∀ (i : Nat) row, (xs ++ ys)[i]? = some row → row.length = n ∧ ∀ (j : Nat) x, row[j]? = some x → x.one = true ∧ ∃ y, cs[i * n + j]? = some y ∧ VR F ρ x y := by
  intro i row hi
  have hmem := mem_of_get hi
  have hall : ∀ row ∈ xs ++ ys, row.length = n ∧ row.all V.one = true := by
    intro row hrow
    rcases List.mem_append.1 hrow with h | h
    · exact hx row h
    · exact hy row h
  have hrow := hall row hmem
  refine ⟨hrow.1, fun j x hj => ⟨List.all_eq_true.1 hrow.2 _ (mem_of_get hj), ?_⟩⟩
  have hjl : j < n := by rw [← hrow.1]; exact lt_of_get hj
  have hflat := flatten_get (fun row h => (hall row h).1) i j hjl
  rw [hi] at hflat
  simp only [Option.bind_some, hj, List.flatten_append] at hflat
  have hxl : xs.flatten.length = c1.length := h1.1.symm
  have hget : ∀ m : Nat, cs[m]? = (c1 ++ c2 ++ rest)[m]? := by intro m; rw [← hcs]; simp
  rw [hget, List.append_assoc]
  by_cases hm : i * n + j < c1.length
  · rw [List.getElem?_append_left (by omega)] at hflat
    rw [List.getElem?_append_left hm]
    exact ⟨c1[i * n + j], List.getElem?_eq_getElem hm, h1.2 _ _ _ hflat (List.getElem?_eq_getElem hm)⟩
  · rw [List.getElem?_append_right (by omega)] at hflat
    have hlt := lt_of_get hflat
    rw [← h2.1, hxl] at hlt
    rw [List.getElem?_append_right (by omega), List.getElem?_append_left hlt]
    rw [hxl] at hflat
    exact ⟨c2[i * n + j - c1.length], List.getElem?_eq_getElem hlt, h2.2 _ _ _ hflat (List.getElem?_eq_getElem hlt)⟩

theorem vrl_one {F : Part} {ρ : Lay} {n : Nat} {xs : List (List V)} {cs : List Value} (hx : ∀ row ∈ xs, row.length = n ∧ row.all V.one = true) (h : VRL F ρ xs.flatten cs) : ∀ v ∈ cs, v.oneCell' = true := by
  intro v hv
  obtain ⟨i, hi⟩ := List.getElem?_of_mem hv
  have hil : i < xs.flatten.length := by rw [← h.1]; exact lt_of_get hi
  have hg := List.getElem?_eq_getElem hil
  have hmem := List.getElem_mem hil
  obtain ⟨row, hrow, hin⟩ := List.mem_flatten.1 hmem
  exact (h.2 i _ v hg hi).one (List.all_eq_true.1 (hx row hrow).2 _ hin)

section
variable {W : World} {σ : H} {ρ : Lay} {F G : Part} {w : World}

/-- The machine's append where a new row is made. -/
theorem run_append_fresh {t t2 e ty : TypeId} {d2 : TypeDesc} {ie : TypeInfo} {z : Value} {base : Option Addr} {sLen sCap n : Nat} {x : Value} {old new : Array Value}
    (hu : P.underlying t = some (.slice e)) (hu2 : P.underlying t2 = some d2) (hd2 : isInt d2 = false) (hi : P.info? e = some ie) (hz : ie.zero = some z)
    (hlen : (Builtin.lenOf x).run P w = .ok n w) (hold : (Builtin.firstCells (P.cellsOf e) sLen (.slice base sLen sCap)).run P { w with drawn := w.drawn + 1 } = .ok old { w with drawn := w.drawn + 1 })
    (hnew : (Builtin.firstCells (P.cellsOf e) n x).run P { w with drawn := w.drawn + 1 } = .ok new { w with drawn := w.drawn + 1 }) (hcap : sCap < sLen + n) (hfit : fitsMem P e (sLen + n)) :
    ∃ (c : Nat), sLen + n ≤ c ∧
      (Builtin.append_ #[t, t2] ty #[.slice base sLen sCap, x]).run P w = ((newRow e (old ++ new ++ Builtin.zeroCells z.cells (c - (sLen + n)))).run P { w with drawn := w.drawn + 1 }).andThen fun a w' => .ok (.slice (some a) (sLen + n) c) w' := by
  have hti : ∀ w : World, (typeInfo e).run P w = .ok ie w := by intro w; simp [typeInfo, hi]
  have hbytes : ie.bytes = P.bytesOf e := by simp [Program.bytesOf, hi]
  have hroom : ∀ (k : Nat) (w : World), (askRoom k).run P w = .ok () w := by intro k w; unfold askRoom; split <;> rfl
  have hzero : ∀ w : World, (zeroValue e).run P w = .ok z w := by intro w; simp [zeroValue, typeInfo, hi, hz]
  obtain ⟨hf1, hf2⟩ := hfit
  have hslice := nextslicecap_le hcap
  have hbound : ¬ (Builtin.nextslicecap (sLen + n) sCap * ie.bytes > 2 ^ 48) := by
    rw [hbytes]
    have : Builtin.nextslicecap (sLen + n) sCap * P.bytesOf e ≤ (2 * (sLen + n + 256)) * P.bytesOf e := Nat.mul_le_mul_right _ (by omega)
    rw [Nat.mul_assoc] at this
    omega
  let q : Question := .appendCap (sLen + n) sCap e
  refine ⟨q.cut (w.tape w.drawn q), by show sLen + n ≤ (sLen + n) + _; omega, ?_⟩
  have hchoose : (choose q).run P w = .ok (q.cut (w.tape w.drawn q)) { w with drawn := w.drawn + 1 } := by
    simp [choose, Sem.run, q, Question.forced]
  have e0 : (#[t, t2] : Array TypeId)[0]? = some t := rfl
  have e1 : (#[t, t2] : Array TypeId)[1]? = some t2 := rfl
  have e2 : (#[.slice base sLen sCap, x] : Array Value)[0]? = some (.slice base sLen sCap) := rfl
  have e3 : (#[.slice base sLen sCap, x] : Array Value)[1]? = some x := rfl
  cases d2
  case int => simp [isInt] at hd2
  all_goals
    simp only [Builtin.append_, e0, e1, e2, e3, Sem.run_bind, run_underlying hu, run_underlying hu2, Result.andThen, run_sizeOf hi, Sem.run_pure]
    simp only [Bool.false_eq_true, if_false, hlen, Bool.not_false, if_true, Sem.run_bind, Result.andThen]
    rw [if_neg (by omega)]
    simp only [Sem.run_bind, hti, Result.andThen]
    rw [if_neg (by rw [hbytes]; simp [hf2])]
    simp only [Sem.run_bind, Sem.run_pure, Result.andThen, hti]
    rw [if_neg hbound]
    simp only [Sem.run_bind, Sem.run_pure, Result.andThen]
    rw [show (choose (Question.appendCap (sLen + n) sCap e)).run P w = _ from hchoose]
    simp only [hti, hroom, hold, hnew, hzero]

/-- The machine's append where the new elements fit behind the old ones. -/
theorem run_append_fits {t t2 e ty : TypeId} {d2 : TypeDesc} {ie : TypeInfo} {base : Option Addr} {sLen sCap n : Nat} {x : Value} {new : Array Value} {w' : World}
    (hu : P.underlying t = some (.slice e)) (hu2 : P.underlying t2 = some d2) (hd2 : isInt d2 = false) (hi : P.info? e = some ie)
    (hlen : (Builtin.lenOf x).run P w = .ok n w) (hnew : (Builtin.firstCells (P.cellsOf e) n x).run P w = .ok new w) (hcap : sLen + n ≤ sCap)
    (hst : ∀ a, base = some a → (storeCells (a.add (sLen * P.cellsOf e)) new.toList).run P w = .ok () w') (hnil : base = none → w' = w) :
    (Builtin.append_ #[t, t2] ty #[.slice base sLen sCap, x]).run P w = .ok (.slice base (sLen + n) sCap) w' := by
  have e0 : (#[t, t2] : Array TypeId)[0]? = some t := rfl
  have e1 : (#[t, t2] : Array TypeId)[1]? = some t2 := rfl
  have e2 : (#[.slice base sLen sCap, x] : Array Value)[0]? = some (.slice base sLen sCap) := rfl
  have e3 : (#[.slice base sLen sCap, x] : Array Value)[1]? = some x := rfl
  cases d2
  case int => simp [isInt] at hd2
  all_goals
    simp only [Builtin.append_, e0, e1, e2, e3, Sem.run_bind, run_underlying hu, run_underlying hu2, Result.andThen, run_sizeOf hi, Sem.run_pure]
    simp only [Bool.false_eq_true, if_false, hlen, Bool.not_false, if_true, Sem.run_bind, Result.andThen]
    rw [if_pos hcap]
    cases base with
    | none =>
      rw [hnil rfl]
      simp only [Sem.run_bind, hnew, Result.andThen, Sem.run_pure]
    | some a =>
      simp only [Sem.run_bind, hnew, Result.andThen, Sem.run_pure, hst a rfl]

/-- A fresh row, of old and new elements. -/
theorem append_fresh {t t2 e ty : TypeId} {d2 : TypeDesc} {base : Option Addr} {sLen sCap : Nat} {x : Value} {olds news : List (List V)} {src : V}
    (hr : Rel P W σ ρ F G w) (hu : P.underlying t = some (.slice e)) (hu2 : P.underlying t2 = some d2) (hd2 : isInt d2 = false) (hz : zeroOk P e)
    (hsrc : asrc σ src = some news) (hx : VR F ρ src x) (ho : ∀ row ∈ olds, row.length = P.cellsOf e ∧ row.all V.one = true) (hn : rowsOk P e news)
    (hol : olds.length = sLen) (hold : ∀ w2 : World, Rel P W σ ρ F G w2 → ∃ cs : Array Value, (Builtin.firstCells (P.cellsOf e) sLen (.slice base sLen sCap)).run P w2 = .ok cs w2 ∧ VRL F ρ olds.flatten cs.toList)
    (hcap : sCap < sLen + news.length) (hfit : fitsMem P e (sLen + news.length)) :
    ∃ u w' ρ', (Builtin.append_ #[t, t2] ty #[.slice base sLen sCap, x]).run P w = .ok u w' ∧ ρ.le ρ' ∧ Rel P W (arows P σ e (olds ++ news) false).2 ρ' F G w' ∧ VR F ρ' (arows P σ e (olds ++ news) false).1 u := by
  obtain ⟨z, hz0, hz1, hz2⟩ := hz
  obtain ⟨u0, r1, r2, ie, r3, r4⟩ := run_zeroValue hz0 F ρ
  obtain ⟨d1, d2'⟩ := r2.cells hz2
  have hzl : u0.cells.size = P.cellsOf e := by rw [← hz1, ← d1]; simp
  obtain ⟨hlen, _⟩ := src_cells (P := P) hr hsrc (n := P.cellsOf e) (fun row h => (hn row h).1) hx
  have hr2 := hr.drew (w.drawn + 1) (Nat.le_succ _)
  obtain ⟨_, new, hnew, hnv⟩ := src_cells (P := P) hr2 hsrc (n := P.cellsOf e) (fun row h => (hn row h).1) hx
  obtain ⟨old, hold1, holdv⟩ := hold _ hr2
  obtain ⟨c, k1, k6⟩ := run_append_fresh (P := P) (ty := ty) hu hu2 hd2 r3 r4 hlen hold1 hnew hcap hfit
  have hol' : old.size = olds.length * P.cellsOf e := by rw [← flatten_len fun row h => (ho row h).1, ← holdv.1]; simp
  have hnl' : new.size = news.length * P.cellsOf e := by rw [← flatten_len fun row h => (hn row h).1, ← hnv.1]; simp
  have hzs : (Builtin.zeroCells u0.cells (c - (sLen + news.length))).size = (c - (sLen + news.length)) * P.cellsOf e := by simp [Builtin.zeroCells, hzl]
  have hrows := two_rows ho (fun row h => hn row h) holdv hnv (old ++ new ++ Builtin.zeroCells u0.cells (c - (sLen + news.length))) (Builtin.zeroCells u0.cells (c - (sLen + news.length))).toList (by simp)
  obtain ⟨w', ρ', m1, m2, m3, m4⟩ := hr2.newRows (e := e) (xs := olds ++ news) (cs := old ++ new ++ Builtin.zeroCells u0.cells (c - (sLen + news.length))) (cap := c) (ex := false) (by simp; omega)
    (by
      simp only [Array.size_append, hol', hnl', hzs, ← Nat.add_mul]
      exact Nat.mul_le_mul_right _ (by omega)) (by simp) hrows
  refine ⟨_, w', ρ', by rw [k6, m1]; rfl, m2, m3, ?_⟩
  have : (olds ++ news).length = sLen + news.length := by simp [hol]
  rw [this] at m4
  exact m4

end

end Go.Proofs.Ytngbibpmaofamaa.Ab

/- The abstract calculus: append, whole. -/
-- AbA
namespace Go.Proofs.Ytngbibpmaofamaa.Ab
open Go

variable {P : Program}

theorem H.ext' {σ τ : H} (h1 : σ.nx = τ.nx) (h2 : ∀ b, σ.get b = τ.get b) (h3 : ∀ b, σ.use b = τ.use b) : σ = τ := by
  cases σ; cases τ
  simp only at h1 h2 h3
  have h2' := funext h2
  have h3' := funext h3
  subst h1; subst h2'; subst h3'
  rfl

theorem H.alloc_kill {σ : H} {b : Nat} {x : Blk} (h : b ≠ σ.nx) : (σ.alloc x).kill b = (σ.kill b).alloc x := by
  refine H.ext' rfl (fun b' => ?_) (fun b' => rfl)
  show (if b' = b then none else if b' = σ.nx then some x else σ.get b') = if b' = σ.nx then some x else if b' = b then none else σ.get b'
  by_cases e1 : b' = b
  · subst e1; simp [h]
  · simp [e1]

theorem asrc_self {σ : H} {sz b off len : Nat} {ex : Bool} {e : TypeId} {xs : List (List V)} (hg : σ.get b = some (.rows e xs)) (h : off + len ≤ xs.length) : asrc σ (.sl sz b off len ex) = some ((xs.drop off).take len) := by
  simp [asrc, hg, h]

theorem aappend_sound {W : World} {σ σ' : H} {ρ : Lay} {F G : Part} {w : World} (hr : Rel P W σ ρ F G w) {t t2 e ty : TypeId} {d2 : TypeDesc} (hu : P.underlying t = some (.slice e)) (hu2 : P.underlying t2 = some d2) (hd2 : isInt d2 = false)
    (hz : zeroOk P e) {src s v : V} {news : List (List V)} (hsrc : asrc σ src = some news) {us x : Value} (hs : VR F ρ s us) (hx : VR F ρ src x) (h : aappendTo P σ e s news = some (v, σ')) :
    ∃ u w' ρ', (Builtin.append_ #[t, t2] ty #[us, x]).run P w = .ok u w' ∧ ρ.le ρ' ∧ Rel P W σ' ρ' F G w' ∧ VR F ρ' v u := by
  obtain ⟨ie, hie⟩ : ∃ i, P.info? e = some i := by
    obtain ⟨z, hz0, _⟩ := hz
    obtain ⟨_, _, _, i, h, _⟩ := run_zeroValue hz0 F ρ
    exact ⟨i, h⟩
  unfold aappendTo at h
  by_cases hnil : news = []
  · rw [if_pos hnil] at h
    subst hnil
    have key : ∀ base sLen sCap, us = .slice base sLen sCap → sLen ≤ sCap → v = s → σ' = σ → ∃ u w' ρ', (Builtin.append_ #[t, t2] ty #[us, x]).run P w = .ok u w' ∧ ρ.le ρ' ∧ Rel P W σ' ρ' F G w' ∧ VR F ρ' v u := by
      intro base sLen sCap e1 e2 e3 e4
      subst e1; subst e3; subst e4
      obtain ⟨hlen, new, hnew, hnv⟩ := src_cells (P := P) hr hsrc (n := P.cellsOf e) (by simp) hx
      have hn0 : new.toList = [] := List.eq_nil_of_length_eq_zero (by rw [hnv.1]; rfl)
      refine ⟨_, w, ρ, run_append_fits (P := P) (ty := ty) (w := w) (w' := w) hu hu2 hd2 hie hlen hnew (by simpa using e2) (fun a _ => by rw [hn0]; rfl) (fun _ => rfl), Lay.le_refl _, hr, ?_⟩
      simpa using hs
    cases s <;> simp at h
    · cases hs; exact key _ _ _ rfl (Nat.le_refl _) h.1.symm h.2.symm
    · cases hs with | sl _ _ hl => exact key _ _ _ rfl hl h.1.symm h.2.symm
    · cases hs with
      | imm _ _ _ _ _ hl => exact key _ _ _ rfl hl h.1.symm h.2.symm
      | imm0 => exact key _ _ _ rfl (Nat.le_refl _) h.1.symm h.2.symm
  · rw [if_neg hnil] at h
    have hnl : 0 < news.length := List.length_pos_iff.2 hnil
    split at h
    · split at h
      · rename_i hc
        obtain ⟨c1, c2⟩ := hc
        injection h with h
        cases hs
        obtain ⟨u, w', ρ', g1, g2, g3, g4⟩ := append_fresh (P := P) (ty := ty) (olds := []) (base := none) (sLen := 0) (sCap := 0) hr hu hu2 hd2 hz hsrc hx (by simp) c1 rfl
          (fun w2 _ => ⟨#[], rfl, rfl, by simp⟩) (by omega) (by simpa using c2)
        simp only [List.nil_append] at g3 g4
        rw [h] at g3 g4
        exact ⟨u, w', ρ', g1, g2, g3, g4⟩
      · simp at h
    · rename_i xs
      split at h
      · rename_i hc
        obtain ⟨c0, c1, c2⟩ := hc
        injection h with h
        have hs0 := hs
        cases hs with
        | imm sz cc el fr y hl hx2 hsp hF hw hcell hv =>
          rename_i a cap
          have hcap : cap = xs.length := hx2 rfl
          obtain ⟨u, w', ρ', g1, g2, g3, g4⟩ := append_fresh (P := P) (ty := ty) (olds := xs) (base := some a) (sLen := xs.length) (sCap := cap) hr hu hu2 hd2 hz hsrc hx (fun row hrow => c0 row hrow) c1 rfl
            (fun w2 hr2 => by
              obtain ⟨_, cs, q1, q2⟩ := src_cells (P := P) hr2 (x := .imm xs true) rfl (n := P.cellsOf e) (fun row hrow => (c0 row hrow).1) hs0
              exact ⟨cs, q1, q2⟩) (by omega) c2
          rw [h] at g3 g4
          exact ⟨u, w', ρ', g1, g2, g3, g4⟩
      · simp at h
    · rename_i sz b off len ex
      cases hg : σ.get b with
      | none => rw [hg] at h; simp at h
      | some bl =>
        rw [hg] at h
        cases bl with
        | map es => simp at h
        | rows e' xs =>
          simp only at h
          split at h
          case isFalse => simp at h
          rename_i hc
          obtain ⟨c0, c1, c2, c3⟩ := hc
          subst c0
          have hs0 := hs
          cases hs with
          | sl hρ hzz hl hx2 hk hsp haddr hn =>
            rename_i l a cap
            obtain ⟨l', g1, g2, g3, g4⟩ := hr.live b _ hg
            rw [hρ] at g1; injection g1 with g1; subst g1
            obtain ⟨k1, k2, cc, k3, k4, k5, k6⟩ := g4
            have hlen : ((xs.drop off).take len).length = len := by simp; omega
            have holdrows : ∀ row ∈ (xs.drop off).take len, row.length = P.cellsOf e' ∧ row.all V.one = true := by
              intro row hrow
              obtain ⟨i, hi⟩ := List.getElem?_of_mem hrow
              rw [take_drop_get] at hi
              obtain ⟨q1, q2⟩ := k6 _ _ hi.2
              refine ⟨by rw [q1, k2], List.all_eq_true.2 fun x hx => ?_⟩
              obtain ⟨j, hj⟩ := List.getElem?_of_mem hx
              exact (q2 j x hj).1
            have hold : ∀ w2 : World, Rel P W σ ρ F G w2 → ∃ cs : Array Value, (Builtin.firstCells (P.cellsOf e') len (.slice (some a) len cap)).run P w2 = .ok cs w2 ∧ VRL F ρ ((xs.drop off).take len).flatten cs.toList := by
              intro w2 hr2
              obtain ⟨_, cs, q1, q2⟩ := src_cells (P := P) hr2 (x := .sl sz b off len ex) (asrc_self hg c3) (n := P.cellsOf e') (fun row hrow => (holdrows row hrow).1) hs0
              rw [hlen] at q1
              exact ⟨cs, q1, q2⟩
            by_cases hroom : cap < len + news.length
            · obtain ⟨u, w', ρ', p1, p2, p3, p4⟩ := append_fresh (P := P) (ty := ty) (olds := (xs.drop off).take len) (base := some a) (sLen := len) (sCap := cap) hr hu hu2 hd2 hz hsrc hx holdrows c1 hlen hold hroom c2
              cases ex with
              | true =>
                rw [if_pos rfl] at h
                injection h with h
                rw [h] at p3 p4
                exact ⟨u, w', ρ', p1, p2, p3, p4⟩
              | false =>
                rw [if_neg (by simp)] at h
                split at h
                · rename_i hend
                  injection h with h
                  have htake : (xs.drop off).take len = xs.drop off := List.take_of_length_le (by simp; omega)
                  rw [htake] at p3 p4
                  have h1 : (arows P (σ.kill b) e' (xs.drop off ++ news) false).1 = v := by rw [h]
                  have h2 : (arows P (σ.kill b) e' (xs.drop off ++ news) false).2 = σ' := by rw [h]
                  refine ⟨u, w', ρ', p1, p2, ?_, ?_⟩
                  · rw [← h2]
                    show Rel P W ((σ.kill b).alloc _) ρ' F G w'
                    rw [← H.alloc_kill (H.ne_nx hg)]
                    exact p3.kill b
                  · rw [← h1]; exact p4
                · simp at h
            · have hroom' : len + news.length ≤ cap := by omega
              cases ex with
              | true => exact absurd (hx2 rfl) (by omega)
              | false =>
                rw [if_neg (by simp)] at h
                split at h
                · rename_i hend
                  injection h with h
                  obtain ⟨hlenx, new, hnew, hnv⟩ := src_cells (P := P) hr hsrc (n := P.cellsOf e') (fun row hrow => (c1 row hrow).1) hx
                  have hnl' : new.toList.length = news.length * l.sz := by rw [hnv.1, flatten_len fun row hrow => (c1 row hrow).1, k2]
                  have hcap0 : cap ≠ 0 := by omega
                  have ha := haddr hcap0
                  have hfit := hn hcap0
                  have hmul : (off + len) * l.sz + news.length * l.sz ≤ (off + cap) * l.sz := by rw [← Nat.add_mul]; exact Nat.mul_le_mul_right _ (by omega)
                  have hoff : (off + len) * l.sz = off * l.sz + len * l.sz := Nat.add_mul _ _ _
                  have hst := run_storeCells_at P l.k (l.o + (off + len) * l.sz) e' new.toList 0 cc w k3 (by rw [hnl', k4]; omega) (vrl_one c1 hnv)
                  let c' : Array Value := (cc.toList.take (l.o + (off + len) * l.sz + 0) ++ new.toList ++ cc.toList.drop (l.o + (off + len) * l.sz + 0 + new.toList.length)).toArray
                  have hccl : cc.toList.length = cc.size := Array.length_toList
                  have hget : ∀ m, c'[m]? = if l.o + (off + len) * l.sz ≤ m ∧ m < l.o + (off + len) * l.sz + new.toList.length then new.toList[m - (l.o + (off + len) * l.sz)]? else cc[m]? := by
                    intro m
                    have := seg_get cc.toList new.toList (l.o + (off + len) * l.sz) (by rw [hnl', hccl, k4]; omega) m
                    simpa [c'] using this
                  obtain ⟨ρ', m1, m2, m3⟩ := hr.regrow (c := cc) (c' := c') (o := l.o + off * l.sz) (xs' := xs.drop off ++ news) hg hρ k3 (by
                      simp only [c', List.size_toArray, List.length_append, List.length_take, List.length_drop]
                      omega) (by
                      simp only [List.length_append, List.length_drop]
                      rw [show xs.length - off + news.length = len + news.length by omega, Nat.add_mul]
                      omega) (by
                      intro i row hi
                      by_cases hil : i < len
                      · rw [List.getElem?_append_left (by simp; omega), List.getElem?_drop] at hi
                        obtain ⟨q1, q2⟩ := k6 _ _ hi
                        refine ⟨q1, fun j x hj => ?_⟩
                        obtain ⟨q3, y, q4, q5⟩ := q2 j x hj
                        refine ⟨q3, y, ?_, q5⟩
                        have hjl : j < l.sz := by rw [← q1]; exact lt_of_get hj
                        have him : i * l.sz + l.sz ≤ len * l.sz := by
                          have := Nat.mul_le_mul_right l.sz (show i + 1 ≤ len from hil)
                          rw [Nat.add_mul, Nat.one_mul] at this
                          exact this
                        rw [hget, if_neg (by omega), ← q4]
                        congr 1
                        rw [Nat.add_mul]; omega
                      · rw [List.getElem?_append_right (by simp; omega)] at hi
                        have hdl : (xs.drop off).length = len := by simp; omega
                        rw [hdl] at hi
                        obtain ⟨q1, q2⟩ := c1 row (mem_of_get hi)
                        refine ⟨by rw [q1, k2], fun j x hj => ⟨List.all_eq_true.1 q2 _ (mem_of_get hj), ?_⟩⟩
                        have hjl : j < l.sz := by rw [k2, ← q1]; exact lt_of_get hj
                        have hflat := flatten_get (n := P.cellsOf e') (fun row hrow => (c1 row hrow).1) (i - len) j (by rw [← k2]; exact hjl)
                        rw [hi] at hflat
                        simp only [Option.bind_some, hj] at hflat
                        have hlt := lt_of_get hflat
                        rw [← hnv.1] at hlt
                        have hsplit : i * l.sz = len * l.sz + (i - len) * l.sz := by rw [← Nat.add_mul]; congr 1; omega
                        rw [← k2] at hlt hflat
                        refine ⟨new.toList[(i - len) * l.sz + j], ?_, hnv.2 _ _ _ hflat (List.getElem?_eq_getElem hlt)⟩
                        rw [hget, if_pos (by omega), ← List.getElem?_eq_getElem hlt]
                        congr 1
                        omega)
                  have hrun : (storeCells (a.add (len * P.cellsOf e')) new.toList).run P w = .ok () (w.setRow l.k c') := by
                    rw [add_eq hsp, hk, ha]
                    rw [show l.o + off * l.sz + len * P.cellsOf e' = l.o + (off + len) * l.sz by rw [← k2, Nat.add_mul]; omega]
                    exact hst
                  have h1 : (arows P (σ.kill b) e' (xs.drop off ++ news) false).1 = v := by rw [h]
                  have h2 : (arows P (σ.kill b) e' (xs.drop off ++ news) false).2 = σ' := by rw [h]
                  refine ⟨_, _, ρ', run_append_fits (P := P) (ty := ty) (w := w) (w' := w.setRow l.k c') hu hu2 hd2 hie hlenx hnew hroom' (fun a' ha' => by injection ha' with ha'; subst ha'; exact hrun) (by simp), m1, ?_, ?_⟩
                  · rw [← h2]; exact m3
                  · rw [← h1]
                    show VR F ρ' (.sl (P.cellsOf e') (σ.kill b).nx 0 (xs.drop off ++ news).length false) _
                    have hll : (xs.drop off ++ news).length = len + news.length := by simp; omega
                    rw [hll]
                    exact .sl m2 k2 hroom' (by simp) hk hsp (fun _ => by show a.off = l.o + off * l.sz + 0 * _; rw [ha]; omega) (fun _ => by
                      show l.o + off * l.sz + (0 + cap) * l.sz ≤ l.n
                      rw [Nat.add_mul] at hfit
                      rw [Nat.zero_add]; omega)
                · simp at h
    · simp at h

def aappend (P : Program) (σ : H) (ts : Array TypeId) (s x : V) : Option (V × H) := match ts.toList with
  | [t, t2] => match P.underlying t, P.underlying t2, asrc σ x with
    | some (.slice e), some d2, some news => match azero P e with
      | some z => if isInt d2 = false ∧ z.cells.length = P.cellsOf e ∧ z.cells.all V.one = true then aappendTo P σ e s news else none
      | none => none
    | _, _, _ => none
  | _ => none

theorem aappend_all {W : World} {σ σ' : H} {ρ : Lay} {F G : Part} {w : World} (hr : Rel P W σ ρ F G w) {ts : Array TypeId} {ty : TypeId} {src s v : V} {us x : Value} (hs : VR F ρ s us) (hx : VR F ρ src x)
    (h : aappend P σ ts s src = some (v, σ')) : ∃ u w' ρ', (Builtin.append_ ts ty #[us, x]).run P w = .ok u w' ∧ ρ.le ρ' ∧ Rel P W σ' ρ' F G w' ∧ VR F ρ' v u := by
  unfold aappend at h
  split at h
  case h_2 => simp at h
  rename_i t t2 hts
  obtain rfl : ts = #[t, t2] := by cases ts; simp at hts; simp [hts]
  split at h
  case h_2 => simp at h
  rename_i e d2 news hu hu2 hsrc
  cases hz0 : azero P e with
  | none => rw [hz0] at h; simp at h
  | some z =>
    rw [hz0] at h
    simp only at h
    split at h
    · rename_i hc
      exact aappend_sound hr hu hu2 hc.1 ⟨z, hz0, hc.2.1, hc.2.2⟩ hsrc hs hx h
    · simp at h

end Go.Proofs.Ytngbibpmaofamaa.Ab

/- The abstract calculus: one operation, whichever. -/
-- AbB
namespace Go.Proofs.Ytngbibpmaofamaa.Ab
open Go

variable {P : Program}

def amin2 : V → V → Option V
  | .int k x, .int k' y => if k = k' then some (.int k (if y < x then y else x)) else none
  | _, _ => none
def amax2 : V → V → Option V
  | .int k x, .int k' y => if k = k' then some (.int k (if y > x then y else x)) else none
  | _, _ => none

def afold (f : V → V → Option V) (x : V) : List V → Option V
  | [] => some x
  | y :: ys => match f x y with
    | some z => afold f z ys
    | none => none

theorem afold_sound {F : Part} {ρ : Lay} {f : V → V → Option V} {g : Value → Value → Sem Value} {w : World}
    (hf : ∀ x y z a b, f x y = some z → VR F ρ x a → VR F ρ y b → ∃ c, (g a b).run P w = .ok c w ∧ VR F ρ z c) :
    ∀ (ys : List V) (bs : List Value) (x z : V) (a : Value), bs.length = ys.length → (∀ (i : Nat) x y, ys[i]? = some x → bs[i]? = some y → VR F ρ x y) → afold f x ys = some z → VR F ρ x a →
      ∃ c, (bs.foldlM g a).run P w = .ok c w ∧ VR F ρ z c
  | [], [], x, z, a, _, _, h, ha => by simp [afold] at h; subst h; exact ⟨a, rfl, ha⟩
  | [], _ :: _, _, _, _, hl, _, _, _ => by simp at hl
  | _ :: _, [], _, _, _, hl, _, _, _ => by simp at hl
  | y :: ys, b :: bs, x, z, a, hl, hv, h, ha => by
    simp only [afold] at h
    cases hfy : f x y with
    | none => rw [hfy] at h; simp at h
    | some m =>
      rw [hfy] at h
      obtain ⟨c, h1, h2⟩ := hf x y m a b hfy ha (hv 0 y b rfl rfl)
      obtain ⟨d, h3, h4⟩ := afold_sound hf ys bs m z c (by simpa using hl) (fun i x y hx hy => hv (i + 1) x y (by simpa using hx) (by simpa using hy)) h h2
      refine ⟨d, ?_, h4⟩
      rw [List.foldlM_cons]
      simp only [Sem.run_bind, h1, Result.andThen, h3]

def abuiltin (P : Program) (σ : H) (b : Builtin) (ts : Array TypeId) (args : List V) : Option (V × H) := match b, args with
  | .len, [x] => match ts[0]? with
    | some t => (alen P σ t x).map (·, σ)
    | none => none
  | .append, [s, x] => aappend P σ ts s x
  | .min, x :: ys => (afold amin2 x ys).map (·, σ)
  | .max, x :: ys => (afold amax2 x ys).map (·, σ)
  | _, _ => none

theorem abuiltin_sound {W : World} {σ σ' : H} {ρ : Lay} {F G : Part} {w : World} (hr : Rel P W σ ρ F G w) {b : Builtin} {ts : Array TypeId} {ty : TypeId} {consts : Array Bool} {args : List V} {v : V}
    (h : abuiltin P σ b ts args = some (v, σ')) {as : Array Value} (ha : VRL F ρ args as.toList) :
    ∃ u w' ρ', (builtin b ts ty consts as).run P w = .ok (.value u) w' ∧ ρ.le ρ' ∧ Rel P W σ' ρ' F G w' ∧ VR F ρ' v u := by
  unfold abuiltin at h
  split at h
  · rename_i x
    cases ht : ts[0]? with
    | none => rw [ht] at h; simp at h
    | some t =>
      rw [ht] at h
      cases hl : alen P σ t x with
      | none => simp [hl] at h
      | some v' =>
        simp [hl] at h
        obtain ⟨rfl, rfl⟩ := h
        obtain ⟨a, rfl⟩ : ∃ a, as = #[a] := by
          obtain ⟨l⟩ := as
          match l, ha.1 with
          | [a], _ => exact ⟨a, rfl⟩
        obtain ⟨u, h1, h2⟩ := alen_sound (ty := ty) hr hl (ha.2 0 x a rfl rfl) ht
        exact ⟨u, w, ρ, by simp only [builtin, Sem.run_bind, h1, Result.andThen, Sem.run_pure], Lay.le_refl _, hr, h2⟩
  · rename_i s x
    obtain ⟨a, c, rfl⟩ : ∃ a c, as = #[a, c] := by
      obtain ⟨l⟩ := as
      match l, ha.1 with
      | [a, c], _ => exact ⟨a, c, rfl⟩
    obtain ⟨u, w', ρ', h1, h2, h3, h4⟩ := aappend_all (ty := ty) hr (ha.2 0 s a rfl rfl) (ha.2 1 x c rfl rfl) h
    exact ⟨u, w', ρ', by simp only [builtin, Sem.run_bind, h1, Result.andThen, Sem.run_pure], h2, h3, h4⟩
  · rename_i x ys
    cases hf : afold amin2 x ys with
    | none => simp [hf] at h
    | some v' =>
      simp [hf] at h
      obtain ⟨rfl, rfl⟩ := h
      obtain ⟨l⟩ := as
      match l, ha with
      | a :: bs, ha =>
        obtain ⟨c, h1, h2⟩ := afold_sound (P := P) (F := F) (ρ := ρ) (g := Builtin.min2) (w := w) (by
          intro x y z a b hm hxa hyb
          unfold amin2 at hm
          split at hm
          · split at hm
            · rename_i hk; subst hk; injection hm with hm; subst hm; cases hxa; cases hyb; exact ⟨_, rfl, .int _ _⟩
            · simp at hm
          · simp at hm) ys bs x v' a (by simpa using ha.1) (fun i x y hx hy => ha.2 (i + 1) x y (by simpa using hx) (by simpa using hy)) hf (ha.2 0 x a rfl rfl)
        refine ⟨c, w, ρ, ?_, Lay.le_refl _, hr, h2⟩
        simp only [builtin, Builtin.min_, Sem.run_bind, h1, Result.andThen, Sem.run_pure]
      | [], ha => simp [VRL] at ha
  · rename_i x ys
    cases hf : afold amax2 x ys with
    | none => simp [hf] at h
    | some v' =>
      simp [hf] at h
      obtain ⟨rfl, rfl⟩ := h
      obtain ⟨l⟩ := as
      match l, ha with
      | a :: bs, ha =>
        obtain ⟨c, h1, h2⟩ := afold_sound (P := P) (F := F) (ρ := ρ) (g := Builtin.max2) (w := w) (by
          intro x y z a b hm hxa hyb
          unfold amax2 at hm
          split at hm
          · split at hm
            · rename_i hk; subst hk; injection hm with hm; subst hm; cases hxa; cases hyb; exact ⟨_, rfl, .int _ _⟩
            · simp at hm
          · simp at hm) ys bs x v' a (by simpa using ha.1) (fun i x y hx hy => ha.2 (i + 1) x y (by simpa using hx) (by simpa using hy)) hf (ha.2 0 x a rfl rfl)
        refine ⟨c, w, ρ, ?_, Lay.le_refl _, hr, h2⟩
        simp only [builtin, Builtin.max_, Sem.run_bind, h1, Result.andThen, Sem.run_pure]
      | [], ha => simp [VRL] at ha
  · simp at h

def with_ (σ : H) : Option V → Option (V × H)
  | some v => some (v, σ)
  | none => none

/-- One operation that is no call of a function. -/
def aop (P : Program) (t : Env) (σ : H) : Op → Option (V × H)
  | .move x | .assign x => some (aev t x, σ)
  | .pick c a b => match aev t c with
    | .bool b' => some (if b' then aev t a else aev t b, σ)
    | _ => none
  | .alloc e => match azero P e with
    | some z => anew P σ e z
    | none => none
  | .box e x => anew P σ e (aev t x)
  | .build ty parts => match azero P ty with
    | some z => if z.cells.all V.one = true then with_ σ (abuild P ty (parts.toList.map fun p => (p.1, aev t p.2))) else none
    | none => none
  | .buildSlice ty n parts => abuildSlice P σ ty n (parts.toList.map fun p => (p.1, aev t p.2))
  | .load ty a => with_ σ (aload P σ ty (aev t a))
  | .store ty a x => match astore P σ ty (aev t a) (aev t x) with
    | some σ' => some (.junk, σ')
    | none => none
  | .nilCheck x => match aev t x with
    | .ptr b r c => some (.ptr b r c, σ)
    | .iptr cs c => some (.iptr cs c, σ)
    | .fn f caps => some (.fn f caps, σ)
    | _ => none
  | .binOp op xt x y _ => with_ σ (abin P op xt (aev t x) (aev t y))
  | .unOp op _ x => with_ σ (aun op (aev t x))
  | .convert src dst x => with_ σ (aconv P src dst (aev t x))
  | .makeFunc (.func f) first captured => if first.toList = [] then some (.fn f (captured.toList.map (aev t)), σ) else none
  | .makeSlice ty l c => amakeSlice P σ ty (aev t l) (aev t c)
  | .slice ty x lo hi mx => with_ σ (aslice P ty (aev t x) (lo.map (aev t)) (hi.map (aev t)) (mx.map (aev t)))
  | .fieldAddr s x f => with_ σ (afieldAddr P s (aev t x) f)
  | .field s x f => with_ σ (afield P s (aev t x) f)
  | .indexAddr ty x i => with_ σ (aindexAddr P ty (aev t x) (aev t i))
  | .index ty x i => with_ σ (aindex P ty (aev t x) (aev t i))
  | .extract x i => with_ σ (aextract (aev t x) i)
  | .call { callee := .builtin b, args, argTypes } => abuiltin P σ b argTypes (args.toList.map (aev t))
  | _ => none

theorem with_some {σ σ' : H} {x : Option V} {v : V} (h : with_ σ x = some (v, σ')) : x = some v ∧ σ = σ' := by
  cases x with
  | none => simp [with_] at h
  | some y => simp [with_] at h; exact ⟨by rw [h.1], h.2⟩

theorem optVR {N : Nat} {F : Part} {ρ : Lay} {t : Env} {a : Act} (hs : Slots N F ρ t a) (x : Option Operand) : OptVR F ρ (x.map (aev t)) (x.map a.eval) := by
  cases x with
  | none => exact .none
  | some x => exact .some (hs.eval x)

theorem vrl_map {N : Nat} {F : Part} {ρ : Lay} {t : Env} {a : Act} (hs : Slots N F ρ t a) (xs : Array Operand) : VRL F ρ (xs.toList.map (aev t)) (xs.map a.eval).toList := by
  refine ⟨by simp, fun i x y hx hy => ?_⟩
  simp at hx hy
  obtain ⟨z, h1, h2⟩ := hx
  obtain ⟨z', h3, h4⟩ := hy
  rw [h1] at h3
  injection h3 with h3
  subst h3
  rw [← h2, ← h4]
  exact hs.eval z

theorem parts_map {N : Nat} {F : Part} {ρ : Lay} {t : Env} {a : Act} (hs : Slots N F ρ t a) (ps : Array (Nat × Operand)) :
    (ps.toList.map fun p => (p.1, aev t p.2)).length = (ps.map fun (i, x) => (i, a.eval x)).toList.length ∧
    ∀ (i : Nat) p q, (ps.toList.map fun p => (p.1, aev t p.2))[i]? = some p → (ps.map fun (i, x) => (i, a.eval x)).toList[i]? = some q → p.1 = q.1 ∧ VR F ρ p.2 q.2 := by
  refine ⟨by simp, fun i p q hp hq => ?_⟩
  rw [Array.toList_map] at hq
  rw [List.getElem?_map] at hp hq
  cases hx : ps.toList[i]? with
  | none => rw [hx] at hp; simp at hp
  | some z =>
    rw [hx] at hp hq
    simp only [Option.map_some] at hp hq
    injection hp with hp
    injection hq with hq
    subst hp; subst hq
    exact ⟨rfl, hs.eval z.2⟩

theorem vr_ptr_inv {F : Part} {ρ : Lay} {b r c : Nat} {u : Value} (h : VR F ρ (.ptr b r c) u) : ∃ ad, u = .pointer (some ad) := by cases h; exact ⟨_, rfl⟩
theorem vr_iptr_inv {F : Part} {ρ : Lay} {cs : List V} {c : Nat} {u : Value} (h : VR F ρ (.iptr cs c) u) : ∃ ad, u = .pointer (some ad) := by cases h; exact ⟨_, rfl⟩
theorem vr_fn_inv {F : Part} {ρ : Lay} {f : FuncId} {caps : List V} {u : Value} (h : VR F ρ (.fn f caps) u) : ∃ ys : Array Value, u = .func (.func f) #[] ys := by cases h; exact ⟨_, rfl⟩
theorem run_nilCheck_ptr {ρ : Operand → Value} {x : Operand} {dst : Option Tmp} {ty : TypeId} {pos : String} {after : Array Edge} {g : Option (Nat × Bool)} {ad : Addr} {w : World} (h : ρ x = .pointer (some ad)) :
    (execOp ρ ⟨dst, .nilCheck x, ty, pos, after, g⟩).run P w = .ok (.value (ρ x)) w := by
  simp only [execOp, h]; rfl
theorem run_nilCheck_fn {ρ : Operand → Value} {x : Operand} {dst : Option Tmp} {ty : TypeId} {pos : String} {after : Array Edge} {g : Option (Nat × Bool)} {f : FuncId} {ys : Array Value} {w : World} (h : ρ x = .func (.func f) #[] ys) :
    (execOp ρ ⟨dst, .nilCheck x, ty, pos, after, g⟩).run P w = .ok (.value (ρ x)) w := by
  simp only [execOp, h]; rfl

set_option maxHeartbeats 4000000 in
theorem aop_sound {N : Nat} {o : Oper} {t : Env} {σ σ' : H} {v : V} {next : V → H → Prop} (h : aop P t σ o.op = some (v, σ')) (hn : next v σ') : AOper P N o t σ next := by
  have pure_case : ∀ {s : (a : Act) → Sem Value} {x : Option V}, with_ σ x = some (v, σ') → (∀ (a : Act), execOp a.eval o = (do pure (.value (← s a)) : Sem Next)) →
      (∀ W ρ F G a w, Rel P W σ ρ F G w → Slots N F ρ t a → x = some v → ∃ u, (s a).run P w = .ok u w ∧ VR F ρ v u) → AOper P N o t σ next := by
    intro s x hx he hs
    obtain ⟨hx2, hσ⟩ := with_some hx
    subst hσ
    refine oper_pure hn fun W ρ F G a w hr hsl => ?_
    obtain ⟨u, h1, h2⟩ := hs W ρ F G a w hr hsl hx2
    exact ⟨u, by rw [he a]; simp only [Sem.run_bind, h1, Result.andThen, Sem.run_pure], h2⟩
  have new_case : ∀ {s : (a : Act) → Sem Value}, (∀ (a : Act), execOp a.eval o = (do pure (.value (← s a)) : Sem Next)) →
      (∀ W ρ F G a w, Rel P W σ ρ F G w → Slots N F ρ t a → ∃ u w' ρ', (s a).run P w = .ok u w' ∧ ρ.le ρ' ∧ Rel P W σ' ρ' F G w' ∧ VR F ρ' v u) → AOper P N o t σ next := by
    intro s he hs
    refine oper_value hn fun W ρ F G a w hr hsl => ?_
    obtain ⟨u, w', ρ', h1, h2, h3, h4⟩ := hs W ρ F G a w hr hsl
    exact ⟨u, w', ρ', F, by rw [he a]; simp only [Sem.run_bind, h1, Result.andThen, Sem.run_pure], h2, Part.le_refl _, h3, h4⟩
  obtain ⟨dst, op, ty0, pos, after, guard⟩ := o
  simp only at h
  unfold aop at h
  split at h
  · injection h with h; injection h with h1 h2; subst h1; subst h2
    exact oper_pure hn fun W ρ F G a w hr hs => ⟨_, rfl, hs.eval _⟩
  · injection h with h; injection h with h1 h2; subst h1; subst h2
    exact oper_pure hn fun W ρ F G a w hr hs => ⟨_, rfl, hs.eval _⟩
  · rename_i c x y
    cases hc : aev t c with
    | bool b =>
      rw [hc] at h
      injection h with h; injection h with h1 h2; subst h1; subst h2
      refine oper_pure hn fun W ρ F G a w hr hs => ?_
      have e := vr_bool (hc ▸ hs.eval c)
      refine ⟨if b = true then a.eval x else a.eval y, ?_, ?_⟩
      · simp only [execOp, e, asBool, Sem.run_bind, Sem.run_pure, Result.andThen]
      · cases b
        · exact hs.eval y
        · exact hs.eval x
    | _ => rw [hc] at h; simp at h
  · rename_i e
    cases hz : azero P e with
    | none => rw [hz] at h; simp at h
    | some z =>
      rw [hz] at h
      refine new_case (s := fun a => Instr.alloc e true (.tuple #[])) (fun a => rfl) fun W ρ F G a w hr hs => ?_
      obtain ⟨u, r1, r2, _⟩ := run_zeroValue hz F ρ
      obtain ⟨ad, w', ρ', g1, g2, g3, g4⟩ := hr.newVar r2 h
      exact ⟨_, w', ρ', by simp only [Instr.alloc, Sem.run_bind, r1, Result.andThen, g1, Sem.run_pure], g2, g3, g4⟩
  · rename_i e x
    refine new_case (s := fun a => Instr.box e (a.eval x)) (fun a => rfl) fun W ρ F G a w hr hs => ?_
    obtain ⟨ad, w', ρ', g1, g2, g3, g4⟩ := hr.newVar (hs.eval x) h
    exact ⟨_, w', ρ', by simp only [Instr.box, Sem.run_bind, g1, Result.andThen, Sem.run_pure], g2, g3, g4⟩
  · rename_i ty parts
    cases hz : azero P ty with
    | none => rw [hz] at h; simp at h
    | some z =>
      rw [hz] at h
      simp only at h
      split at h
      · rename_i hone
        refine pure_case (s := fun a => Instr.build ty (parts.map fun (i, x) => (i, a.eval x))) h (fun a => rfl) fun W ρ F G a w hr hs hx => ?_
        obtain ⟨p1, p2⟩ := parts_map hs parts
        exact build_sound p1 p2 (fun z' hz' => by rw [hz] at hz'; injection hz' with hz'; subst hz'; exact hone) hx w
      · simp at h
  · rename_i ty n parts
    refine new_case (s := fun a => Instr.buildSlice ty n (parts.map fun (i, x) => (i, a.eval x))) (fun a => rfl) fun W ρ F G a w hr hs => ?_
    obtain ⟨p1, p2⟩ := parts_map hs parts
    exact abuildSlice_sound hr h p1 p2
  · rename_i ty p
    refine pure_case (s := fun a => Instr.loadAt ty (a.eval p)) h (fun a => rfl) fun W ρ F G a w hr hs hx => ?_
    obtain ⟨ad, y, g1, g2, g3⟩ := hr.load hx (hs.eval p)
    exact ⟨y, by simp only [Instr.loadAt, Instr.sureAddr, g1, Sem.run_bind, Sem.run_pure, Result.andThen, g2], g3⟩
  · rename_i ty p x
    cases hst : astore P σ ty (aev t p) (aev t x) with
    | none => rw [hst] at h; simp at h
    | some σ2 =>
      rw [hst] at h
      injection h with h; injection h with h1 h2; subst h1; subst h2
      refine oper_skip hn fun W ρ F G a w hr hs => ?_
      obtain ⟨ad, w', g1, g2, g3⟩ := hr.store hst (hs.eval p) (hs.eval x)
      exact ⟨w', by simp only [execOp, Instr.storeAt, Instr.sureAddr, g1, Sem.run_bind, Sem.run_pure, Result.andThen, g2], g3⟩
  · rename_i x
    split at h
    · rename_i b r c hx
      injection h with h; injection h with h1 h2; subst h1; subst h2
      refine oper_pure hn fun W ρ F G a w hr hs => ?_
      have hv := hx ▸ hs.eval x
      refine ⟨a.eval x, ?_, hv⟩
      obtain ⟨ad, e⟩ := vr_ptr_inv hv
      exact run_nilCheck_ptr e
    · rename_i cs c hx
      injection h with h; injection h with h1 h2; subst h1; subst h2
      refine oper_pure hn fun W ρ F G a w hr hs => ?_
      have hv := hx ▸ hs.eval x
      refine ⟨a.eval x, ?_, hv⟩
      obtain ⟨ad, e⟩ := vr_iptr_inv hv
      exact run_nilCheck_ptr e
    · rename_i f caps hx
      injection h with h; injection h with h1 h2; subst h1; subst h2
      refine oper_pure hn fun W ρ F G a w hr hs => ?_
      have hv := hx ▸ hs.eval x
      refine ⟨a.eval x, ?_, hv⟩
      obtain ⟨ys, e⟩ := vr_fn_inv hv
      exact run_nilCheck_fn e
    · simp at h
  · rename_i op xt x y yt
    exact pure_case (s := fun a => do eqGuard op xt x y (a.eval x) (a.eval y); binOp op xt (a.eval x) (a.eval y)) h (fun a => rfl) fun W ρ F G a w hr hs hx => abin_sound hx (hs.eval x) (hs.eval y) x y w
  · rename_i op xt x
    exact pure_case (s := fun a => Op.unary op (a.eval x)) h (fun a => rfl) fun W ρ F G a w hr hs hx => aun_sound hx (hs.eval x) w
  · rename_i src dst x
    exact pure_case (s := fun a => convert src dst (a.eval x)) h (fun a => rfl) fun W ρ F G a w hr hs hx => aconv_sound hx (hs.eval x) w
  · rename_i f first captured
    split at h
    · rename_i hf
      injection h with h; injection h with h1 h2; subst h1; subst h2
      refine oper_pure hn fun W ρ F G a w hr hs => ?_
      have e0 : first = #[] := by cases first; simp at hf; simp [hf]
      subst e0
      refine ⟨_, rfl, ?_⟩
      have := vrl_map hs captured
      have hv := VR.fn (F := F) (ρ := ρ) (f := f) _ this.1 this.2
      have e : ((captured.map a.eval).toList).toArray = captured.map a.eval := Array.toArray_toList
      rw [e] at hv
      have e2 : (#[] : Array Operand).map a.eval = #[] := by simp
      rw [e2]
      exact hv
    · simp at h
  · rename_i ty l c
    exact new_case (s := fun a => Instr.makeSlice ty (a.eval l) (a.eval c)) (fun a => rfl) fun W ρ F G a w hr hs => amakeSlice_sound hr h (hs.eval l) (hs.eval c)
  · rename_i ty x lo hi mx
    exact pure_case (s := fun a => Instr.sliceAt ty (a.eval x) (lo.map a.eval) (hi.map a.eval) (mx.map a.eval)) h (fun a => rfl) fun W ρ F G a w hr hs hx => aslice_sound hx (hs.eval x) (optVR hs lo) (optVR hs hi) (optVR hs mx)
  · rename_i s x f
    exact pure_case (s := fun a => Instr.fieldAt s (a.eval x) f) h (fun a => rfl) fun W ρ F G a w hr hs hx => afieldAddr_sound hx (hs.eval x)
  · rename_i s x f
    exact pure_case (s := fun a => Instr.field s (a.eval x) f) h (fun a => rfl) fun W ρ F G a w hr hs hx => afield_sound hx (hs.eval x)
  · rename_i ty x i
    exact pure_case (s := fun a => Instr.indexAt ty (a.eval x) (a.eval i)) h (fun a => rfl) fun W ρ F G a w hr hs hx => aindexAddr_sound hx (hs.eval x) (hs.eval i)
  · rename_i ty x i
    exact pure_case (s := fun a => Instr.index ty (a.eval x) (a.eval i)) h (fun a => rfl) fun W ρ F G a w hr hs hx => aindex_sound hx (hs.eval x) (hs.eval i)
  · rename_i x i
    exact pure_case (s := fun a => Instr.extract (a.eval x) i) h (fun a => rfl) fun W ρ F G a w hr hs hx => aextract_sound hx (hs.eval x)
  · rename_i b args argTypes
    refine oper_value hn fun W ρ F G a w hr hs => ?_
    obtain ⟨u, w', ρ', g1, g2, g3, g4⟩ := abuiltin_sound (ty := ty0) (consts := args.map fun | .const _ => true | _ => false) hr h (vrl_map hs args)
    refine ⟨u, w', ρ', F, ?_, g2, Part.le_refl _, g3, g4⟩
    simp only [execOp, resolve, Sem.run_bind, Sem.run_pure, Result.andThen, invoke]
    exact g1
  · simp at h

end Go.Proofs.Ytngbibpmaofamaa.Ab

/- The abstract calculus: calls; codes and regions as formulas that compute. -/
-- AbC
namespace Go.Proofs.Ytngbibpmaofamaa.Ab
open Go

variable {P : Program}

def callable (P : Program) (f : FuncId) : Bool := match P.funcs[f]? with
  | some fn => fn.body.isSome && !(fn.name == "runtime.NumGoroutine")
  | none => false

theorem run_callFunc {f : FuncId} (h : callable P f = true) (args : Array Value) (w : World) : (callFunc f args).run P w = .ok (.enter f args) w := by
  unfold callable at h
  cases hf : P.funcs[f]? with
  | none => rw [hf] at h; simp at h
  | some fn =>
    rw [hf] at h
    simp only [Bool.and_eq_true, Bool.not_eq_true'] at h
    have hb : fn.body.isNone = false := by cases hb : fn.body <;> simp_all
    simp only [callFunc, Sem.run_bind, run_program, Result.andThen, hf, h.2, Bool.false_eq_true, if_false, hb, Sem.run_pure]

theorem oper_call {N : Nat} {o : Oper} {t : Env} {σ : H} {next : V → H → Prop} {fo : Operand} {args : Array Operand} {ts : Array TypeId} {g : FuncId} {caps : List V}
    (ho : o.op = .call { callee := .value fo, args, argTypes := ts }) (hf : aev t fo = .fn g caps) (hc : callable P g = true) (h : Run P g (args.toList.map (aev t) ++ caps) σ next) : AOper P N o t σ next := by
  intro W ρ F G a w hr hs K QQ hK
  have hv := hs.eval fo
  rw [hf] at hv
  generalize hfe : a.eval fo = fe at hv
  cases hv with
  | fn ys hl hvs =>
    have hvl := vrl_map hs args
    have hargs : VRL F ρ (args.toList.map (aev t) ++ caps) ((args.map a.eval).toList ++ ys) := by
      refine ⟨by rw [List.length_append, List.length_append, hvl.1, hl], fun i x y hx hy => ?_⟩
      by_cases hi : i < (args.toList.map (aev t)).length
      · rw [List.getElem?_append_left hi] at hx
        rw [List.getElem?_append_left (by rw [hvl.1]; exact hi)] at hy
        exact hvl.2 i x y hx hy
      · rw [List.getElem?_append_right (by omega)] at hx
        rw [List.getElem?_append_right (by rw [hvl.1]; omega)] at hy
        rw [hvl.1] at hy
        exact hvs _ x y hx hy
    have hcalls := h W ρ F G w _ hr hargs
    have e : ((args.map a.eval).toList ++ ys).toArray = #[] ++ args.map a.eval ++ ys.toArray := by
      apply Array.ext'; simp
    rw [e] at hcalls
    unfold Oper.wp
    have hrun : (execOp a.eval o).run P w = .ok (.enter g (#[] ++ args.map a.eval ++ ys.toArray)) w := by
      obtain ⟨dst, op, ty0, pos, after, guard⟩ := o
      simp only at ho
      subst ho
      simp only [execOp, resolve, hfe, Deferred.ofValue, Sem.run_bind, Sem.run_pure, Result.andThen, invoke]
      exact run_callFunc hc _ w
    rw [hrun]
    refine hcalls.mono ?_
    rintro e w' ⟨v, r, σ', ρ', F', rfl, hq, h1, h2, h3, h4⟩
    exact hK r σ' ρ' F' v w' hq h1 h2 h3 h4

/-- Whether a guarded operation is wanted. -/
def wantedA (ops : Array Oper) (t : Env) (o : Oper) : Option Bool := match o.guard with
  | none => some true
  | some (j, b) => match ops[j]? with
    | some oj => match oj.dst with
      | some d => match t d with
        | .bool c => some (c == b)
        | .tup [] => some false
        | _ => none
      | none => none
    | none => none

abbrev Step := Env → H → (Env → H → Prop) → Prop

/-- What an operation's result is handed to. -/
def callK (f : Step) (t : Env) (d : Option Tmp) (Q : Env → H → Prop) : V → H → Prop := fun r σ' => f (putd t d r) σ' Q
@[simp] theorem callK_app (f : Step) (t : Env) (d : Option Tmp) (Q : Env → H → Prop) (r : V) (σ' : H) : callK f t d Q r σ' = f (putd t d r) σ' Q := (rfl)

def bindO (x : Option (V × H)) (k : V → H → Prop) : Prop := match x with
  | some (v, σ) => k v σ
  | none => False
@[simp] theorem bindO_some (v : V) (σ : H) (k : V → H → Prop) : bindO (some (v, σ)) k = k v σ := (rfl)
@[simp] theorem bindO_with (v : V) (σ : H) (k : V → H → Prop) : bindO (with_ σ (some v)) k = k v σ := (rfl)

/-- A call of what is a function value. -/
def callR (P : Program) (f : V) (args : List V) (σ : H) (k : V → H → Prop) : Prop := match f with
  | .fn g caps => callable P g = true ∧ Run P g (args ++ caps) σ k
  | _ => False
@[simp] theorem callR_fn (g : FuncId) (caps args : List V) (σ : H) (k : V → H → Prop) : callR P (.fn g caps) args σ k = (callable P g = true ∧ Run P g (args ++ caps) σ k) := (rfl)

def runOp (P : Program) (op : Op) (d : Option Tmp) (f : Step) : Step := fun t σ Q => match op with
  | .call { callee := .value g, args, .. } => callR P (aev t g) (args.toList.map (aev t)) σ (callK f t d Q)
  | op => bindO (aop P t σ op) (callK f t d Q)
def skipOp (d : Option Tmp) (f : Step) : Step := fun t σ Q => f (putd t d (.tup [])) σ Q
@[simp] theorem skipOp_app (d : Option Tmp) (f : Step) (t : Env) (σ : H) (Q : Env → H → Prop) : skipOp d f t σ Q = f (putd t d (.tup [])) σ Q := (rfl)

def wantK (w : Option Bool) (A B : Step) : Step := fun t σ Q => match w with
  | some true => A t σ Q
  | some false => B t σ Q
  | none => False
@[simp] theorem wantK_true (A B : Step) (t : Env) (σ : H) (Q : Env → H → Prop) : wantK (some true) A B t σ Q = A t σ Q := (rfl)
@[simp] theorem wantK_false (A B : Step) (t : Env) (σ : H) (Q : Env → H → Prop) : wantK (some false) A B t σ Q = B t σ Q := (rfl)

def dstLt (N : Nat) : Option Tmp → Prop
  | some d => d < N
  | none => True
@[simp] theorem dstLt_some (N d : Nat) : dstLt N (some d) = (d < N) := (rfl)
@[simp] theorem dstLt_none (N : Nat) : dstLt N none = True := (rfl)

/-- Operations one after another. -/
def AL (P : Program) (N : Nat) (ops : Array Oper) : List Oper → Step
  | [], t, σ, Q => Q t σ
  | o :: os, t, σ, Q => dstLt N o.dst ∧ wantK (wantedA ops t o) (runOp P o.op o.dst (AL P N ops os)) (skipOp o.dst (AL P N ops os)) t σ Q

theorem al_sound {N : Nat} {ops : Array Oper} : ∀ (l : List Nat) (os : List Oper) (t : Env) (σ : H) (Q : Env → H → Prop), (∀ o ∈ ops.toList, ∀ j b, o.guard = some (j, b) → ∀ oj, ops[j]? = some oj → ∀ d, oj.dst = some d → d < N) →
    l.map (ops[·]?) = os.map some → AL P N ops os t σ Q → AOps P N ops l t σ Q
  | [], [], t, σ, Q, _, _, h => a_nil h
  | [], _ :: _, _, _, _, _, hl, _ => by simp at hl
  | _ :: _, [], _, _, _, _, hl, _ => by simp at hl
  | i :: l, o :: os, t, σ, Q, hg, hl, h => by
    simp only [List.map_cons, List.cons.injEq] at hl
    obtain ⟨ho, hl⟩ := hl
    simp only [AL] at h
    obtain ⟨hd, h⟩ := h
    have hd' : dstOk N o.dst := by
      intro d hd2
      rw [hd2] at hd
      exact hd
    have ih := fun t σ Q h => al_sound l os t σ Q hg hl h
    have hmem : o ∈ ops.toList := by
      have := Array.mem_of_getElem? ho
      exact Array.mem_toList_iff.2 this
    -- what is done where the operation is wanted
    have wanted : runOp P o.op o.dst (AL P N ops os) t σ Q → AOper P N o t σ fun r σ' => AOps P N ops l (putd t o.dst r) σ' Q := by
      intro h
      unfold runOp at h
      split at h
      · rename_i f args ts hop
        cases hf : aev t f with
        | fn g caps =>
          rw [hf] at h
          exact oper_call hop hf h.1 (h.2.mono fun r σ' hq => ih _ _ _ hq)
        | _ => rw [hf] at h; exact h.elim
      · rename_i hno
        cases hop : aop P t σ o.op with
        | none => rw [hop] at h; exact h.elim
        | some vs =>
          obtain ⟨v, σ'⟩ := vs
          rw [hop] at h
          exact aop_sound hop (ih _ _ _ h)
    unfold wantedA at h
    cases hgu : o.guard with
    | none =>
      rw [hgu] at h
      exact a_cons ho hgu hd' (wanted h)
    | some jb =>
      obtain ⟨j, b⟩ := jb
      rw [hgu] at h
      simp only at h
      cases hj : ops[j]? with
      | none => rw [hj] at h; exact h.elim
      | some oj =>
        rw [hj] at h
        simp only at h
        cases hjd : oj.dst with
        | none => rw [hjd] at h; exact h.elim
        | some d =>
          rw [hjd] at h
          simp only at h
          have hdn := hg o hmem j b hgu oj hj d hjd
          cases htd : t d with
          | bool c =>
            rw [htd] at h
            simp only at h
            by_cases hcb : (c == b) = true
            · rw [hcb] at h
              have e : c = b := by simpa using hcb
              exact a_cons_guarded ho hgu hj hjd hdn (by rw [htd, e]) hd' (wanted h)
            · have hcb' : (c == b) = false := by simpa using hcb
              rw [hcb'] at h
              have e : c ≠ b := by simpa using hcb
              exact a_cons_passed ho hgu hj hjd hdn htd e hd' (ih _ _ _ h)
          | tup cs =>
            rw [htd] at h
            cases cs with
            | nil => exact a_cons_undef ho hgu hj hjd hdn htd hd' (ih _ _ _ h)
            | cons x cs => exact h.elim
          | _ => rw [htd] at h; exact h.elim

/-- The slots that guards look at are slots. -/
def guardsOk (N : Nat) (ops : Array Oper) : Bool := ops.toList.all fun o => match o.guard with
  | some (j, _) => match ops[j]? with
    | some oj => match oj.dst with
      | some d => decide (d < N)
      | none => true
    | none => true
  | none => true

theorem guardsOk_all {N : Nat} {ops : Array Oper} (h : guardsOk N ops = true) : ∀ o ∈ ops.toList, ∀ j b, o.guard = some (j, b) → ∀ oj, ops[j]? = some oj → ∀ d, oj.dst = some d → d < N := by
  intro o ho j b hg oj hj d hd
  have := List.all_eq_true.1 h o ho
  simp only [hg, hj, hd, decide_eq_true_eq] at this
  exact this

theorem al_region {N : Nat} {ops : Array Oper} {t : Env} {σ : H} {Q : Env → H → Prop} (hg : guardsOk N ops = true) (h : AL P N ops ops.toList t σ Q) : AOps P N ops (List.range ops.size) t σ Q := by
  refine al_sound _ _ t σ Q (guardsOk_all hg) ?_ h
  apply List.ext_getElem?
  intro i
  simp only [List.getElem?_map]
  by_cases hi : i < ops.size
  · simp [hi]
  · simp [hi]

/-- A region that draws its order: for each order. -/
def ADraw (P : Program) (N : Nat) (ops : Array Oper) (t : Env) (σ : H) (Q : Env → H → Prop) : Prop := ∀ k, AOps P N ops (Region.schedule (P.follows .mixedOrders) ops k) t σ Q

def seqK (f : Env → H → (Exit → Env → H → Prop) → Prop) (Q : Exit → Env → H → Prop) : Exit → Env → H → Prop
  | .normal, t, σ => f t σ Q
  | .exit i, t, σ => Q (.exit i) t σ
  | .goto i, t, σ => Q (.goto i) t σ
  | .ret, t, σ => Q .ret t σ
  | .panic c, t, σ => Q (.panic c) t σ
  | .outgrown, t, σ => Q .outgrown t σ

def blockK (id : Nat) (Q : Exit → Env → H → Prop) : Exit → Env → H → Prop
  | .exit id', t, σ => if id' = id then Q .normal t σ else Q (.exit id') t σ
  | .normal, t, σ => Q .normal t σ
  | .goto i, t, σ => Q (.goto i) t σ
  | .ret, t, σ => Q .ret t σ
  | .panic c, t, σ => Q (.panic c) t σ
  | .outgrown, t, σ => Q .outgrown t σ

def loopK (n : Nat) (I : Nat → Env → H → Prop) (Q : Exit → Env → H → Prop) : Exit → Env → H → Prop
  | .normal, t, σ => ∃ m, m < n ∧ I m t σ
  | .exit i, t, σ => Q (.exit i) t σ
  | .goto i, t, σ => Q (.goto i) t σ
  | .ret, t, σ => Q .ret t σ
  | .panic c, t, σ => Q (.panic c) t σ
  | .outgrown, t, σ => Q .outgrown t σ

abbrev CStep := Env → H → (Exit → Env → H → Prop) → Prop
def condK (v : V) (A B : CStep) : CStep := fun t σ Q => match v with
  | .bool true => A t σ Q
  | .bool false => B t σ Q
  | _ => False
@[simp] theorem condK_true (A B : CStep) (t : Env) (σ : H) (Q : Exit → Env → H → Prop) : condK (.bool true) A B t σ Q = A t σ Q := (rfl)
@[simp] theorem condK_false (A B : CStep) (t : Env) (σ : H) (Q : Exit → Env → H → Prop) : condK (.bool false) A B t σ Q = B t σ Q := (rfl)

/-- A code as a formula. -/
def AC (P : Program) (N : Nat) : Code → Env → H → (Exit → Env → H → Prop) → Prop
  | .skip, t, σ, Q => Q .normal t σ
  | .label _, t, σ, Q => Q .normal t σ
  | .exit id, t, σ, Q => Q (.exit id) t σ
  | .ret, t, σ, Q => Q .ret t σ
  | .seq a b, t, σ, Q => AC P N a t σ (seqK (AC P N b) Q)
  | .cond c a b, t, σ, Q => condK (aev t c) (AC P N a) (AC P N b) t σ Q
  | .block id c, t, σ, Q => AC P N c t σ (blockK id Q)
  | .loop c, t, σ, Q => ACode P N (.loop c) t σ Q
  | .region _ ops false, t, σ, Q => guardsOk N ops = true ∧ AL P N ops ops.toList t σ (regQ Q)
  | .region _ ops true, t, σ, Q => ADraw P N ops t σ (regQ Q)
  | _, _, _, _ => False

theorem ac_sound {N : Nat} : ∀ (c : Code) (t : Env) (σ : H) (Q : Exit → Env → H → Prop), AC P N c t σ Q → ACode P N c t σ Q
  | .skip, t, σ, Q, h => a_skip h
  | .label _, t, σ, Q, h => a_label h
  | .exit id, t, σ, Q, h => a_exit h
  | .ret, t, σ, Q, h => a_ret h
  | .seq a b, t, σ, Q, h => a_seq ((ac_sound a t σ _ h).mono fun e t σ q => by
      cases e with
      | normal => exact ac_sound b t σ Q q
      | _ => exact q)
  | .cond c a b, t, σ, Q, h => by
      simp only [AC] at h
      cases hc : aev t c with
      | bool x =>
        rw [hc] at h
        refine a_cond hc ?_
        cases x
        · exact ac_sound b t σ Q h
        · exact ac_sound a t σ Q h
      | _ => rw [hc] at h; exact h.elim
  | .block id c, t, σ, Q, h => a_block ((ac_sound c t σ _ h).mono fun e t σ q => by
      cases e <;> exact q)
  | .loop c, t, σ, Q, h => h
  | .region _ ops false, t, σ, Q, h => by
      simp only [AC] at h
      exact a_region (al_region h.1 h.2)
  | .region _ ops true, t, σ, Q, h => a_region_draw h
  | .rangeFunc .., _, _, _, h => h.elim
  | .scope _, _, _, _, h => h.elim
  | .goto _, _, _, _, h => h.elim
  | .refuse _, _, _, _, h => h.elim

/-- A function's body, as a formula. -/
theorem run_fn {f : FuncId} {fn : Func} {c : Code} {args : List V} {σ : H} {Q : V → H → Prop} (hf : P.funcs[f]? = some fn) (hb : fn.body = some c) (hn : args.length ≤ fn.ntmps)
    (h : AC P fn.ntmps c (env args) σ (retQ P fn Q)) : Run P f args σ Q := run_of_code hf hb hn (ac_sound _ _ _ _ h)

/-- A loop, its rounds as formulas. -/
theorem ac_loop {N : Nat} {c : Code} {t : Env} {σ : H} {Q : Exit → Env → H → Prop} (I : Nat → Env → H → Prop) (n : Nat) (h₀ : I n t σ)
    (round : ∀ n t σ, I n t σ → AC P N c t σ (loopK n I Q)) : ACode P N (.loop c) t σ Q :=
  a_loop I n h₀ fun n t σ hI => (ac_sound _ _ _ _ (round n t σ hI)).mono fun e t σ q => by cases e <;> exact q

theorem AC.mono {N : Nat} {Q Q' : Exit → Env → H → Prop} {c : Code} {t : Env} {σ : H} (h : AC P N c t σ Q) (hq : ∀ e t σ, Q e t σ → Q' e t σ) : ACode P N c t σ Q' :=
  (ac_sound _ _ _ _ h).mono hq

end Go.Proofs.Ytngbibpmaofamaa.Ab
