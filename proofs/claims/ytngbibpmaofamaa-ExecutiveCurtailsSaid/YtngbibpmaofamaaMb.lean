/- The abstract calculus: the rules by which a formula computes. -/
import Derived.Test.YtngbibpmaofamaaMa
import Derived.Orders
import Derived.Sort.Grow
set_option linter.all false
set_option linter.unusedSimpArgs false
set_option linter.unusedVariables false
-- AbD
namespace Go.Proofs.Ytngbibpmaofamaa.Ab
open Go

variable {P : Program} {N : Nat}

section codes
variable (t : Env) (σ : H) (Q : Exit → Env → H → Prop)
@[simp] theorem AC_skip : AC P N .skip t σ Q = Q .normal t σ := (rfl)
@[simp] theorem AC_label (l : Nat) : AC P N (.label l) t σ Q = Q .normal t σ := (rfl)
@[simp] theorem AC_exit (id : Nat) : AC P N (.exit id) t σ Q = Q (.exit id) t σ := (rfl)
@[simp] theorem AC_ret : AC P N .ret t σ Q = Q .ret t σ := (rfl)
@[simp] theorem AC_seq (a b : Code) : AC P N (.seq a b) t σ Q = AC P N a t σ (seqK (AC P N b) Q) := (rfl)
@[simp] theorem AC_cond (c : Operand) (a b : Code) : AC P N (.cond c a b) t σ Q = condK (aev t c) (AC P N a) (AC P N b) t σ Q := (rfl)
@[simp] theorem AC_block (id : Nat) (c : Code) : AC P N (.block id c) t σ Q = AC P N c t σ (blockK id Q) := (rfl)
@[simp] theorem AC_loop (c : Code) : AC P N (.loop c) t σ Q = ACode P N (.loop c) t σ Q := (rfl)
@[simp] theorem AC_region (id : Nat) (ops : Array Oper) : AC P N (.region id ops false) t σ Q = (guardsOk N ops = true ∧ AL P N ops ops.toList t σ (regQ Q)) := (rfl)
@[simp] theorem AC_draw (id : Nat) (ops : Array Oper) : AC P N (.region id ops true) t σ Q = ADraw P N ops t σ (regQ Q) := (rfl)
@[simp] theorem seqK_normal (f : CStep) : seqK f Q .normal t σ = f t σ Q := (rfl)
@[simp] theorem seqK_exit (f : CStep) (i : Nat) : seqK f Q (.exit i) t σ = Q (.exit i) t σ := (rfl)
@[simp] theorem seqK_ret (f : CStep) : seqK f Q .ret t σ = Q .ret t σ := (rfl)
@[simp] theorem blockK_normal (i : Nat) : blockK i Q .normal t σ = Q .normal t σ := (rfl)
@[simp] theorem blockK_exit (i j : Nat) : blockK i Q (.exit j) t σ = if j = i then Q .normal t σ else Q (.exit j) t σ := (rfl)
@[simp] theorem blockK_ret (i : Nat) : blockK i Q .ret t σ = Q .ret t σ := (rfl)
@[simp] theorem loopK_normal (n : Nat) (I : Nat → Env → H → Prop) : loopK n I Q .normal t σ = ∃ m, m < n ∧ I m t σ := (rfl)
@[simp] theorem loopK_exit (n : Nat) (I : Nat → Env → H → Prop) (i : Nat) : loopK n I Q (.exit i) t σ = Q (.exit i) t σ := (rfl)
@[simp] theorem loopK_ret (n : Nat) (I : Nat → Env → H → Prop) : loopK n I Q .ret t σ = Q .ret t σ := (rfl)
@[simp] theorem regQ_app : regQ Q t σ = Q .normal t σ := (rfl)
end codes

section ops
variable (ops : Array Oper) (t : Env) (σ : H) (Q : Env → H → Prop)
@[simp] theorem AL_nil : AL P N ops [] t σ Q = Q t σ := (rfl)
@[simp] theorem AL_cons (o : Oper) (os : List Oper) : AL P N ops (o :: os) t σ Q = (dstLt N o.dst ∧ wantK (wantedA ops t o) (runOp P o.op o.dst (AL P N ops os)) (skipOp o.dst (AL P N ops os)) t σ Q) := (rfl)
@[simp] theorem runOp_call (d : Option Tmp) (f : Step) (g : Operand) (args : Array Operand) (ts : Array TypeId) :
    runOp P (.call { callee := .value g, args := args, argTypes := ts }) d f t σ Q = callR P (aev t g) (args.toList.map (aev t)) σ (callK f t d Q) := (rfl)
theorem runOp_plain (op : Op) (d : Option Tmp) (f : Step) (h : ∀ g args ts, op ≠ .call { callee := .value g, args := args, argTypes := ts }) : runOp P op d f t σ Q = bindO (aop P t σ op) (callK f t d Q) := by
  unfold runOp
  split
  · exact absurd rfl (h _ _ _)
  · rfl
end ops

section plain
variable (d : Option Tmp) (f : Step) (t : Env) (σ : H) (Q : Env → H → Prop)
@[simp] theorem run_move (x : Operand) : runOp P (.move x) d f t σ Q = f (putd t d (aev t x)) σ Q := (rfl)
@[simp] theorem run_assign (x : Operand) : runOp P (.assign x) d f t σ Q = f (putd t d (aev t x)) σ Q := (rfl)
def pickK (v : V) (a b : V) : Option V := match v with
  | .bool c => some (if c = true then a else b)
  | _ => none
@[simp] theorem pickK_true (a b : V) : pickK (.bool true) a b = some a := (rfl)
@[simp] theorem pickK_false (a b : V) : pickK (.bool false) a b = some b := (rfl)
@[simp] theorem run_pick (c a b : Operand) : runOp P (.pick c a b) d f t σ Q = bindO (with_ σ (pickK (aev t c) (aev t a) (aev t b))) (callK f t d Q) := by
  show bindO (aop P t σ (.pick c a b)) _ = _
  simp only [aop]
  cases aev t c <;> rfl
@[simp] theorem run_alloc (e : TypeId) : runOp P (.alloc e) d f t σ Q = bindO (match azero P e with | some z => anew P σ e z | none => none) (callK f t d Q) := (rfl)
@[simp] theorem run_box (e : TypeId) (x : Operand) : runOp P (.box e x) d f t σ Q = bindO (anew P σ e (aev t x)) (callK f t d Q) := (rfl)
@[simp] theorem run_build (ty : TypeId) (ps : Array (Nat × Operand)) : runOp P (.build ty ps) d f t σ Q =
    bindO (match azero P ty with | some z => if z.cells.all V.one = true then with_ σ (abuild P ty (ps.toList.map fun p => (p.1, aev t p.2))) else none | none => none) (callK f t d Q) := (rfl)
@[simp] theorem run_buildSlice (ty : TypeId) (n : Nat) (ps : Array (Nat × Operand)) : runOp P (.buildSlice ty n ps) d f t σ Q = bindO (abuildSlice P σ ty n (ps.toList.map fun p => (p.1, aev t p.2))) (callK f t d Q) := (rfl)
@[simp] theorem run_load' (ty : TypeId) (a : Operand) : runOp P (.load ty a) d f t σ Q = bindO (with_ σ (aload P σ ty (aev t a))) (callK f t d Q) := (rfl)
def storeK (x : Option H) (k : V → H → Prop) : Prop := match x with
  | some σ => k .junk σ
  | none => False
@[simp] theorem storeK_some (σ : H) (k : V → H → Prop) : storeK (some σ) k = k .junk σ := (rfl)
@[simp] theorem run_store' (ty : TypeId) (a x : Operand) : runOp P (.store ty a x) d f t σ Q = storeK (astore P σ ty (aev t a) (aev t x)) (callK f t d Q) := by
  show bindO (aop P t σ (.store ty a x)) _ = _
  simp only [aop]
  cases astore P σ ty (aev t a) (aev t x) <;> rfl
@[simp] theorem run_nilCheck (x : Operand) : runOp P (.nilCheck x) d f t σ Q = bindO (match aev t x with
    | .ptr b r c => some (.ptr b r c, σ)
    | .iptr cs c => some (.iptr cs c, σ)
    | .fn f caps => some (.fn f caps, σ)
    | _ => none) (callK f t d Q) := rfl
@[simp] theorem run_binOp (op : BinOp) (xt yt : TypeId) (x y : Operand) : runOp P (.binOp op xt x y yt) d f t σ Q = bindO (with_ σ (abin P op xt (aev t x) (aev t y))) (callK f t d Q) := (rfl)
@[simp] theorem run_unOp (op : UnOp) (xt : TypeId) (x : Operand) : runOp P (.unOp op xt x) d f t σ Q = bindO (with_ σ (aun op (aev t x))) (callK f t d Q) := (rfl)
@[simp] theorem run_convert (src dst : TypeId) (x : Operand) : runOp P (.convert src dst x) d f t σ Q = bindO (with_ σ (aconv P src dst (aev t x))) (callK f t d Q) := (rfl)
@[simp] theorem run_makeFunc (g : FuncId) (first captured : Array Operand) : runOp P (.makeFunc (.func g) first captured) d f t σ Q = bindO (if first.toList = [] then some (.fn g (captured.toList.map (aev t)), σ) else none) (callK f t d Q) := (rfl)
@[simp] theorem run_makeSlice (ty : TypeId) (l c : Operand) : runOp P (.makeSlice ty l c) d f t σ Q = bindO (amakeSlice P σ ty (aev t l) (aev t c)) (callK f t d Q) := (rfl)
@[simp] theorem run_slice (ty : TypeId) (x : Operand) (lo hi mx : Option Operand) : runOp P (.slice ty x lo hi mx) d f t σ Q = bindO (with_ σ (aslice P ty (aev t x) (lo.map (aev t)) (hi.map (aev t)) (mx.map (aev t)))) (callK f t d Q) := (rfl)
@[simp] theorem run_fieldAddr (s : TypeId) (x : Operand) (i : Nat) : runOp P (.fieldAddr s x i) d f t σ Q = bindO (with_ σ (afieldAddr P s (aev t x) i)) (callK f t d Q) := (rfl)
@[simp] theorem run_field (s : TypeId) (x : Operand) (i : Nat) : runOp P (.field s x i) d f t σ Q = bindO (with_ σ (afield P s (aev t x) i)) (callK f t d Q) := (rfl)
@[simp] theorem run_indexAddr (ty : TypeId) (x i : Operand) : runOp P (.indexAddr ty x i) d f t σ Q = bindO (with_ σ (aindexAddr P ty (aev t x) (aev t i))) (callK f t d Q) := (rfl)
@[simp] theorem run_index (ty : TypeId) (x i : Operand) : runOp P (.index ty x i) d f t σ Q = bindO (with_ σ (aindex P ty (aev t x) (aev t i))) (callK f t d Q) := (rfl)
@[simp] theorem run_extract (x : Operand) (i : Nat) : runOp P (.extract x i) d f t σ Q = bindO (with_ σ (aextract (aev t x) i)) (callK f t d Q) := (rfl)
@[simp] theorem run_builtin (b : Builtin) (args : Array Operand) (ts : Array TypeId) : runOp P (.call { callee := .builtin b, args := args, argTypes := ts }) d f t σ Q = bindO (abuiltin P σ b ts (args.toList.map (aev t))) (callK f t d Q) := (rfl)
end plain

@[simp] theorem upd_app (t : Env) (i : Nat) (v : V) (j : Nat) : upd t i v j = if j = i then v else t j := (rfl)
@[simp] theorem aev_tmp (t : Env) (i : Nat) : aev t (.tmp i) = t i := (rfl)
@[simp] theorem aev_const (t : Env) (v : Value) : aev t (.const v) = cv v := (rfl)
@[simp] theorem aev_func (t : Env) (f : FuncId) : aev t (.func f) = .fn f [] := (rfl)
@[simp] theorem env_zero (v : V) (l : List V) : env (v :: l) 0 = v := (rfl)
@[simp] theorem env_succ (v : V) (l : List V) (i : Nat) : env (v :: l) (i + 1) = env l i := (rfl)
@[simp] theorem env_one (v : V) (l : List V) : env (v :: l) 1 = env l 0 := (rfl)
@[simp] theorem env_two (v : V) (l : List V) : env (v :: l) 2 = env l 1 := (rfl)
@[simp] theorem env_three (v : V) (l : List V) : env (v :: l) 3 = env l 2 := (rfl)
@[simp] theorem env_four (v : V) (l : List V) : env (v :: l) 4 = env l 3 := (rfl)
@[simp] theorem env_five (v : V) (l : List V) : env (v :: l) 5 = env l 4 := (rfl)
@[simp] theorem env_six (v : V) (l : List V) : env (v :: l) 6 = env l 5 := (rfl)
@[simp] theorem env_seven (v : V) (l : List V) : env (v :: l) 7 = env l 6 := (rfl)
@[simp] theorem env_nil (i : Nat) : env [] i = .junk := (rfl)
attribute [simp] cv cv0 guardsOk wantedA abuiltin alen abin aint acmp aun aconv aindexAddr afieldAddr afield aindex aextract aload rowRead aggD

@[simp] theorem wantedA_none (ops : Array Oper) (t : Env) (dst : Option Tmp) (op : Op) (ty : TypeId) (pos : String) (af : Array Edge) : wantedA ops t ⟨dst, op, ty, pos, af, none⟩ = some true := (rfl)

theorem wrap_id {k : IntKind} {n : Int} (h0 : k.min ≤ n) (h1 : n ≤ k.max) : k.wrap n = n := by
  cases k <;> simp [IntKind.min, IntKind.max, IntKind.signed, IntKind.bits] at h0 h1 <;> unfold IntKind.wrap <;> simp [IntKind.signed, IntKind.bits] <;> omega

theorem i64_id {n : Int} (h0 : -9223372036854775808 ≤ n) (h1 : n ≤ 9223372036854775807) : IntKind.i64.wrap n = n :=
  wrap_id (by simp [IntKind.min, IntKind.signed, IntKind.bits]; omega) (by simp [IntKind.max, IntKind.signed, IntKind.bits]; omega)
theorem u32_id {n : Int} (h0 : 0 ≤ n) (h1 : n ≤ 4294967295) : IntKind.u32.wrap n = n :=
  wrap_id (by simp [IntKind.min, IntKind.signed, IntKind.bits]; omega) (by simp [IntKind.max, IntKind.signed, IntKind.bits]; omega)
theorem u64_id {n : Int} (h0 : 0 ≤ n) (h1 : n ≤ 18446744073709551615) : IntKind.u64.wrap n = n :=
  wrap_id (by simp [IntKind.min, IntKind.signed, IntKind.bits]; omega) (by simp [IntKind.max, IntKind.signed, IntKind.bits]; omega)
theorem u32_mod (n : Int) : IntKind.u32.wrap n = n % 4294967296 := by unfold IntKind.wrap; simp [IntKind.signed, IntKind.bits]
theorem u64_mod (n : Int) : IntKind.u64.wrap n = n % 18446744073709551616 := by unfold IntKind.wrap; simp [IntKind.signed, IntKind.bits]

@[simp] theorem get0 {α : Type} (a : α) (l : List α) : (a :: l)[0]? = some a := (rfl)
attribute [simp] abuildSlice asetRows arows anew aslice abounds asrc aappend amakeSlice astore rowSet abuild afill
@[simp] theorem append_nils (P : Program) (σ : H) (e : TypeId) (new : List (List V)) : aappendTo P σ e .nils new =
    if new = [] then some (.nils, σ) else if rowsOk P e new ∧ fitsMem P e new.length then some (arows P σ e new false) else none := by unfold aappendTo; rfl
@[simp] theorem append_imm (P : Program) (σ : H) (e : TypeId) (xs new : List (List V)) : aappendTo P σ e (.imm xs true) new =
    if new = [] then some (.imm xs true, σ) else if rowsOk P e xs ∧ rowsOk P e new ∧ fitsMem P e (xs.length + new.length) then some (arows P σ e (xs ++ new) false) else none := by unfold aappendTo; rfl
@[simp] theorem append_sl (P : Program) (σ : H) (e : TypeId) (sz b off len : Nat) (ex : Bool) (new : List (List V)) : aappendTo P σ e (.sl sz b off len ex) new =
    if new = [] then some (.sl sz b off len ex, σ) else match σ.get b with
    | some (.rows e' xs) => if e' = e ∧ rowsOk P e new ∧ fitsMem P e (len + new.length) ∧ off + len ≤ xs.length then
        (if ex = true then some (arows P σ e ((xs.drop off).take len ++ new) false)
        else if off + len = xs.length then some (arows P (σ.kill b) e (xs.drop off ++ new) false) else none) else none
    | _ => none := by unfold aappendTo; rfl
attribute [simp] Int.natCast_inj
attribute [simp] isInt resL resV one_or_tup retQ aun aeq

section ones
@[simp] theorem one_bool (b : Bool) : V.one (.bool b) = true := (rfl)
@[simp] theorem one_int (k : IntKind) (n : Int) : V.one (.int k n) = true := (rfl)
@[simp] theorem one_str (s : ByteArray) : V.one (.str s) = true := (rfl)
@[simp] theorem one_nilp : V.one .nilp = true := (rfl)
@[simp] theorem one_ptr (b r c : Nat) : V.one (.ptr b r c) = true := (rfl)
@[simp] theorem one_iptr (cs : List V) (c : Nat) : V.one (.iptr cs c) = true := (rfl)
@[simp] theorem one_nils : V.one .nils = true := (rfl)
@[simp] theorem one_sl (z b o n : Nat) (x : Bool) : V.one (.sl z b o n x) = true := (rfl)
@[simp] theorem one_imm (xs : List (List V)) (x : Bool) : V.one (.imm xs x) = true := (rfl)
@[simp] theorem one_nilm : V.one .nilm = true := (rfl)
@[simp] theorem one_mp (b : Nat) : V.one (.mp b) = true := (rfl)
@[simp] theorem one_nilf : V.one .nilf = true := (rfl)
@[simp] theorem one_fn (f : FuncId) (l : List V) : V.one (.fn f l) = true := (rfl)
@[simp] theorem one_agg (l : List V) : V.one (.agg l) = false := (rfl)
@[simp] theorem one_tup (l : List V) : V.one (.tup l) = false := (rfl)
@[simp] theorem one_junk : V.one .junk = false := (rfl)
@[simp] theorem cells_bool (b : Bool) : V.cells (.bool b) = [.bool b] := (rfl)
@[simp] theorem cells_int (k : IntKind) (n : Int) : V.cells (.int k n) = [.int k n] := (rfl)
@[simp] theorem cells_str (s : ByteArray) : V.cells (.str s) = [.str s] := (rfl)
@[simp] theorem cells_nilp : V.cells .nilp = [.nilp] := (rfl)
@[simp] theorem cells_ptr (b r c : Nat) : V.cells (.ptr b r c) = [.ptr b r c] := (rfl)
@[simp] theorem cells_iptr (cs : List V) (c : Nat) : V.cells (.iptr cs c) = [.iptr cs c] := (rfl)
@[simp] theorem cells_nils : V.cells .nils = [.nils] := (rfl)
@[simp] theorem cells_sl (z b o n : Nat) (x : Bool) : V.cells (.sl z b o n x) = [.sl z b o n x] := (rfl)
@[simp] theorem cells_imm (xs : List (List V)) (x : Bool) : V.cells (.imm xs x) = [.imm xs x] := (rfl)
@[simp] theorem cells_nilm : V.cells .nilm = [.nilm] := (rfl)
@[simp] theorem cells_mp (b : Nat) : V.cells (.mp b) = [.mp b] := (rfl)
@[simp] theorem cells_nilf : V.cells .nilf = [.nilf] := (rfl)
@[simp] theorem cells_fn (f : FuncId) (l : List V) : V.cells (.fn f l) = [.fn f l] := (rfl)
@[simp] theorem cells_agg (l : List V) : V.cells (.agg l) = l := (rfl)
end ones

@[simp] theorem H.get_empty (b : Nat) : H.empty.get b = none := (rfl)
@[simp] theorem H.use_empty (b : Nat) : H.empty.use b = false := (rfl)
@[simp] theorem H.get_alloc' (σ : H) (x : Blk) (b : Nat) : (σ.alloc x).get b = if b = σ.nx then some x else σ.get b := (rfl)
@[simp] theorem H.use_alloc' (σ : H) (x : Blk) (b : Nat) : (σ.alloc x).use b = (b == σ.nx || σ.use b) := (rfl)
@[simp] theorem H.get_kill' (σ : H) (b b' : Nat) : (σ.kill b).get b' = if b' = b then none else σ.get b' := (rfl)
@[simp] theorem H.use_kill' (σ : H) (b b' : Nat) : (σ.kill b).use b' = σ.use b' := (rfl)
@[simp] theorem H.get_set' (σ : H) (b : Nat) (x : Blk) (b' : Nat) : (σ.set b x).get b' = if b' = b ∧ σ.use b = true then some x else σ.get b' := (rfl)
@[simp] theorem H.use_set' (σ : H) (b : Nat) (x : Blk) (b' : Nat) : (σ.set b x).use b' = σ.use b' := (rfl)

section rows
variable (P : Program) (e : TypeId)
@[simp] theorem rowsOk_nil : rowsOk P e [] := by simp [rowsOk]
@[simp] theorem rowsOk_cons (r : List V) (rs : List (List V)) : rowsOk P e (r :: rs) ↔ (r.length = P.cellsOf e ∧ r.all V.one = true) ∧ rowsOk P e rs := by simp [rowsOk]
@[simp] theorem rowsOk_append (r s : List (List V)) : rowsOk P e (r ++ s) ↔ rowsOk P e r ∧ rowsOk P e s := by
  simp only [rowsOk, List.mem_append]
  exact ⟨fun h => ⟨fun row hr => h row (.inl hr), fun row hr => h row (.inr hr)⟩, fun h row hr => hr.elim (h.1 row) (h.2 row)⟩
@[simp] theorem rowsOk_map {α : Type} (f : α → List V) (l : List α) : rowsOk P e (l.map f) ↔ ∀ d ∈ l, (f d).length = P.cellsOf e ∧ (f d).all V.one = true := by simp [rowsOk]
@[simp] theorem rowsOk_take_map {α : Type} (f : α → List V) (l : List α) (n : Nat) : rowsOk P e ((l.map f).take n) ↔ ∀ d ∈ l.take n, (f d).length = P.cellsOf e ∧ (f d).all V.one = true := by rw [← List.map_take]; exact rowsOk_map P e f _
@[simp] theorem rowsOk_drop_map {α : Type} (f : α → List V) (l : List α) (n : Nat) : rowsOk P e ((l.map f).drop n) ↔ ∀ d ∈ l.drop n, (f d).length = P.cellsOf e ∧ (f d).all V.one = true := by rw [← List.map_drop]; exact rowsOk_map P e f _
theorem rowsOk_set {r : List (List V)} {i : Nat} {x : List V} (h : rowsOk P e r) (hx : x.length = P.cellsOf e ∧ x.all V.one = true) : rowsOk P e (r.set i x) := by
  intro row hrow
  rcases List.mem_or_eq_of_mem_set hrow with hm | hm
  · exact h row hm
  · rw [hm]; exact hx
end rows

end Go.Proofs.Ytngbibpmaofamaa.Ab

/- The abstract calculus: regions that draw their order. -/
-- AbE
namespace Go.Proofs.Ytngbibpmaofamaa.Ab
open Go

variable {P : Program}

/-- An operation whose result hangs on its operands alone. -/
def pureOp : Op → Bool
  | .move _ | .assign _ | .pick .. | .binOp .. | .unOp .. | .convert .. | .makeFunc .. | .slice .. | .fieldAddr .. | .field .. | .indexAddr .. | .index .. | .extract .. | .build .. | .nilCheck _ => true
  | .call { callee := .builtin .min, .. } | .call { callee := .builtin .max, .. } => true
  | .call { callee := .value _, .. } => true
  | _ => false

def isCall : Op → Bool
  | .call { callee := .value _, .. } => true
  | _ => false

theorem aop_pure {t : Env} {σ σ' τ : H} {o : Op} {v : V} (hp : pureOp o = true) (hc : isCall o = false) (h : aop P t σ o = some (v, σ')) : σ' = σ ∧ aop P t τ o = some (v, τ) := by
  have w : ∀ {x : Option V}, with_ σ x = some (v, σ') → σ' = σ ∧ with_ τ x = some (v, τ) := by
    intro x hx
    obtain ⟨rfl, rfl⟩ := with_some hx
    exact ⟨rfl, rfl⟩
  unfold aop at h ⊢
  split at h <;> simp only [pureOp, Bool.false_eq_true] at hp
  all_goals first
    | exact w h
    | (injection h with h; injection h with h1 h2; exact ⟨h2.symm, by simp only [h1]⟩)
    | (simp at h; done)
    | skip
  · split at h
    · injection h with h; injection h with h1 h2; exact ⟨h2.symm, by simp only [*]⟩
    · simp at h
  · split at h
    · split at h
      · rename_i h1 h2; rw [if_pos h2]; exact w h
      · simp at h
    · simp at h
  · split at h
    · injection h with h; injection h with h1 h2; exact ⟨h2.symm, by simp only [*]⟩
    · injection h with h; injection h with h1 h2; exact ⟨h2.symm, by simp only [*]⟩
    · injection h with h; injection h with h1 h2; exact ⟨h2.symm, by simp only [*]⟩
    · simp at h
  · split at h
    · rename_i hf; injection h with h; injection h with h1 h2; rw [if_pos hf]; exact ⟨h2.symm, by simp only [h1]⟩
    · simp at h
  · rename_i b args ts
    cases b <;> simp only [pureOp, Bool.false_eq_true] at hp
    · unfold abuiltin at h ⊢
      cases ha : args.toList.map (aev t) with
      | nil => rw [ha] at h; simp at h
      | cons x ys =>
        rw [ha] at h
        simp only at h ⊢
        cases hf : afold amax2 x ys with
        | none => rw [hf] at h; simp at h
        | some y => rw [hf] at h; simp at h; exact ⟨h.2.symm, by simp [h.1]⟩
    · unfold abuiltin at h ⊢
      cases ha : args.toList.map (aev t) with
      | nil => rw [ha] at h; simp at h
      | cons x ys =>
        rw [ha] at h
        simp only at h ⊢
        cases hf : afold amin2 x ys with
        | none => rw [hf] at h; simp at h
        | some y => rw [hf] at h; simp at h; exact ⟨h.2.symm, by simp [h.1]⟩

theorem aop_congr {t t' : Env} {σ : H} {o : Op} (h : ∀ x ∈ o.operands, aev t x = aev t' x) : aop P t σ o = aop P t' σ o := by
  have pairs : ∀ (ps : Array (Nat × Operand)), (∀ x ∈ ps.map (·.2), aev t x = aev t' x) → (ps.toList.map fun p => (p.1, aev t p.2)) = (ps.toList.map fun p => (p.1, aev t' p.2)) := by
    intro ps hp
    apply List.map_congr_left
    intro p hm
    rw [hp p.2 (Array.mem_map.2 ⟨p, Array.mem_toList_iff.1 hm, rfl⟩)]
  have list : ∀ (xs : Array Operand), (∀ x ∈ xs, aev t x = aev t' x) → xs.toList.map (aev t) = xs.toList.map (aev t') := by
    intro xs hx
    exact List.map_congr_left fun x hm => hx x (Array.mem_toList_iff.1 hm)
  cases o <;> simp only [Op.operands] at h <;> simp only [aop]
  case build ty ps => rw [pairs ps fun x hx => h x (by simpa using hx)]
  case buildSlice ty n ps => rw [pairs ps fun x hx => h x (by simpa using hx)]
  case makeFunc fn first captured => cases fn <;> simp only [aop]; rw [list captured fun x hx => h x (by simp [hx])]
  case call c =>
    obtain ⟨callee, args, ts⟩ := c
    cases callee with
    | builtin b => simp only [aop]; rw [list args fun x hx => h x (by simp [Call.operands, hx])]
    | _ => rfl
  case slice ty x lo hi mx =>
    have e0 := h x (by simp)
    have e1 : lo.map (aev t) = lo.map (aev t') := by
      cases lo with
      | none => rfl
      | some y => exact congrArg some (h y (by simp))
    have e2 : hi.map (aev t) = hi.map (aev t') := by
      cases hi with
      | none => rfl
      | some y => exact congrArg some (h y (by simp))
    have e3 : mx.map (aev t) = mx.map (aev t') := by
      cases mx with
      | none => rfl
      | some y => exact congrArg some (h y (by simp))
    rw [e0, e1, e2, e3]
  case move x => rw [h x (by simp)]
  case assign x => rw [h x (by simp)]
  case box e x => rw [h x (by simp)]
  case load ty x => rw [h x (by simp)]
  case nilCheck x => rw [h x (by simp)]
  case unOp op ty x => rw [h x (by simp)]
  case convert s d x => rw [h x (by simp)]
  case fieldAddr s x f => rw [h x (by simp)]
  case field s x f => rw [h x (by simp)]
  case extract x i => rw [h x (by simp)]
  case pick c a b => rw [h c (by simp), h a (by simp), h b (by simp)]
  case store ty a x => rw [h a (by simp), h x (by simp)]
  case binOp op ty x y yt => rw [h x (by simp), h y (by simp)]
  case makeSlice ty a x => rw [h a (by simp), h x (by simp)]
  case indexAddr ty a x => rw [h a (by simp), h x (by simp)]
  case index ty a x => rw [h a (by simp), h x (by simp)]

/-- What an operation comes to, its result given. -/
def OpAt (P : Program) (T : Env) (σ : H) (o : Op) (r : V) (σ' : H) : Prop := match o with
  | .call { callee := .value f, args, .. } => ∃ g caps, aev T f = .fn g caps ∧ callable P g = true ∧ Run P g (args.toList.map (aev T) ++ caps) σ fun r' σ2 => r' = r ∧ σ2 = σ'
  | op => aop P T σ op = some (r, σ')

theorem opAt_oper {N : Nat} {o : Oper} {t : Env} {σ σ' : H} {r : V} {next : V → H → Prop} (h : OpAt P t σ o.op r σ') (hn : next r σ') : AOper P N o t σ next := by
  unfold OpAt at h
  split at h
  · rename_i f args ts hop
    obtain ⟨g, caps, hf, hc, hr⟩ := h
    exact oper_call hop hf hc (hr.mono fun r' σ2 ⟨h1, h2⟩ => by subst h1; subst h2; exact hn)
  · exact aop_sound h hn

theorem opAt_congr {T T' : Env} {σ σ' : H} {o : Op} {r : V} (h : ∀ x ∈ o.operands, aev T x = aev T' x) (ho : OpAt P T σ o r σ') : OpAt P T' σ o r σ' := by
  unfold OpAt at ho ⊢
  split
  · rename_i f args ts
    simp only at ho
    obtain ⟨g, caps, hf, hc, hr⟩ := ho
    refine ⟨g, caps, by rw [← h f (by simp [Op.operands, Call.operands]), hf], hc, ?_⟩
    have : args.toList.map (aev T') = args.toList.map (aev T) := List.map_congr_left fun x hx => (h x (by simp [Op.operands, Call.operands, Array.mem_toList_iff.1 hx])).symm
    rw [this]; exact hr
  · rename_i hno
    split at ho
    · exact absurd rfl (hno _ _ _)
    · rw [← aop_congr h]; exact ho

def tested (B : List Nat) (i j : Nat) : Bool := (B.getD i 0).testBit j

def befOk (ops : Array Oper) (B : List Nat) : Bool := (List.range ops.size).all fun i => (List.range ops.size).all fun j =>
  (tested B i j == ((ops[i]?).map fun o => o.after.any fun e => Region.binds .any e && (e.on == j || tested B e.on j)).getD false) && (!tested B i j || decide (j < i))

def looks (ops : Array Oper) (o : Oper) : List Tmp := Oper.looksAt ops o

/-- Every operation writes a slot of its own and looks at slots that have been written before it. -/
def ssaOk (N : Nat) (ops : Array Oper) (B : List Nat) (m : Nat) : Bool := (List.range m).all fun i => match ops[i]? with
  | some o => (match o.dst with | some d => decide (d < N) | none => true) &&
    (List.range m).all fun j => match (ops[j]?).bind (·.dst) with
      | some d => (i == j || o.dst != some d) && (!((looks ops o).contains d) || (tested B i j && decide (j < i)))
      | none => true
  | none => true

/-- The effects stand in one order; what reads memory stands before or behind each of them. -/
def effOk (ops : Array Oper) (B : List Nat) (m : Nat) (E : List Nat) : Bool := (List.range m).all fun i => match ops[i]? with
  | some o => pureOp o.op && !E.contains i || E.all fun e => e == i || (if e < i then tested B i e else tested B e i)
  | none => true

def edgesOk (ops : Array Oper) : Bool := (List.range ops.size).all fun i => match ops[i]? with
  | some o => o.after.all fun e => !Region.binds .any e || decide (e.on < i)
  | none => true

def ascends : List Nat → Bool
  | a :: b :: l => decide (a < b) && ascends (b :: l)
  | _ => true

/-- From m on each operation stands behind all that are before it in the text. -/
def tailOk (ops : Array Oper) (B : List Nat) (m : Nat) : Bool := (List.range ops.size).all fun i => decide (i < m) || (List.range i).all fun j => tested B i j

def drawOk (N : Nat) (ops : Array Oper) (B : List Nat) (m : Nat) (E : List Nat) : Bool :=
  befOk ops B && ssaOk N ops B m && effOk ops B m E && guardsOk N ops && edgesOk ops && tailOk ops B m && decide (m ≤ ops.size) && ascends E && E.all fun e => decide (e < m)

theorem ascends_lt : ∀ {E : List Nat}, ascends E = true → ∀ {i j : Nat} {a b : Nat}, E[i]? = some a → E[j]? = some b → i < j → a < b := by
  intro E
  induction E with
  | nil => intro _ i j a b h; simp at h
  | cons x E ih =>
    intro h i j a b hi hj hij
    have tail : ascends E = true := by
      cases E with
      | nil => rfl
      | cons y l => simp only [ascends, Bool.and_eq_true] at h; exact h.2
    cases j with
    | zero => omega
    | succ j =>
      simp at hj
      cases i with
      | succ i => simp at hi; exact ih tail hi hj (by omega)
      | zero =>
        simp at hi
        subst hi
        cases E with
        | nil => simp at hj
        | cons y l =>
          simp only [ascends, Bool.and_eq_true, decide_eq_true_eq] at h
          cases j with
          | zero => simp at hj; omega
          | succ j =>
            have := ih tail (i := 0) (j := j + 1) (a := y) (b := b) rfl (by simpa using hj) (by omega)
            omega

def dstIs (T : Env) (o : Oper) (r : V) : Prop := ∀ d, o.dst = some d → T d = r

/-- What each operation of a region comes to, whenever it comes up. -/
structure DrawFacts (P : Program) (ops : Array Oper) (m : Nat) (E : List Nat) (T : Env) (hs : Nat → H) : Prop where
  quiet : ∀ (q : Nat) o, q < m → ops[q]? = some o → q ∉ E → (wantedA ops T o = some false ∧ dstIs T o (.tup [])) ∨
    (wantedA ops T o = some true ∧ ∃ r, dstIs T o r ∧ ∀ k, (pureOp o.op = true ∨ ∀ (l : Nat) e, E[l]? = some e → (e < q ↔ l < k)) → k ≤ E.length → OpAt P T (hs k) o.op r (hs k))
  eff : ∀ (k e : Nat) o, E[k]? = some e → ops[e]? = some o → (wantedA ops T o = some false ∧ dstIs T o (.tup []) ∧ hs (k + 1) = hs k) ∨
    (wantedA ops T o = some true ∧ ∃ r, dstIs T o r ∧ OpAt P T (hs k) o.op r (hs (k + 1)))

theorem filter_drop {i : Nat} : ∀ {l : List Nat} {p : Nat → Bool}, l.Nodup → i ∈ l → p i = true → (l.filter p).length = (l.filter fun x => p x && x != i).length + 1
  | [], p, _, h, _ => by simp at h
  | x :: l, p, hn, h, hp => by
    rw [List.nodup_cons] at hn
    by_cases e : x = i
    · subst e
      have : l.filter p = l.filter fun y => p y && y != x := by
        apply List.filter_congr
        intro y hy
        have : y ≠ x := fun e => hn.1 (e ▸ hy)
        simp [this]
      simp [hp, this]
    · have hi : i ∈ l := by
        rcases List.mem_cons.1 h with h | h
        · exact absurd h.symm e
        · exact h
      have ih := filter_drop (p := p) hn.2 hi hp
      cases hx : p x
      · simp [hx]; simpa using ih
      · simp [hx, e]; simpa using ih

theorem wanted_of {N : Nat} {ops : Array Oper} {t : Env} {o : Oper} {b : Bool} (h : wantedA ops t o = some b) (hg : guardsOk N ops = true) (ho : o ∈ ops.toList) {F : Part} {ρ : Lay} {a : Act} (hs : Slots N F ρ t a) :
    Region.wanted o (yielded ops a.tmps) = b := by
  unfold wantedA at h
  unfold Region.wanted
  cases hgu : o.guard with
  | none => rw [hgu] at h; simpa using h
  | some jb =>
    obtain ⟨j, c⟩ := jb
    rw [hgu] at h
    simp only at h ⊢
    cases hj : ops[j]? with
    | none => rw [hj] at h; simp at h
    | some oj =>
      rw [hj] at h
      simp only at h
      cases hd : oj.dst with
      | none => rw [hd] at h; simp at h
      | some d =>
        rw [hd] at h
        simp only at h
        cases ht : t d with
        | bool x =>
          rw [ht] at h
          injection h with h
          rw [yielded_of hs hj hd (guardsOk_all hg o ho j c hgu oj hj d hd) ht, ← h]
          simp
        | tup cs =>
          rw [ht] at h
          cases cs with
          | nil =>
            injection h with h
            rw [yielded_undef hs hj hd (guardsOk_all hg o ho j c hgu oj hj d hd) ht, ← h]
            rfl
          | cons x cs => simp at h
        | _ => rw [ht] at h; simp at h

end Go.Proofs.Ytngbibpmaofamaa.Ab

/- The abstract calculus: regions that draw their order, the theorem. -/
-- AbF
namespace Go.Proofs.Ytngbibpmaofamaa.Ab
open Go

variable {P : Program}

open Classical in
/-- The environment where some operations are still to come. -/
noncomputable def maskT (ops : Array Oper) (m : Nat) (T : Env) (listed : Array Bool) : Env := fun i =>
  if ∃ (j : Nat) (o : Oper), j < m ∧ ops[j]? = some o ∧ listed.getD j true = false ∧ o.dst = some i then .junk else T i

theorem all_range {n : Nat} {p : Nat → Bool} (h : (List.range n).all p = true) {i : Nat} (hi : i < n) : p i = true := List.all_eq_true.1 h i (List.mem_range.2 hi)

theorem wpOps_mono {ops : Array Oper} : ∀ (l : List Nat) (a : Act) (w : World) (Q Q' : Exit → Act → World → Prop), (∀ e a w, Q e a w → Q' e a w) → wpOps P ops Q l a w → wpOps P ops Q' l a w := by
  intro l
  induction l with
  | nil => intro a w Q Q' hq h; exact hq _ _ _ h
  | cons i rest ih =>
    intro a w Q Q' hq h
    simp only [wpOps] at h ⊢
    cases ho : ops[i]? with
    | none => simp only [ho] at h ⊢; exact ih _ _ _ _ hq h
    | some o =>
      simp only [ho] at h ⊢
      split at h
      · rename_i hw
        rw [if_pos hw]
        rcases h with h | ⟨h, a₀, w₀, h'⟩
        · left
          unfold Oper.wp at h ⊢
          unfold Oper.upon at h ⊢
          split at h
          · exact ih _ _ _ _ hq h
          · exact ih _ _ _ _ hq h
          · exact ih _ _ _ _ hq h
          · refine h.mono fun e w' he => ?_
            cases e with
            | returned v => exact ih _ _ _ _ hq he
            | panicked ch => exact hq _ _ _ he
            | outgrown => obtain ⟨a, w, he⟩ := he; exact ⟨a, w, hq _ _ _ he⟩
          · exact h.mono fun v w' he => ih _ _ _ _ hq he
          · exact hq _ _ _ h
          · exact h.elim
        · exact .inr ⟨h, a₀, w₀, hq _ _ _ h'⟩
      · rename_i hw
        rw [if_neg hw]
        exact ih _ _ _ _ hq h

/-- The rest of a region, of which only one operation at a time may come up. -/
theorem tail_any {ops : Array Oper} {QQ : Exit → Act → World → Prop} {m : Nat} (next : ∀ (listed : Array Bool) p, p < ops.size → m ≤ p → (∀ j, j < ops.size → (listed.getD j true = true ↔ j < p)) → listed.size = ops.size → (p ∈ Region.ready .any ops listed ∧ ∀ i ∈ Region.ready .any ops listed, i = p)) :
    ∀ (d p : Nat) (listed : Array Bool) (a : Act) (w : World), m ≤ p → p + d = ops.size → listed.size = ops.size → (∀ j, j < ops.size → (listed.getD j true = true ↔ j < p)) → wpOps P ops QQ (List.range' p d) a w → wpAny P .any ops QQ d listed a w
  | 0, p, listed, a, w, hmp, hp, hsz, hl, h => by
    refine ⟨?_, by simpa [wpOps] using h⟩
    apply List.eq_nil_iff_forall_not_mem.2
    intro i hi
    obtain ⟨h0, o, ho, _⟩ := mem_ready.1 hi
    have hi2 : i < ops.size := (Array.getElem?_eq_some_iff.1 ho).1
    have := (hl i hi2).2 (by omega)
    rw [this] at h0; simp at h0
  | d + 1, p, listed, a, w, hmp, hp, hsz, hl, h => by
    have hpn : p < ops.size := by omega
    have hr : p ∈ Region.ready .any ops listed ∧ ∀ i ∈ Region.ready .any ops listed, i = p := next listed p hpn hmp hl hsz
    refine ⟨fun h0 => by have := hr.1; rw [h0] at this; simp at this, fun i hi => ?_⟩
    obtain rfl := hr.2 i hi
    rw [List.range'_succ, wpOps_cons] at h
    refine wpOp_mono (fun a' w' h' => tail_any next d (i + 1) (listed.setIfInBounds i true) a' w' (by omega) (by omega) (by simp [hsz]) ?_ h') h
    intro j hj
    by_cases e : j = i
    · subst e; simp [Array.getD, hsz, hj]
    · have hne : ¬ i = j := fun x => e x.symm
      have : (listed.setIfInBounds i true).getD j true = listed.getD j true := by simp [Array.getD_eq_getD_getElem?, Array.getElem?_setIfInBounds, hne]
      rw [this, hl j hj]
      omega

theorem draw_main {N : Nat} {ops : Array Oper} {B E : List Nat} {m : Nat} {T t0 : Env} {hs : Nat → H} {Q : Env → H → Prop} (hm : P.follows .mixedOrders = true) (hd : drawOk N ops B m E = true)
    (ht : ∀ i, (∀ (j : Nat) o, j < m → ops[j]? = some o → o.dst ≠ some i) → T i = t0 i) (facts : DrawFacts P ops m E T hs) (hq : AOps P N ops (List.range' m (ops.size - m)) T (hs E.length) Q) : ADraw P N ops t0 (hs 0) Q := by
  unfold drawOk at hd
  simp only [Bool.and_eq_true, decide_eq_true_eq] at hd
  obtain ⟨⟨⟨⟨⟨⟨⟨⟨hbef, hssa⟩, heff⟩, hguard⟩, hedge⟩, htail⟩, hmn⟩, hasc⟩, hEn⟩ := hd
  have bef : ∀ i j o, ops[i]? = some o → j < ops.size → (tested B i j = true ↔ ∃ e ∈ o.after, Region.binds .any e = true ∧ (e.on = j ∨ tested B e.on j = true)) ∧ (tested B i j = true → j < i) := by
    intro i j o ho hj
    have hi : i < ops.size := (Array.getElem?_eq_some_iff.1 ho).1
    have h1 := all_range (all_range hbef hi) hj
    simp only [ho, Option.map_some, Option.getD_some, beq_iff_eq, Bool.and_eq_true, Bool.or_eq_true, Bool.not_eq_true', decide_eq_true_eq] at h1
    refine ⟨?_, fun h => by rcases h1.2 with h2 | h2; (rw [h] at h2; simp at h2); exact h2⟩
    rw [h1.1, Array.any_eq_true']
    simp only [Bool.and_eq_true, Bool.or_eq_true, beq_iff_eq]
  have edge : ∀ i o, ops[i]? = some o → ∀ e ∈ o.after, Region.binds .any e = true → e.on < i := by
    intro i o ho e he hb
    have hi : i < ops.size := (Array.getElem?_eq_some_iff.1 ho).1
    have h1 := all_range hedge hi
    simp only [ho, Array.all_eq_true_iff_forall_mem] at h1
    have := h1 e he
    simpa [hb] using this
  have tail : ∀ i j, i < ops.size → m ≤ i → j < i → tested B i j = true := by
    intro i j hi hmi hji
    have h1 := all_range htail hi
    simp only [Bool.or_eq_true, decide_eq_true_eq] at h1
    rcases h1 with h | h
    · omega
    · exact all_range h hji
  have ssa : ∀ i o, i < m → ops[i]? = some o → (∀ d, o.dst = some d → d < N) ∧ ∀ j oj d, j < m → ops[j]? = some oj → oj.dst = some d → (i = j ∨ o.dst ≠ some d) ∧ (d ∈ looks ops o → tested B i j = true) := by
    intro i o hi ho
    have h1 := all_range hssa hi
    simp only [ho, Bool.and_eq_true] at h1
    refine ⟨fun d hd => by have := h1.1; rw [hd] at this; simpa using this, fun j oj d hjn hj hdj => ?_⟩
    have h2 := all_range h1.2 hjn
    simp only [hj, Option.bind_some, hdj, Bool.and_eq_true, Bool.or_eq_true, beq_iff_eq, bne_iff_ne, Bool.not_eq_true', decide_eq_true_eq] at h2
    refine ⟨h2.1, fun hm => ?_⟩
    rcases h2.2 with h | h
    · have : (looks ops o).contains d = true := by simpa using hm
      rw [this] at h; simp at h
    · exact h.1
  have eff : ∀ i o, i < m → ops[i]? = some o → (pureOp o.op = true ∧ i ∉ E) ∨ ∀ e ∈ E, e = i ∨ (e < i ∧ tested B i e = true) ∨ (i < e ∧ tested B e i = true) := by
    intro i o hi ho
    have h1 := all_range heff hi
    simp only [ho, Bool.or_eq_true, Bool.and_eq_true, Bool.not_eq_true', List.all_eq_true] at h1
    rcases h1 with h | h
    · refine .inl ⟨h.1, fun hm => ?_⟩
      have : E.contains i = true := by simpa using hm
      rw [this] at h; simp at h
    · refine .inr fun e he => ?_
      have := h e he
      simp only [beq_iff_eq] at this
      rcases this with h | h
      · exact .inl h
      · by_cases hlt : e < i
        · rw [if_pos hlt] at h; exact .inr (.inl ⟨hlt, h⟩)
        · rw [if_neg hlt] at h
          by_cases he2 : e = i
          · exact .inl he2
          · exact .inr (.inr ⟨by omega, h⟩)
  have hEm : ∀ e ∈ E, e < m := fun e he => by have := List.all_eq_true.1 hEn e he; simpa using this
  -- whoever is the first that is not listed is ready
  have first : ∀ (listed : Array Bool), listed.size = ops.size → ∀ p, p < ops.size → listed.getD p true = false → (∀ j, j < p → listed.getD j true = true) → p ∈ Region.ready .any ops listed := by
    intro listed hsz p hp hpl hall
    have ho : ops[p]? = some ops[p] := Array.getElem?_eq_getElem hp
    refine mem_ready.2 ⟨hpl, ops[p], ho, fun e he hb => ?_⟩
    have hlt := edge p _ ho e he hb
    have := hall e.on hlt
    have hsz2 : e.on < listed.size := by omega
    simpa [Array.getD, hsz2] using this
  have next : ∀ (listed : Array Bool) p, p < ops.size → m ≤ p → (∀ j, j < ops.size → (listed.getD j true = true ↔ j < p)) → listed.size = ops.size → p ∈ Region.ready .any ops listed ∧ ∀ i ∈ Region.ready .any ops listed, i = p := by
    intro listed p hp hmp hl hsz
    refine ⟨first listed hsz p hp (by cases h : listed.getD p true with | false => rfl | true => have := (hl p hp).1 h; omega) (fun j hj => (hl j (by omega)).2 hj), fun i hi => ?_⟩
    obtain ⟨h0, o, ho, hpre⟩ := mem_ready.1 hi
    have hin : i < ops.size := (Array.getElem?_eq_some_iff.1 ho).1
    have hip : ¬ i < p := fun h => by have := (hl i hin).2 h; rw [this] at h0; simp at h0
    rcases Nat.lt_or_ge p i with h | h
    · exfalso
      have ht := tail i p hin (by omega) h
      obtain ⟨e, he, hb, hor⟩ := (bef i p o ho hp).1.1 ht
      have hen : e.on < ops.size := by have := edge i o ho e he hb; omega
      have hel := hpre e he hb
      have hel' : listed.getD e.on true = true := by
        have hsz2 : e.on < listed.size := by omega
        simpa [Array.getD, hsz2] using hel
      have hep := (hl e.on hen).1 hel'
      rcases hor with h' | h'
      · omega
      · have := (bef e.on p ops[e.on] (Array.getElem?_eq_getElem hen) hp).2 h'
        omega
    · omega
  -- the run over whatever order
  intro k W ρ F G a w hr hsl
  have main : ∀ (cnt : Nat) (listed : Array Bool) (n : Nat) (ρ' : Lay) (F' : Part) (a : Act) (w : World), listed.size = ops.size → ρ.le ρ' → F.le F' → n ≤ E.length →
      (∀ (l : Nat) e, E[l]? = some e → (listed.getD e true = true ↔ l < n)) → (∀ i j, i < ops.size → j < ops.size → listed.getD i true = true → tested B i j = true → listed.getD j true = true) →
      (∀ i, i < ops.size → m ≤ i → listed.getD i true = false) →
      ((List.range m).filter fun i => !listed.getD i true).length = cnt → Rel P W (hs n) ρ' F' G w → Slots N F' ρ' (maskT ops m T listed) a →
      wpAny P .any ops (Lift P W N ρ F G fun e t σ => e = .normal ∧ Q t σ) (cnt + (ops.size - m)) listed a w := by
    intro cnt
    induction cnt with
    | zero =>
      intro listed n ρ' F' a w hsz h1 h2 hn hE hcl hun hcnt hrel hslots
      have hall : ∀ i, i < m → listed.getD i true = true := by
        intro i hi
        cases hl : listed.getD i true with
        | true => rfl
        | false =>
          rw [List.length_eq_zero_iff] at hcnt
          have : i ∈ (List.range m).filter fun i => !listed.getD i true := List.mem_filter.2 ⟨List.mem_range.2 hi, by simp [hl]⟩
          rw [hcnt] at this; simp at this
      have hmask : maskT ops m T listed = T := by
        funext i
        unfold maskT
        rw [if_neg]
        rintro ⟨j, o, hj, ho, hl, _⟩
        rw [hall j hj] at hl
        simp at hl
      have hn' : n = E.length := by
        rcases Nat.lt_or_ge n E.length with h | h
        · have he : E[n]? = some E[n] := List.getElem?_eq_getElem h
          have := (hE n _ he).1 (hall _ (hEm _ (List.getElem_mem h)))
          omega
        · omega
      subst hn'
      rw [hmask] at hslots
      rw [Nat.zero_add]
      refine tail_any (m := m) next (ops.size - m) m listed a w (Nat.le_refl _) (by omega) hsz ?_ ?_
      · intro j hj
        by_cases hjm : j < m
        · exact ⟨fun _ => hjm, fun _ => hall j hjm⟩
        · have := hun j hj (by omega)
          exact ⟨fun h => (by rw [this] at h; simp at h), fun h => absurd h hjm⟩
      · have := hq W ρ' F' G a w hrel hslots
        exact wpOps_mono _ a w _ _ (fun e a w l => l.mono h1 h2 fun _ _ _ x => x) this
    | succ cnt ih =>
      intro listed n ρ' F' a w hsz h1 h2 hn hE hcl hun hcnt hrel hslots
      -- one of the first ones is not listed
      obtain ⟨z, hz, hzl⟩ : ∃ z, z < m ∧ listed.getD z true = false := by
        cases hf : (List.range m).filter fun i => !listed.getD i true with
        | nil => rw [hf] at hcnt; simp at hcnt
        | cons z l =>
          have : z ∈ (List.range m).filter fun i => !listed.getD i true := by rw [hf]; simp
          have := List.mem_filter.1 this
          exact ⟨z, List.mem_range.1 this.1, by simpa using this.2⟩
      rw [show cnt + 1 + (ops.size - m) = (cnt + (ops.size - m)) + 1 by omega]
      refine ⟨fun hready => ?_, fun i hi => ?_⟩
      · exfalso
        have : ∀ p, p ≤ z → listed.getD p true = true := by
          intro p
          induction p using Nat.strongRecOn with
          | _ p ihp =>
            intro hp
            cases hl : listed.getD p true with
            | true => rfl
            | false =>
              have := first listed hsz p (by omega) hl fun j hj => ihp j hj (by omega)
              rw [hready] at this; simp at this
        rw [this z (Nat.le_refl _)] at hzl; simp at hzl
      obtain ⟨hl, o, ho, hpre⟩ := mem_ready.1 hi
      have hin : i < ops.size := (Array.getElem?_eq_some_iff.1 ho).1
      have hmem : o ∈ ops.toList := Array.mem_toList_iff.2 (Array.mem_of_getElem? ho)
      have gd : ∀ (j : Nat) (b c : Bool), j < ops.size → listed.getD j b = listed.getD j c := by intro j b c hj; simp [Array.getD, hsz, hj]
      have pre : ∀ j, j < ops.size → tested B i j = true → listed.getD j true = true := by
        intro j hj htest
        obtain ⟨e, he, hb, hor⟩ := (bef i j o ho hj).1.1 htest
        have hen : e.on < ops.size := by have := edge i o ho e he hb; omega
        have hel : listed.getD e.on true = true := by rw [gd _ true false hen]; exact hpre e he hb
        rcases hor with h | h
        · rw [← h]; exact hel
        · exact hcl e.on j hen hj hel h
      have him : i < m := by
        rcases Nat.lt_or_ge i m with h | h
        · exact h
        · have := pre z (by omega) (tail i z hin h (by omega)); rw [this] at hzl; simp at hzl
      have hget : ∀ j, (listed.setIfInBounds i true).getD j true = if j = i then true else listed.getD j true := by
        intro j
        by_cases e : j = i
        · subst e; simp [Array.getD, hsz, hin]
        · rw [if_neg e]
          have hne : ¬ i = j := fun x => e x.symm
          simp [Array.getD_eq_getD_getElem?, Array.getElem?_setIfInBounds, hne]
      have heval : ∀ x ∈ o.op.operands, aev (maskT ops m T listed) x = aev T x := by
        intro x hx
        cases x with
        | tmp d =>
          show maskT ops m T listed d = T d
          unfold maskT
          rw [if_neg]
          rintro ⟨j, oj, hjm, hj, hjl, hjd⟩
          have hjn : j < ops.size := (Array.getElem?_eq_some_iff.1 hj).1
          have hlook : d ∈ looks ops o := List.mem_append_left _ (List.mem_filterMap.2 ⟨.tmp d, by simpa using hx, rfl⟩)
          have := pre j hjn (((ssa i o him ho).2 j oj d hjm hj hjd).2 hlook)
          rw [this] at hjl; simp at hjl
        | _ => rfl
      have hwant : wantedA ops (maskT ops m T listed) o = wantedA ops T o := by
        unfold wantedA
        cases hg : o.guard with
        | none => rfl
        | some jb =>
          obtain ⟨j, b⟩ := jb
          simp only
          cases hj : ops[j]? with
          | none => rfl
          | some oj =>
            simp only
            cases hjd : oj.dst with
            | none => rfl
            | some d =>
              have : maskT ops m T listed d = T d := by
                unfold maskT
                rw [if_neg]
                rintro ⟨j', oj', hjm', hj', hjl, hjd'⟩
                have hjn : j' < ops.size := (Array.getElem?_eq_some_iff.1 hj').1
                have hlook : d ∈ looks ops o := List.mem_append_right _ (by simp [hg, hj, hjd])
                have := pre j' hjn (((ssa i o him ho).2 j' oj' d hjm' hj' hjd').2 hlook)
                rw [this] at hjl; simp at hjl
              simp only [this]
      have hcnt' : ((List.range m).filter fun j => !(listed.setIfInBounds i true).getD j true).length = cnt := by
        have h := filter_drop (p := fun j => !listed.getD j true) List.nodup_range (List.mem_range.2 him) (by simp [hl])
        rw [hcnt] at h
        have e : ((List.range m).filter fun j => !(listed.setIfInBounds i true).getD j true) = ((List.range m).filter fun x => (!listed.getD x true) && x != i) := by
          apply List.filter_congr
          intro j _
          rw [hget]
          by_cases e : j = i
          · simp [e]
          · simp [e]
        rw [e]
        omega
      have hcl' : ∀ p q, p < ops.size → q < ops.size → (listed.setIfInBounds i true).getD p true = true → tested B p q = true → (listed.setIfInBounds i true).getD q true = true := by
        intro p q hp hq' hpl htest
        rw [hget] at hpl ⊢
        split
        · rfl
        · by_cases e : p = i
          · subst e; exact pre q hq' htest
          · rw [if_neg e] at hpl; exact hcl p q hp hq' hpl htest
      have hun' : ∀ q, q < ops.size → m ≤ q → (listed.setIfInBounds i true).getD q true = false := by
        intro q hq' hmq
        rw [hget, if_neg (by omega)]; exact hun q hq' hmq
      -- the slots behind the operation
      have hslots' : ∀ {F2 : Part} {ρ2 : Lay} {r : V} {v : Value}, F'.le F2 → ρ'.le ρ2 → dstIs T o r → VR F2 ρ2 r v → Slots N F2 ρ2 (maskT ops m T (listed.setIfInBounds i true)) (a.put o.dst v) := by
        intro F2 ρ2 r v hF2 hρ2 hdst hv
        have base := (hslots.mono hF2 hρ2).putd (d := o.dst) (fun d hd => (ssa i o him ho).1 d hd) hv
        refine ⟨base.defers, base.size, fun x => ?_⟩
        have hb := base.slot x
        by_cases hx : o.dst = some x
        · rw [hx] at hb
          simp only [putd_some, upd_same] at hb
          unfold maskT
          split
          · exact .junk
          · rw [hdst x hx]; rw [hx]; exact hb
        · have e : putd (maskT ops m T listed) o.dst r x = maskT ops m T listed x := by
            cases hd : o.dst with
            | none => rfl
            | some d => exact upd_ne _ _ (fun e => hx (by rw [hd, e]))
          rw [e] at hb
          unfold maskT at hb ⊢
          split
          · exact .junk
          · rename_i hno
            rw [if_neg] at hb
            · exact hb
            · rintro ⟨j, oj, hjm, hj, hjl, hjd⟩
              apply hno
              refine ⟨j, oj, hjm, hj, ?_, hjd⟩
              rw [hget, if_neg]
              · exact hjl
              · intro e; subst e; rw [hj] at ho; injection ho with ho; subst ho; exact hx hjd
      -- the step
      have step : ∀ n', n' ≤ E.length → (∀ (l : Nat) e, E[l]? = some e → ((listed.setIfInBounds i true).getD e true = true ↔ l < n')) →
          ((wantedA ops T o = some false ∧ dstIs T o (.tup []) ∧ hs n' = hs n) ∨ (wantedA ops T o = some true ∧ ∃ r, dstIs T o r ∧ OpAt P T (hs n) o.op r (hs n'))) →
          wpOp P ops (Lift P W N ρ F G fun e t σ => e = .normal ∧ Q t σ) i (wpAny P .any ops (Lift P W N ρ F G fun e t σ => e = .normal ∧ Q t σ) (cnt + (ops.size - m)) (listed.setIfInBounds i true)) a w := by
        intro n' hn' hE' hf
        unfold wpOp
        simp only [ho]
        rcases hf with ⟨hw, hdst, hheap⟩ | ⟨hw, r, hdst, hop⟩
        · rw [wanted_of (by rw [hwant]; exact hw) hguard hmem hslots]
          simp only [Bool.false_eq_true, if_false]
          exact ih _ n' ρ' F' _ w (by simp [hsz]) h1 h2 hn' hE' hcl' hun' hcnt' (by rw [hheap]; exact hrel) (hslots' (Part.le_refl _) (Lay.le_refl _) hdst undefVR)
        · rw [wanted_of (by rw [hwant]; exact hw) hguard hmem hslots]
          simp only [if_true]
          left
          have hop' := opAt_congr (fun x hx => (heval x hx).symm) hop
          refine opAt_oper (N := N) hop' (next := fun r' σ' => r' = r ∧ σ' = hs n') ⟨rfl, rfl⟩ W ρ' F' G a w hrel hslots _ _ ?_
          rintro r' σ' ρ2 F2 v w' ⟨rfl, rfl⟩ g1 g2 g3 g4
          exact ih _ n' ρ2 F2 _ w' (by simp [hsz]) (Lay.le_trans h1 g1) (Part.le_trans h2 g2) hn' hE' hcl' hun' hcnt' g3 (hslots' g2 g1 hdst g4)
      by_cases hiE : i ∈ E
      · obtain ⟨l, hlE⟩ := List.getElem?_of_mem hiE
        have hll : l < E.length := lt_of_get hlE
        -- it is the next effect
        have hln : l = n := by
          have h3 : ¬ l < n := fun h => by have := (hE l i hlE).2 h; rw [this] at hl; simp at hl
          rcases Nat.lt_or_ge n l with h | h
          · exfalso
            have hen : E[n]? = some (E[n]'(by omega)) := List.getElem?_eq_getElem _
            have hlt := ascends_lt hasc hen hlE h
            have hbn : E[n]'(by omega) < ops.size := by have := hEm _ (List.getElem_mem (by omega : n < E.length)); omega
            rcases eff i o him ho with ⟨_, hno⟩ | hor
            · exact hno hiE
            · rcases hor _ (List.getElem_mem (by omega : n < E.length)) with h | ⟨_, h⟩ | ⟨h, _⟩
              · omega
              · have := (hE n _ hen).1 (pre _ hbn h); omega
              · omega
          · omega
        subst hln
        refine step (l + 1) (by omega) ?_ ?_
        · intro l' e he
          rw [hget]
          by_cases e1 : e = i
          · subst e1
            have : l' = l := by
              rcases Nat.lt_trichotomy l' l with h | h | h
              · have := ascends_lt hasc he hlE h; omega
              · exact h
              · have := ascends_lt hasc hlE he h; omega
            simp [this]
          · rw [if_neg e1, hE l' e he]
            have : l' ≠ l := by intro h; subst h; rw [hlE] at he; injection he with he; exact e1 he.symm
            omega
        · rcases facts.eff l i o hlE ho with ⟨x1, x2, x3⟩ | ⟨x1, r, x2, x3⟩
          · exact .inl ⟨x1, x2, x3⟩
          · exact .inr ⟨x1, r, x2, x3⟩
      · refine step n hn ?_ ?_
        · intro l' e he
          rw [hget, if_neg (by intro h; subst h; exact hiE (mem_of_get he)), hE l' e he]
        · rcases facts.quiet i o him ho hiE with ⟨x1, x2⟩ | ⟨x1, r, x2, x3⟩
          · exact .inl ⟨x1, x2, rfl⟩
          · refine .inr ⟨x1, r, x2, x3 n ?_ hn⟩
            rcases eff i o him ho with ⟨hp, _⟩ | hor
            · exact .inl hp
            · refine .inr fun l e he => ?_
              have hen : e < ops.size := by have := hEm _ (mem_of_get he); omega
              rw [← hE l e he]
              constructor
              · intro hlt
                rcases hor e (mem_of_get he) with h | ⟨_, h⟩ | ⟨h, _⟩
                · omega
                · exact pre e hen h
                · omega
              · intro hel
                rcases hor e (mem_of_get he) with h | ⟨h, _⟩ | ⟨_, h⟩
                · subst h; rw [hel] at hl; simp at hl
                · exact h
                · have := hcl e i hen hin hel h
                  rw [this] at hl; simp at hl
  have hsch : Region.schedule (P.follows .mixedOrders) ops k = Region.linearise.go .any ops ops.size k (Array.replicate ops.size false) [] := by
    simp only [Region.schedule, hm, Bool.true_or, if_true]
    rfl
  rw [hsch]
  refine wpAny_sound ops.size k _ a w ?_
  have hfuel : ops.size = m + (ops.size - m) := by omega
  have := main m (Array.replicate ops.size false) 0 ρ F a w (by simp) (Lay.le_refl _) (Part.le_refl _) (Nat.zero_le _) ?_ ?_ ?_ ?_ hr ?_
  · rw [← hfuel] at this; exact this
  · intro l e he
    have hen : e < ops.size := by have := hEm _ (mem_of_get he); omega
    simp [Array.getD, hen]
  · intro i j hi hj h; simp [Array.getD, hi] at h
  · intro i hi _; simp [Array.getD, hi]
  · have : ((List.range m).filter fun i => !(Array.replicate ops.size false).getD i true) = List.range m := by
      apply List.filter_eq_self.2
      intro i hi
      have hi : i < ops.size := by have := List.mem_range.1 hi; omega
      simp [Array.getD, hi]
    rw [this]; simp
  · refine ⟨hsl.defers, hsl.size, fun i => ?_⟩
    unfold maskT
    split
    · exact .junk
    · rename_i hno
      rw [ht i]
      · exact hsl.slot i
      · intro j o hjm hj hdo
        apply hno
        have hjn : j < ops.size := (Array.getElem?_eq_some_iff.1 hj).1
        exact ⟨j, o, hjm, hj, by simp [Array.getD, hjn], hdo⟩

end Go.Proofs.Ytngbibpmaofamaa.Ab

/- The abstract calculus: a region that draws its order, as a formula that computes. -/
-- AbG
namespace Go.Proofs.Ytngbibpmaofamaa.Ab
open Go

variable {P : Program}

def isLoad : Op → Bool
  | .load .. => true
  | .call { callee := .builtin .len, .. } => true
  | _ => false

theorem aop_load {t : Env} {σ σ' : H} {o : Op} {v : V} (hp : isLoad o = true) (h : aop P t σ o = some (v, σ')) : σ' = σ := by
  unfold aop at h
  split at h <;> simp only [isLoad, Bool.false_eq_true] at hp
  all_goals first
    | exact (with_some h).2.symm
    | (simp at h; done)
    | skip
  · rename_i b args ts
    cases b <;> simp only [isLoad, Bool.false_eq_true] at hp
    unfold abuiltin at h
    cases ha : args.toList.map (aev t) with
    | nil => rw [ha] at h; simp at h
    | cons x ys =>
      cases ys with
      | nil =>
        rw [ha] at h
        simp only at h
        split at h
        · rename_i t' _
          cases hl : alen P σ t' x with
          | none => rw [hl] at h; simp at h
          | some y => rw [hl] at h; simp at h; exact h.2.symm
        · simp at h
      | cons y ys => rw [ha] at h; simp at h

theorem load_not_pure {o : Op} (h : isLoad o = true) : pureOp o = false := by
  cases o with
  | load t a => rfl
  | call c =>
    obtain ⟨callee, args, ts⟩ := c
    cases callee with
    | builtin b => cases b <;> simp_all [isLoad, pureOp]
    | _ => simp [isLoad] at h
  | _ => simp [isLoad] at h

/-- Each operation is an effect that is named, or computes, or reads. -/
def kindsOk (ops : Array Oper) (m : Nat) (E : List Nat) : Bool := (List.range m).all fun i => match ops[i]? with
  | some o => E.contains i || pureOp o.op || isLoad o.op
  | none => true

/-- A call that neither sees nor turns the own heap, its result named. -/
def pcallK (P : Program) (f : V) (args : List V) (k : V → Prop) : Prop := match f with
  | .fn g caps => callable P g = true ∧ ∃ r, PRun P g (args ++ caps) (fun r' => r' = r) ∧ (∀ x ∈ args ++ caps, x.Pure) ∧ k r
  | _ => False
@[simp] theorem pcallK_fn (g : FuncId) (caps args : List V) (k : V → Prop) : pcallK P (.fn g caps) args k = (callable P g = true ∧ ∃ r, PRun P g (args ++ caps) (fun r' => r' = r) ∧ (∀ x ∈ args ++ caps, x.Pure) ∧ k r) := (rfl)

/-- A call that turns the own heap, result and heap named. -/
def ecallK (P : Program) (f : V) (args : List V) (σ : H) (k : V → H → Prop) : Prop := match f with
  | .fn g caps => callable P g = true ∧ ∃ r σ', Run P g (args ++ caps) σ (fun r' σ2 => r' = r ∧ σ2 = σ') ∧ k r σ'
  | _ => False
@[simp] theorem ecallK_fn (g : FuncId) (caps args : List V) (σ : H) (k : V → H → Prop) : ecallK P (.fn g caps) args σ k = (callable P g = true ∧ ∃ r σ', Run P g (args ++ caps) σ (fun r' σ2 => r' = r ∧ σ2 = σ') ∧ k r σ') := (rfl)

def drawK (f : Step) (t : Env) (d : Option Tmp) (σ : H) (Q : Env → H → Prop) : V → Prop := fun r => f (putd t d r) σ Q
@[simp] theorem drawK_app (f : Step) (t : Env) (d : Option Tmp) (σ : H) (Q : Env → H → Prop) (r : V) : drawK f t d σ Q r = f (putd t d r) σ Q := (rfl)

def runQ (P : Program) (e : Bool) (op : Op) (d : Option Tmp) (f : Step) : Step := fun t σ Q => match op with
  | .call { callee := .value g, args, .. } => if e = true then ecallK P (aev t g) (args.toList.map (aev t)) σ (callK f t d Q) else pcallK P (aev t g) (args.toList.map (aev t)) (drawK f t d σ Q)
  | op => bindO (aop P t σ op) (callK f t d Q)

@[simp] theorem runQ_call_e (d : Option Tmp) (f : Step) (t : Env) (σ : H) (Q : Env → H → Prop) (g : Operand) (args : Array Operand) (ts : Array TypeId) :
    runQ P true (.call { callee := .value g, args := args, argTypes := ts }) d f t σ Q = ecallK P (aev t g) (args.toList.map (aev t)) σ (callK f t d Q) := (rfl)
@[simp] theorem runQ_call (d : Option Tmp) (f : Step) (t : Env) (σ : H) (Q : Env → H → Prop) (g : Operand) (args : Array Operand) (ts : Array TypeId) :
    runQ P false (.call { callee := .value g, args := args, argTypes := ts }) d f t σ Q = pcallK P (aev t g) (args.toList.map (aev t)) (drawK f t d σ Q) := (rfl)

def AQ (P : Program) (ops : Array Oper) (E : List Nat) : Nat → List Oper → Step
  | _, [], t, σ, Q => Q t σ
  | i, o :: os, t, σ, Q => wantK (wantedA ops t o) (runQ P (E.contains i) o.op o.dst (AQ P ops E (i + 1) os)) (skipOp o.dst (AQ P ops E (i + 1) os)) t σ Q

@[simp] theorem AQ_nil (ops : Array Oper) (E : List Nat) (i : Nat) (t : Env) (σ : H) (Q : Env → H → Prop) : AQ P ops E i [] t σ Q = Q t σ := (rfl)
@[simp] theorem AQ_cons (ops : Array Oper) (E : List Nat) (i : Nat) (o : Oper) (os : List Oper) (t : Env) (σ : H) (Q : Env → H → Prop) : AQ P ops E i (o :: os) t σ Q =
    wantK (wantedA ops t o) (runQ P (E.contains i) o.op o.dst (AQ P ops E (i + 1) os)) (skipOp o.dst (AQ P ops E (i + 1) os)) t σ Q := (rfl)

/-- The facts that a formula gives of the operations from one on. -/
def Concl (P : Program) (ops : Array Oper) (m : Nat) (E : List Nat) (os : List Oper) (i : Nat) (t : Env) (σ : H) (k0 : Nat) (Q : Env → H → Prop) : Prop :=
    ∃ (T : Env) (hs : Nat → H), (∀ x, (∀ o ∈ os, o.dst ≠ some x) → T x = t x) ∧ hs k0 = σ ∧ Q T (hs E.length) ∧
      (∀ (q : Nat) o, i ≤ q → q < m → ops[q]? = some o → q ∉ E → (wantedA ops T o = some false ∧ dstIs T o (.tup [])) ∨
        (wantedA ops T o = some true ∧ ∃ r, dstIs T o r ∧ ((pureOp o.op = true ∧ ∀ τ, OpAt P T τ o.op r τ) ∨ (pureOp o.op = false ∧ ∀ k, (∀ (l : Nat) e, E[l]? = some e → (e < q ↔ l < k)) → k ≤ E.length → OpAt P T (hs k) o.op r (hs k))))) ∧
      (∀ (k e : Nat) o, i ≤ e → E[k]? = some e → ops[e]? = some o → (wantedA ops T o = some false ∧ dstIs T o (.tup []) ∧ hs (k + 1) = hs k) ∨
        (wantedA ops T o = some true ∧ ∃ r, dstIs T o r ∧ OpAt P T (hs k) o.op r (hs (k + 1))))

theorem aq_facts {N : Nat} {ops : Array Oper} {B E : List Nat} {m : Nat} {Q : Env → H → Prop} (hd : drawOk N ops B m E = true) (hk : kindsOk ops m E = true) :
    ∀ (os : List Oper) (i : Nat) (t : Env) (σ : H) (k0 : Nat), os = (ops.toList.take m).drop i → (∀ (l : Nat) e, E[l]? = some e → (e < i ↔ l < k0)) → k0 ≤ E.length → AQ P ops E i os t σ Q →
    Concl P ops m E os i t σ k0 Q := by
  unfold drawOk at hd
  simp only [Bool.and_eq_true, decide_eq_true_eq] at hd
  obtain ⟨⟨⟨⟨⟨⟨⟨⟨_, hssa⟩, _⟩, hguard⟩, _⟩, _⟩, hmn⟩, hasc⟩, hEn⟩ := hd
  intro os
  induction os with
  | nil =>
    intro i t σ k0 hos hE hk0 h
    have hlen : m ≤ i := by
      have := congrArg List.length hos
      simp at this
      omega
    have hk0' : k0 = E.length := by
      rcases Nat.lt_or_ge k0 E.length with h | h
      · have he : E[k0]? = some E[k0] := List.getElem?_eq_getElem h
        have : E[k0] < m := by have := List.all_eq_true.1 hEn _ (List.getElem_mem h); simpa using this
        have := (hE k0 _ he).1 (by omega)
        omega
      · omega
    refine ⟨t, fun _ => σ, fun _ _ => rfl, rfl, h, ?_, ?_⟩
    · intro q o hq hqm ho; omega
    · intro k e o hq he ho
      have : e < m := by have := List.all_eq_true.1 hEn _ (mem_of_get he); simpa using this
      omega
  | cons o os ih =>
    intro i t σ k0 hos hE hk0 h
    have at_ : ∀ k o', ((ops.toList.take m).drop k)[0]? = some o' → k < m ∧ ops[k]? = some o' := by
      intro k o' h
      rw [List.getElem?_drop, List.getElem?_take] at h
      split at h
      · exact ⟨by omega, by simpa using h⟩
      · simp at h
    obtain ⟨hin, ho⟩ := at_ i o (by rw [← hos]; rfl)
    have hos' : os = (ops.toList.take m).drop (i + 1) := by
      have := congrArg List.tail hos
      simp only [List.tail_cons, List.tail_drop] at this
      exact this
    have ssa : ∀ j oj d, j < m → ops[j]? = some oj → oj.dst = some d → (i = j ∨ o.dst ≠ some d) ∧ (d ∈ looks ops o → j < i) := by
      have h1 := all_range hssa hin
      simp only [ho, Bool.and_eq_true] at h1
      intro j oj d hjn hj hdj
      have h2 := all_range h1.2 hjn
      simp only [hj, Option.bind_some, hdj, Bool.and_eq_true, Bool.or_eq_true, beq_iff_eq, bne_iff_ne, Bool.not_eq_true', decide_eq_true_eq] at h2
      refine ⟨h2.1, fun hm => ?_⟩
      rcases h2.2 with h | h
      · have : (looks ops o).contains d = true := by simpa using hm
        rw [this] at h; simp at h
      · exact h.2
    have later : ∀ d, d ∈ looks ops o → ∀ o' ∈ o :: os, o'.dst ≠ some d := by
      intro d hd o' ho' hd'
      rw [hos] at ho'
      obtain ⟨n, hn⟩ := List.getElem?_of_mem ho'
      obtain ⟨hl, hm'⟩ := at_ (i + n) o' (by rw [List.getElem?_drop] at hn ⊢; exact hn)
      have := (ssa (i + n) o' d hl hm' hd').2 hd
      omega
    have own : ∀ d, o.dst = some d → ∀ o' ∈ os, o'.dst ≠ some d := by
      intro d hd o' ho' hd'
      rw [hos'] at ho'
      obtain ⟨n, hn⟩ := List.getElem?_of_mem ho'
      obtain ⟨hl, hm'⟩ := at_ (i + 1 + n) o' (by rw [List.getElem?_drop] at hn ⊢; exact hn)
      rcases (ssa (i + 1 + n) o' d hl hm' hd').1 with h | h
      · omega
      · exact h hd
    -- whatever T agrees with t but for what is to come: the operation looks alike
    have alike : ∀ T : Env, (∀ x, (∀ o' ∈ o :: os, o'.dst ≠ some x) → T x = t x) → (∀ x ∈ o.op.operands, aev t x = aev T x) ∧ wantedA ops t o = wantedA ops T o := by
      intro T hT
      constructor
      · intro x hx
        cases x with
        | tmp d => exact (hT d (later d (List.mem_append_left _ (List.mem_filterMap.2 ⟨.tmp d, by simpa using hx, rfl⟩)))).symm
        | _ => rfl
      · unfold wantedA
        cases hg : o.guard with
        | none => rfl
        | some jb =>
          obtain ⟨j, b⟩ := jb
          simp only
          cases hj : ops[j]? with
          | none => rfl
          | some oj =>
            simp only
            cases hjd : oj.dst with
            | none => rfl
            | some d => simp only [hT d (later d (List.mem_append_right _ (by simp [hg, hj, hjd])))]
    have agree : ∀ (T : Env) (r : V), (∀ x, (∀ o' ∈ os, o'.dst ≠ some x) → T x = putd t o.dst r x) → (∀ x, (∀ o' ∈ o :: os, o'.dst ≠ some x) → T x = t x) ∧ dstIs T o r := by
      intro T r hT
      constructor
      · intro x hx
        rw [hT x fun o' ho' => hx o' (List.mem_cons_of_mem _ ho')]
        cases hd : o.dst with
        | none => rfl
        | some d => exact upd_ne _ _ (fun e => hx o (List.mem_cons_self ..) (by rw [hd, e]))
      · intro d hd
        rw [hT d (own d hd), hd]
        exact upd_same _ _ _
    have uniq : ∀ k, (∀ (l : Nat) e, E[l]? = some e → (e < i ↔ l < k)) → k ≤ E.length → k = k0 := by
      intro k hk' hkl
      rcases Nat.lt_trichotomy k k0 with h | h | h
      · have he : E[k]? = some (E[k]'(by omega)) := List.getElem?_eq_getElem _
        have h1 := (hE k _ he).2 h
        have h2 := (hk' k _ he).1 h1
        omega
      · exact h
      · have he : E[k0]? = some (E[k0]'(by omega)) := List.getElem?_eq_getElem _
        have h1 := (hk' k0 _ he).2 h
        have h2 := (hE k0 _ he).1 h1
        omega
    simp only [AQ] at h
    by_cases hiE : i ∈ E
    · obtain ⟨l, hlE⟩ := List.getElem?_of_mem hiE
      have hll := lt_of_get hlE
      have hlk : l = k0 := by
        have h3 : ¬ l < k0 := fun h => by have := (hE l i hlE).2 h; omega
        rcases Nat.lt_or_ge k0 l with h | h
        · exfalso
          have he : E[k0]? = some (E[k0]'(by omega)) := List.getElem?_eq_getElem _
          have := (hE k0 _ he).1 (ascends_lt hasc he hlE h)
          omega
        · omega
      subst hlk
      have hE' : ∀ (l' : Nat) e, E[l']? = some e → (e < i + 1 ↔ l' < l + 1) := by
        intro l' e he
        have h1 := hE l' e he
        by_cases e1 : e = i
        · subst e1
          have : l' = l := by
            rcases Nat.lt_trichotomy l' l with h | h | h
            · have := ascends_lt hasc he hlE h; omega
            · exact h
            · have := ascends_lt hasc hlE he h; omega
          omega
        · have : l' ≠ l := by intro h; subst h; rw [hlE] at he; injection he with he; exact e1 he.symm
          omega
      have cont : E.contains i = true := by simpa using hiE
      -- the result and the heap behind it
      have key : ∀ (r : V) (σ' : H), AQ P ops E (i + 1) os (putd t o.dst r) σ' Q → ((wantedA ops t o = some false ∧ r = .tup [] ∧ σ' = σ) ∨ (wantedA ops t o = some true ∧ OpAt P t σ o.op r σ')) → Concl P ops m E (o :: os) i t σ l Q := by
        intro r σ' hrest hop
        obtain ⟨T, hs, a1, a2, a3, a4, a5⟩ := ih (i + 1) (putd t o.dst r) σ' (l + 1) hos' hE' (by omega) hrest
        obtain ⟨b1, b2⟩ := agree T r a1
        obtain ⟨c1, c2⟩ := alike T b1
        refine ⟨T, fun k => if k = l then σ else hs k, b1, if_pos rfl, ?_, ?_, ?_⟩
        · show Q T (if E.length = l then σ else hs E.length)
          rw [if_neg (by omega)]; exact a3
        · intro q oq hq hqm hoq hqE
          have hq' : i + 1 ≤ q := by
            rcases Nat.lt_or_ge i q with h | h
            · exact h
            · have : q = i := by omega
              subst this; exact absurd hiE hqE
          rcases a4 q oq hq' hqm hoq hqE with h | ⟨h1, r', h2, h3⟩
          · exact .inl h
          · refine .inr ⟨h1, r', h2, ?_⟩
            rcases h3 with h3 | ⟨hpf, h3⟩
            · exact .inl h3
            · refine .inr ⟨hpf, fun k hk' hkl => ?_⟩
              have : l < k := (hk' l i hlE).1 (by omega)
              show OpAt P T (if k = l then σ else hs k) oq.op r' (if k = l then σ else hs k)
              rw [if_neg (by omega)]
              exact h3 k hk' hkl
        · intro k e oe he hke hoe
          by_cases e1 : e = i
          · subst e1
            have : k = l := by
              rcases Nat.lt_trichotomy k l with h | h | h
              · have := ascends_lt hasc hke hlE h; omega
              · exact h
              · have := ascends_lt hasc hlE hke h; omega
            subst this
            rw [ho] at hoe; injection hoe with hoe; subst hoe
            simp only [if_true, show ¬ (k + 1 = k) by omega, if_false, a2]
            rcases hop with ⟨x1, x2, x3⟩ | ⟨x1, x2⟩
            · exact .inl ⟨by rw [← c2]; exact x1, by rw [← x2]; exact b2, x3⟩
            · exact .inr ⟨by rw [← c2]; exact x1, r, b2, opAt_congr c1 x2⟩
          · have hk2 : k ≠ l := by intro h; subst h; rw [hlE] at hke; injection hke with hke; exact e1 hke.symm
            have hkl : l < k := by
              rcases Nat.lt_trichotomy k l with h | h | h
              · have := ascends_lt hasc hke hlE h; omega
              · exact absurd h hk2
              · exact h
            simp only [hk2, show ¬ (k + 1 = l) by omega, if_false]
            exact a5 k e oe (by omega) hke hoe
      cases hw : wantedA ops t o with
      | none => rw [hw] at h; exact h.elim
      | some b =>
        rw [hw] at h
        cases b with
        | false => exact key (.tup []) σ h (.inl ⟨hw, rfl, rfl⟩)
        | true =>
          simp only [wantK_true, runQ, cont] at h
          split at h
          · rename_i f args ts hop
            simp only [if_true] at h
            cases hf : aev t f with
            | fn g caps =>
              rw [hf] at h
              obtain ⟨hc, r, σ', hrun, hrest⟩ := h
              refine key r σ' hrest (.inr ⟨hw, ?_⟩)
              rw [hop]
              exact ⟨g, caps, hf, hc, hrun⟩
            | _ => rw [hf] at h; exact h.elim
          · rename_i hno
            cases hop : aop P t σ o.op with
            | none => rw [hop] at h; exact h.elim
            | some vs =>
              obtain ⟨r, σ'⟩ := vs
              rw [hop] at h
              refine key r σ' h (.inr ⟨hw, ?_⟩)
              unfold OpAt
              split
              · rename_i f args ts hop2
                exact absurd hop2 (hno f args ts)
              · exact hop
    · have hE' : ∀ (l' : Nat) e, E[l']? = some e → (e < i + 1 ↔ l' < k0) := by
        intro l' e he
        have h1 := hE l' e he
        have : e ≠ i := by intro h; subst h; exact hiE (mem_of_get he)
        omega
      have cont : E.contains i = false := by simpa using hiE
      have kind : pureOp o.op = true ∨ isLoad o.op = true := by
        have := all_range hk hin
        simp only [ho, cont, Bool.false_or, Bool.or_eq_true] at this
        exact this
      have key : ∀ (r : V), AQ P ops E (i + 1) os (putd t o.dst r) σ Q → ((wantedA ops t o = some false ∧ r = .tup []) ∨ (wantedA ops t o = some true ∧ ((pureOp o.op = true ∧ ∀ τ, OpAt P t τ o.op r τ) ∨ (pureOp o.op = false ∧ OpAt P t σ o.op r σ)))) → Concl P ops m E (o :: os) i t σ k0 Q := by
        intro r hrest hop
        obtain ⟨T, hs, a1, a2, a3, a4, a5⟩ := ih (i + 1) (putd t o.dst r) σ k0 hos' hE' hk0 hrest
        obtain ⟨b1, b2⟩ := agree T r a1
        obtain ⟨c1, c2⟩ := alike T b1
        refine ⟨T, hs, b1, a2, a3, ?_, ?_⟩
        · intro q oq hq hqm hoq hqE
          by_cases e1 : q = i
          · subst e1
            rw [ho] at hoq; injection hoq with hoq; subst hoq
            rcases hop with ⟨x1, x2⟩ | ⟨x1, x2⟩
            · exact .inl ⟨by rw [← c2]; exact x1, by rw [← x2]; exact b2⟩
            · refine .inr ⟨by rw [← c2]; exact x1, r, b2, ?_⟩
              rcases x2 with ⟨y1, y2⟩ | ⟨y0, y⟩
              · exact .inl ⟨y1, fun τ => opAt_congr c1 (y2 τ)⟩
              · refine .inr ⟨y0, fun k hk' hkl => ?_⟩
                have := uniq k hk' hkl
                subst this
                rw [a2]
                exact opAt_congr c1 y
          · exact a4 q oq (by omega) hqm hoq hqE
        · intro k e oe he hke hoe
          have : e ≠ i := by intro h; subst h; exact hiE (mem_of_get hke)
          exact a5 k e oe (by omega) hke hoe
      cases hw : wantedA ops t o with
      | none => rw [hw] at h; exact h.elim
      | some b =>
        rw [hw] at h
        cases b with
        | false => exact key (.tup []) h (.inl ⟨hw, rfl⟩)
        | true =>
          simp only [wantK_true, runQ, cont] at h
          split at h
          · rename_i f args ts hop
            simp only [Bool.false_eq_true, if_false] at h
            cases hf : aev t f with
            | fn g caps =>
              rw [hf] at h
              obtain ⟨hc, r, hrun, hpure, hrest⟩ := h
              refine key r hrest (.inr ⟨hw, .inl ⟨by rw [hop]; rfl, fun τ => ?_⟩⟩)
              rw [hop]
              exact ⟨g, caps, hf, hc, (Run.of_pure (σ := τ) hrun hpure).mono fun r' σ2 ⟨e1, _, e2⟩ => ⟨e2, e1⟩⟩
            | _ => rw [hf] at h; exact h.elim
          · rename_i hno
            have hcall : isCall o.op = false := by
              cases hop : o.op with
              | call c =>
                obtain ⟨callee, args, ts⟩ := c
                cases callee with
                | value f => exact absurd hop (hno f args ts)
                | _ => rfl
              | _ => rfl
            have opat : ∀ τ τ' r, aop P t τ o.op = some (r, τ') → OpAt P t τ o.op r τ' := by
              intro τ τ' r hop
              unfold OpAt
              split
              · rename_i f args ts hop2
                exact absurd hop2 (hno f args ts)
              · exact hop
            cases hop : aop P t σ o.op with
            | none => rw [hop] at h; exact h.elim
            | some vs =>
              obtain ⟨r, σ'⟩ := vs
              rw [hop] at h
              rcases kind with hp | hl
              · obtain ⟨e1, _⟩ := aop_pure (τ := σ) hp hcall hop
                subst e1
                exact key r h (.inr ⟨hw, .inl ⟨hp, fun τ => opat τ τ r (aop_pure hp hcall hop).2⟩⟩)
              · have e1 := aop_load hl hop
                subst e1
                exact key r h (.inr ⟨hw, .inr ⟨load_not_pure hl, opat _ _ r hop⟩⟩)

theorem adraw {N : Nat} {ops : Array Oper} (B : List Nat) (m : Nat) (E : List Nat) {t : Env} {σ : H} {Q : Env → H → Prop} (hm : P.follows .mixedOrders = true) (hd : drawOk N ops B m E = true) (hk : kindsOk ops m E = true)
    (h : AQ P ops E 0 (ops.toList.take m) t σ fun t σ => AL P N ops (ops.toList.drop m) t σ Q) : ADraw P N ops t σ Q := by
  obtain ⟨T, hs, a1, a2, a3, a4, a5⟩ := aq_facts hd hk (ops.toList.take m) 0 t σ 0 (by simp) (by intro l e _; simp) (Nat.zero_le _) h
  have hd' := hd
  unfold drawOk at hd'
  simp only [Bool.and_eq_true, decide_eq_true_eq] at hd'
  obtain ⟨⟨⟨⟨⟨⟨⟨⟨_, _⟩, _⟩, hguard⟩, _⟩, _⟩, hmn⟩, _⟩, _⟩ := hd'
  rw [← a2]
  refine draw_main hm hd (fun i hi => a1 i fun o ho => ?_) ⟨?_, ?_⟩ (al_sound _ _ _ _ _ (guardsOk_all hguard) ?_ a3)
  · obtain ⟨j, hj⟩ := List.getElem?_of_mem ho
    rw [List.getElem?_take] at hj
    split at hj
    · exact hi j o (by omega) (by simpa using hj)
    · simp at hj
  · intro q o hqm ho hqE
    rcases a4 q o (Nat.zero_le _) hqm ho hqE with h | ⟨h1, r, h2, h3⟩
    · exact .inl h
    · refine .inr ⟨h1, r, h2, fun k hk' hkl => ?_⟩
      rcases h3 with ⟨hp, h3⟩ | ⟨hp, h3⟩
      · exact h3 _
      · rcases hk' with hp' | hst
        · rw [hp] at hp'; simp at hp'
        · exact h3 k hst hkl
  · intro k e o hke ho
    exact a5 k e o (Nat.zero_le _) hke ho
  · apply List.ext_getElem?
    intro i
    simp only [List.getElem?_map, List.getElem?_drop]
    by_cases hi : i < ops.size - m
    · rw [List.getElem?_range' hi]
      have : m + i < ops.size := by omega
      simp [this]
    · rw [List.getElem?_eq_none (by simp; omega), List.getElem?_eq_none (by simp; omega)]; rfl

theorem adrawP {N : Nat} {ops : Array Oper} (m : Nat) (E : List Nat) {t : Env} {σ : H} {Q : Env → H → Prop} (hm : P.follows .mixedOrders = true) (hd : drawOk N ops (Region.before ops).toList m E = true) (hk : kindsOk ops m E = true)
    (h : AQ P ops E 0 (ops.toList.take m) t σ fun t σ => AL P N ops (ops.toList.drop m) t σ Q) : ADraw P N ops t σ Q := adraw _ m E hm hd hk h

theorem adraw' {N : Nat} {ops : Array Oper} (E : List Nat) {t : Env} {σ : H} {Q : Env → H → Prop} (hm : P.follows .mixedOrders = true) (hd : drawOk N ops (Region.before ops).toList ops.size E = true) (hk : kindsOk ops ops.size E = true)
    (h : AQ P ops E 0 ops.toList t σ Q) : ADraw P N ops t σ Q := by
  refine adraw _ ops.size E hm hd hk ?_
  have e1 : ops.toList.take ops.size = ops.toList := List.take_of_length_le (by simp)
  have e2 : ops.toList.drop ops.size = [] := List.drop_of_length_le (by simp)
  rw [e1, e2]
  exact h

section
variable (e : Bool) (d : Option Tmp) (f : Step) (t : Env) (σ : H) (Q : Env → H → Prop)
@[simp] theorem runQ_move (x : Operand) : runQ P e (.move x) d f t σ Q = runOp P (.move x) d f t σ Q := (rfl)
@[simp] theorem runQ_assign (x : Operand) : runQ P e (.assign x) d f t σ Q = runOp P (.assign x) d f t σ Q := (rfl)
@[simp] theorem runQ_pick (c a b : Operand) : runQ P e (.pick c a b) d f t σ Q = runOp P (.pick c a b) d f t σ Q := (rfl)
@[simp] theorem runQ_alloc (x : TypeId) : runQ P e (.alloc x) d f t σ Q = runOp P (.alloc x) d f t σ Q := (rfl)
@[simp] theorem runQ_box (x : TypeId) (y : Operand) : runQ P e (.box x y) d f t σ Q = runOp P (.box x y) d f t σ Q := (rfl)
@[simp] theorem runQ_build (x : TypeId) (y : Array (Nat × Operand)) : runQ P e (.build x y) d f t σ Q = runOp P (.build x y) d f t σ Q := (rfl)
@[simp] theorem runQ_buildSlice (x : TypeId) (n : Nat) (y : Array (Nat × Operand)) : runQ P e (.buildSlice x n y) d f t σ Q = runOp P (.buildSlice x n y) d f t σ Q := (rfl)
@[simp] theorem runQ_load (x : TypeId) (y : Operand) : runQ P e (.load x y) d f t σ Q = runOp P (.load x y) d f t σ Q := (rfl)
@[simp] theorem runQ_store (x : TypeId) (y z : Operand) : runQ P e (.store x y z) d f t σ Q = runOp P (.store x y z) d f t σ Q := (rfl)
@[simp] theorem runQ_nilCheck (x : Operand) : runQ P e (.nilCheck x) d f t σ Q = runOp P (.nilCheck x) d f t σ Q := (rfl)
@[simp] theorem runQ_binOp (op : BinOp) (a b : TypeId) (x y : Operand) : runQ P e (.binOp op a x y b) d f t σ Q = runOp P (.binOp op a x y b) d f t σ Q := (rfl)
@[simp] theorem runQ_unOp (op : UnOp) (a : TypeId) (x : Operand) : runQ P e (.unOp op a x) d f t σ Q = runOp P (.unOp op a x) d f t σ Q := (rfl)
@[simp] theorem runQ_convert (a b : TypeId) (x : Operand) : runQ P e (.convert a b x) d f t σ Q = runOp P (.convert a b x) d f t σ Q := (rfl)
@[simp] theorem runQ_makeFunc (g : Fn) (x y : Array Operand) : runQ P e (.makeFunc g x y) d f t σ Q = runOp P (.makeFunc g x y) d f t σ Q := (rfl)
@[simp] theorem runQ_makeSlice (a : TypeId) (x y : Operand) : runQ P e (.makeSlice a x y) d f t σ Q = runOp P (.makeSlice a x y) d f t σ Q := (rfl)
@[simp] theorem runQ_slice (a : TypeId) (x : Operand) (l h m : Option Operand) : runQ P e (.slice a x l h m) d f t σ Q = runOp P (.slice a x l h m) d f t σ Q := (rfl)
@[simp] theorem runQ_fieldAddr (a : TypeId) (x : Operand) (i : Nat) : runQ P e (.fieldAddr a x i) d f t σ Q = runOp P (.fieldAddr a x i) d f t σ Q := (rfl)
@[simp] theorem runQ_field (a : TypeId) (x : Operand) (i : Nat) : runQ P e (.field a x i) d f t σ Q = runOp P (.field a x i) d f t σ Q := (rfl)
@[simp] theorem runQ_indexAddr (a : TypeId) (x y : Operand) : runQ P e (.indexAddr a x y) d f t σ Q = runOp P (.indexAddr a x y) d f t σ Q := (rfl)
@[simp] theorem runQ_index (a : TypeId) (x y : Operand) : runQ P e (.index a x y) d f t σ Q = runOp P (.index a x y) d f t σ Q := (rfl)
@[simp] theorem runQ_extract (x : Operand) (i : Nat) : runQ P e (.extract x i) d f t σ Q = runOp P (.extract x i) d f t σ Q := (rfl)
@[simp] theorem runQ_builtin (b : Builtin) (args : Array Operand) (ts : Array TypeId) : runQ P e (.call { callee := .builtin b, args := args, argTypes := ts }) d f t σ Q = runOp P (.call { callee := .builtin b, args := args, argTypes := ts }) d f t σ Q := (rfl)
end

/-- A pure call whose result is known. -/
theorem Run.pcall {f : FuncId} {args : List V} {σ : H} {K : V → H → Prop} {r : V} (h : PRun P f args fun r' => r' = r) (hp : ∀ x ∈ args, x.Pure) (k : K r σ) : Run P f args σ K :=
  (Run.of_pure h hp).mono fun _ _ ⟨h1, _, h2⟩ => by subst h1; subst h2; exact k

/-- An argument that is told another way first. -/
theorem Run.frzArg {f : FuncId} {args : List V} {σ σ' : H} {K : V → H → Prop} (i : Nat) {v v' : V} (hi : args[i]? = some v) (hz : Frz P σ v v' σ') (h : Run P f (args.set i v') σ' K) : Run P f args σ K := by
  intro W ρ F G w ys hr hy
  have hlt : i < ys.length := by rw [hy.1]; exact lt_of_get hi
  have hyi : ys[i]? = some ys[i] := List.getElem?_eq_getElem hlt
  obtain ⟨F', a1, a2, a3⟩ := hz W ρ F G w _ hr (hy.2 i v _ hi hyi)
  refine (h W ρ F' G w ys a2 ⟨by simp [hy.1], fun j x y hx hyj => ?_⟩).mono ?_
  · by_cases e : j = i
    · subst e
      rw [hyi] at hyj; injection hyj with hyj; subst hyj
      rw [List.getElem?_set_self (lt_of_get hi)] at hx
      injection hx with hx; subst hx
      exact a3
    · rw [List.getElem?_set_ne (Ne.symm e)] at hx
      exact (hy.2 j x y hx hyj).mono a1 (Lay.le_refl _)
  · rintro e w' ⟨v, r, σ', ρ', F'', he, hq, h1, h2, h3, h4⟩
    exact ⟨v, r, σ', ρ', F'', he, hq, h1, Part.le_trans a1 h2, h3, h4⟩

end Go.Proofs.Ytngbibpmaofamaa.Ab

/- The abstract calculus: regions that draw their order, with fresh cells in any order. -/
-- AbH
namespace Go.Proofs.Ytngbibpmaofamaa.Ab
open Go

variable {P : Program}

/-- The fresh cells that an operation lays out, the same on every heap: the value that names them, and the block. -/
def ablk (P : Program) (t : Env) : Op → Option ((Nat → V) × Blk)
  | .alloc e => match azero P e with
    | some z => if z.cells.length = P.cellsOf e ∧ z.cells.all V.one = true then some (fun n => .ptr n 0 0, .rows e [z.cells]) else none
    | none => none
  | .makeSlice ty l c => match P.underlying ty, aev t l, aev t c with
    | some (.slice e), .int _ n, .int _ c => match azero P e with
      | some z => if 0 ≤ n ∧ n ≤ c ∧ c * P.bytesOf e ≤ 2 ^ 40 ∧ c ≤ 2 ^ 40 ∧ z.cells.length = P.cellsOf e ∧ z.cells.all V.one = true ∧ P.cellsOf e ≠ 0 then
        some (fun b => .sl (P.cellsOf e) b 0 (List.replicate n.toNat z.cells).length (decide (c = n)), .rows e (List.replicate n.toNat z.cells)) else none
      | none => none
    | _, _, _ => none
  | _ => none

theorem ablk_congr {t t' : Env} {o : Op} (h : ∀ x ∈ o.operands, aev t x = aev t' x) : ablk P t o = ablk P t' o := by
  cases o <;> simp only [Op.operands] at h <;> simp only [ablk]
  case makeSlice ty a x => rw [h a (by simp), h x (by simp)]

theorem Rel.newVarAt {W : World} {σ : H} {n : Nat} (hu : σ.use n = false) {ρ : Lay} {F G : Part} {w : World} (h : Rel P W σ ρ F G w) {e : TypeId} {v : V} {u : Value} (hv : VR F ρ v u) (hc : v.cells.length = P.cellsOf e ∧ v.cells.all V.one = true) :
    ∃ a w' ρ', (Go.newVar e u).run P w = .ok a w' ∧ ρ.le ρ' ∧ Rel P W (σ.allocAt n (.rows e [v.cells])) ρ' F G w' ∧ VR F ρ' (.ptr n 0 0) (.pointer (some a)) := by
  obtain ⟨h1, h2⟩ := hc
  obtain ⟨k1, k2⟩ := hv.cells h2
  obtain ⟨ρ', g1, g2, g3⟩ := h.allocAt (n := n) hu (e := e) (xs := [v.cells]) (cs := u.cells) (by rw [← h1, ← k1]; simp) (by
    intro i row hi
    cases i with
    | succ i => simp at hi
    | zero =>
      simp at hi
      subst hi
      refine ⟨h1, fun j x hj => ⟨List.all_eq_true.1 h2 _ (mem_of_get hj), ?_⟩⟩
      have hlt : j < u.cells.toList.length := by
        rw [k1]
        rcases Nat.lt_or_ge j v.cells.length with h | h
        · exact h
        · rw [List.getElem?_eq_none h] at hj; simp at hj
      obtain ⟨y, hy⟩ : ∃ y, u.cells.toList[j]? = some y := ⟨_, List.getElem?_eq_getElem hlt⟩
      exact ⟨y, by simpa using hy, k2 j x y hj hy⟩)
  refine ⟨⟨w.heap.size, 0, none⟩, _, ρ', ?_, g1, g3, ?_⟩
  · simp only [Go.newVar, newRow, Sem.run_bind, run_newObj, Result.andThen]
    rfl
  · have := VR.ptr (F := F) (ρ := ρ') (b := n) (r := 0) (c := 0) g2
    simpa using this

theorem Rel.newRowsAt {W : World} {σ : H} {n : Nat} (hu : σ.use n = false) {ρ : Lay} {F G : Part} {w : World} (hr : Rel P W σ ρ F G w) {e : TypeId} {xs : List (List V)} {cs : Array Value} {cap : Nat} {ex : Bool} (hcap : xs.length ≤ cap)
    (hsz : cap * P.cellsOf e ≤ cs.size) (hex : ex = true → cap = xs.length)
    (hc : ∀ (i : Nat) row, xs[i]? = some row → row.length = P.cellsOf e ∧ ∀ (j : Nat) x, row[j]? = some x → x.one = true ∧ ∃ y, cs[i * P.cellsOf e + j]? = some y ∧ VR F ρ x y) :
    ∃ w' ρ', (newRow e cs).run P w = .ok ⟨w.heap.size, 0, none⟩ w' ∧ ρ.le ρ' ∧ Rel P W (σ.allocAt n (.rows e xs)) ρ' F G w' ∧
      VR F ρ' (.sl (P.cellsOf e) n 0 xs.length ex) (.slice (some ⟨w.heap.size, 0, none⟩) xs.length cap) := by
  obtain ⟨ρ', g1, g2, g3⟩ := hr.allocAt (n := n) hu (e := e) (xs := xs) (cs := cs) (Nat.le_trans (Nat.mul_le_mul_right _ hcap) hsz) hc
  refine ⟨_, ρ', ?_, g1, g3, ?_⟩
  · simp only [newRow, Sem.run_bind, run_newObj, Result.andThen]; rfl
  · exact .sl g2 rfl hcap hex rfl rfl (fun _ => by show (0 : Nat) = 0 + 0 * _; omega) (fun _ => by show 0 + (0 + cap) * P.cellsOf e ≤ cs.size; rw [Nat.zero_add, Nat.zero_add]; exact hsz)


theorem makeSliceAt_sound {W : World} {σ : H} {ρ : Lay} {F G : Part} {w : World} (hr : Rel P W σ ρ F G w) {t e : TypeId} {n cc : Int} {kn kc : IntKind} {b : Nat} (hu0 : σ.use b = false) {z : V} (hu : P.underlying t = some (.slice e)) (hz0 : azero P e = some z)
    (hcond : 0 ≤ n ∧ n ≤ cc ∧ cc * P.bytesOf e ≤ 2 ^ 40 ∧ cc ≤ 2 ^ 40 ∧ z.cells.length = P.cellsOf e ∧ z.cells.all V.one = true ∧ P.cellsOf e ≠ 0) :
    ∃ u w' ρ', (Instr.makeSlice t (.int kn n) (.int kc cc)).run P w = .ok u w' ∧ ρ.le ρ' ∧ Rel P W (σ.allocAt b (.rows e (List.replicate n.toNat z.cells))) ρ' F G w' ∧ VR F ρ' (.sl (P.cellsOf e) b 0 (List.replicate n.toNat z.cells).length (decide (cc = n))) u := by
  obtain ⟨c0, c1, c2, c3, c4, c5, c6⟩ := hcond
  obtain ⟨u0, r1, r2, ie, r3, r4⟩ := run_zeroValue hz0 F ρ
  obtain ⟨d1, d2⟩ := r2.cells c5
  have hzl : u0.cells.size = P.cellsOf e := by rw [← c4, ← d1]; simp
  have hbytes : ie.bytes = P.bytesOf e := by simp [Program.bytesOf, r3]
  have hcells : ∀ (i : Nat) row, (List.replicate n.toNat z.cells)[i]? = some row → row.length = P.cellsOf e ∧ ∀ (j : Nat) x, row[j]? = some x → x.one = true ∧ ∃ y, ((Array.range (cc.toNat * P.cellsOf e)).map (u0.cells[· % u0.cells.size]!))[i * P.cellsOf e + j]? = some y ∧ VR F ρ x y := by
    intro i row hi
    have hrow : row = z.cells := List.eq_of_mem_replicate (mem_of_get hi)
    subst hrow
    refine ⟨c4, fun j x hj => ⟨List.all_eq_true.1 c5 _ (mem_of_get hj), ?_⟩⟩
    have hjl : j < P.cellsOf e := by rw [← c4]; exact lt_of_get hj
    have hil : i < n.toNat := by have := lt_of_get hi; simpa using this
    have hlt : i * P.cellsOf e + j < cc.toNat * P.cellsOf e := by
      have := Nat.mul_le_mul_right (P.cellsOf e) (show i + 1 ≤ cc.toNat by omega)
      rw [Nat.add_mul, Nat.one_mul] at this
      omega
    have hlu : j < u0.cells.size := by rw [hzl]; exact hjl
    refine ⟨u0.cells[j], ?_, d2 j x _ hj (by simp [hlu])⟩
    have hmod : (i * P.cellsOf e + j) % P.cellsOf e = j := by rw [Nat.mul_comm, Nat.mul_add_mod]; exact Nat.mod_eq_of_lt hjl
    simp [hlt, hzl, hmod]
    simp [hlu]
  obtain ⟨w', ρ', m1, m2, m3, m4⟩ := hr.newRowsAt hu0 (e := e) (xs := List.replicate n.toNat z.cells) (cs := (Array.range (cc.toNat * P.cellsOf e)).map (u0.cells[· % u0.cells.size]!)) (cap := cc.toNat) (ex := decide (cc = n))
    (by simp; omega) (by simp) (by intro hh; simp at hh; simp [hh]) hcells
  refine ⟨_, w', ρ', ?_, m2, m3, m4⟩
  have hwn := wrap_i64 (n := n) c0 (by omega)
  have hwc := wrap_i64 (n := cc) (by omega) c3
  have hbz : (ie.bytes : Int) * cc ≤ 2 ^ 40 := by rw [hbytes, Int.mul_comm]; exact c2
  have hbn : (ie.bytes : Int) * n ≤ 2 ^ 40 := Int.le_trans (Int.mul_le_mul_of_nonneg_left c1 (by omega)) hbz
  have hsm : ∀ {x : Int}, x ≤ 2 ^ 40 → ¬ x > 2 ^ 48 := by intro x hx; omega
  have hroom : (askRoom (cc.toNat * ie.bytes)).run P w = .ok () w := by unfold askRoom; split <;> rfl
  have hnn : ¬ (cc < 0) := by omega
  have hz1 : (cc.toNat * P.cellsOf e = 0) ∨ ¬ (cc.toNat * P.cellsOf e = 0) := Decidable.em _
  have hti : (typeInfo e).run P w = .ok ie w := by simp [typeInfo, r3]
  have hsize := run_sizeOf r3 w
  simp only [Instr.makeSlice, Sem.run_bind, run_underlying hu, Result.andThen, asInt, asIntOf, Sem.run_pure, hti, hwn, hwc]
  rw [if_neg (by simp [hnn, hsm hbz]; omega)]
  simp only [Sem.run_bind, hroom, Result.andThen, hsize]
  rcases hz1 with hz1 | hz1
  · rw [if_pos hz1]
    simp only [Sem.run_bind, Sem.run_pure, Result.andThen]
    have : (Array.range (cc.toNat * P.cellsOf e)).map ((#[] : Array Value)[· % (#[] : Array Value).size]!) = (Array.range (cc.toNat * P.cellsOf e)).map (u0.cells[· % u0.cells.size]!) := by rw [hz1]; simp
    rw [this, m1]
    simp
  · rw [if_neg hz1]
    simp only [Sem.run_bind, r1, Sem.run_pure, Result.andThen, m1]
    simp


theorem new_case {N : Nat} {o : Oper} {t : Env} {σ σ' : H} {v : V} {next : V → H → Prop} (hn : next v σ') {s : (a : Act) → Sem Value} (he : ∀ (a : Act), execOp a.eval o = (do pure (.value (← s a)) : Sem Next))
    (hs : ∀ W ρ F G a w, Rel P W σ ρ F G w → Slots N F ρ t a → ∃ u w' ρ', (s a).run P w = .ok u w' ∧ ρ.le ρ' ∧ Rel P W σ' ρ' F G w' ∧ VR F ρ' v u) : AOper P N o t σ next := by
  refine oper_value hn fun W ρ F G a w hr hsl => ?_
  obtain ⟨u, w', ρ', h1, h2, h3, h4⟩ := hs W ρ F G a w hr hsl
  exact ⟨u, w', ρ', F, by rw [he a]; simp only [Sem.run_bind, h1, Result.andThen, Sem.run_pure], h2, Part.le_refl _, h3, h4⟩

theorem ablk_sound {N : Nat} {o : Oper} {t : Env} {σ : H} {n : Nat} {v : Nat → V} {x : Blk} {next : V → H → Prop} (h : ablk P t o.op = some (v, x)) (hu : σ.use n = false) (hn : next (v n) (σ.allocAt n x)) : AOper P N o t σ next := by
  obtain ⟨dst, op, type, pos, after, guard⟩ := o
  simp only at h
  unfold ablk at h
  split at h
  · rename_i e
    cases hz : azero P e with
    | none => rw [hz] at h; simp at h
    | some z =>
      rw [hz] at h
      simp only at h
      split at h
      · rename_i hc
        injection h with h; injection h with h1 h2
        subst h1; subst h2
        refine new_case hn (s := fun a => Instr.alloc e true (.tuple #[])) (fun a => rfl) fun W ρ F G a w hr hs => ?_
        obtain ⟨u, r1, r2, _⟩ := run_zeroValue hz F ρ
        obtain ⟨ad, w', ρ', g1, g2, g3, g4⟩ := hr.newVarAt hu r2 hc
        exact ⟨_, w', ρ', by simp only [Instr.alloc, Sem.run_bind, r1, Result.andThen, g1, Sem.run_pure], g2, g3, g4⟩
      · simp at h
  · rename_i ty l c
    split at h
    · rename_i e kn n' kc c' hul hl hc
      cases hz : azero P e with
      | none => rw [hz] at h; simp at h
      | some z =>
        rw [hz] at h
        simp only at h
        split at h
        · rename_i hcond
          injection h with h; injection h with h1 h2
          subst h1; subst h2
          refine new_case hn (s := fun a => Instr.makeSlice ty (a.eval l) (a.eval c)) (fun a => rfl) fun W ρ F G a w hr hs => ?_
          have el := hs.eval l
          have ec := hs.eval c
          rw [hl] at el
          rw [hc] at ec
          generalize a.eval l = lv at *
          generalize a.eval c = cv at *
          cases el; cases ec
          exact makeSliceAt_sound hr hu hul hz hcond
        · simp at h
    · simp at h
  · simp at h

/-- What an operation comes to, also where it lays out fresh cells at a place that is named. -/
def OpAt2 (P : Program) (T : Env) (σ : H) (o : Op) (r : V) (σ' : H) : Prop := OpAt P T σ o r σ' ∨ ∃ n v x, ablk P T o = some (v, x) ∧ σ.use n = false ∧ r = v n ∧ σ' = σ.allocAt n x

theorem opAt2_congr {T T' : Env} {σ σ' : H} {o : Op} {r : V} (h : ∀ x ∈ o.operands, aev T x = aev T' x) (ho : OpAt2 P T σ o r σ') : OpAt2 P T' σ o r σ' := by
  rcases ho with ho | ⟨n, v, x, h1, h2, h3, h4⟩
  · exact .inl (opAt_congr h ho)
  · exact .inr ⟨n, v, x, by rw [← ablk_congr h]; exact h1, h2, h3, h4⟩

theorem opAt2_oper {N : Nat} {o : Oper} {t : Env} {σ σ' : H} {r : V} {next : V → H → Prop} (h : OpAt2 P t σ o.op r σ') (hn : next r σ') : AOper P N o t σ next := by
  rcases h with h | ⟨n, v, x, h1, h2, rfl, rfl⟩
  · exact opAt_oper h hn
  · exact ablk_sound h1 h2 hn

def put1 (L : Nat → Bool) (i : Nat) : Nat → Bool := fun j => if j = i then true else L j

def drawOk2 (N : Nat) (ops : Array Oper) (B : List Nat) (m : Nat) : Bool :=
  befOk ops B && ssaOk N ops B m && guardsOk N ops && edgesOk ops && tailOk ops B m && decide (m ≤ ops.size)

/-- What is done stands closed, and an operation may come up next. -/
structure Next (ops : Array Oper) (B : List Nat) (m : Nat) (L : Nat → Bool) (i : Nat) : Prop where
  lt : i < m
  new : L i = false
  pre : ∀ j, j < ops.size → tested B i j = true → L j = true
  cl : ∀ p q, p < ops.size → q < ops.size → L p = true → tested B p q = true → L q = true
  un : ∀ q, m ≤ q → q < ops.size → L q = false

theorem draw_main2 {N : Nat} {ops : Array Oper} {B : List Nat} {m : Nat} {T t0 : Env} {hs : (Nat → Bool) → H} {Q : Env → H → Prop} (hm : P.follows .mixedOrders = true) (hd : drawOk2 N ops B m = true)
    (ht : ∀ i, (∀ (j : Nat) o, j < m → ops[j]? = some o → o.dst ≠ some i) → T i = t0 i)
    (facts : ∀ i o L, Next ops B m L i → ops[i]? = some o → (wantedA ops T o = some false ∧ dstIs T o (.tup []) ∧ hs (put1 L i) = hs L) ∨ (wantedA ops T o = some true ∧ ∃ r, dstIs T o r ∧ OpAt2 P T (hs L) o.op r (hs (put1 L i))))
    (hq : ∀ L, (∀ i, i < m → L i = true) → AOps P N ops (List.range' m (ops.size - m)) T (hs L) Q) {σ : H} (h0 : ∀ L, (∀ i, i < m → L i = false) → hs L = σ) : ADraw P N ops t0 σ Q := by
  unfold drawOk2 at hd
  simp only [Bool.and_eq_true, decide_eq_true_eq] at hd
  obtain ⟨⟨⟨⟨⟨hbef, hssa⟩, hguard⟩, hedge⟩, htail⟩, hmn⟩ := hd
  have bef : ∀ i j o, ops[i]? = some o → j < ops.size → (tested B i j = true ↔ ∃ e ∈ o.after, Region.binds .any e = true ∧ (e.on = j ∨ tested B e.on j = true)) ∧ (tested B i j = true → j < i) := by
    intro i j o ho hj
    have hi : i < ops.size := (Array.getElem?_eq_some_iff.1 ho).1
    have h1 := all_range (all_range hbef hi) hj
    simp only [ho, Option.map_some, Option.getD_some, beq_iff_eq, Bool.and_eq_true, Bool.or_eq_true, Bool.not_eq_true', decide_eq_true_eq] at h1
    refine ⟨?_, fun h => by rcases h1.2 with h2 | h2; (rw [h] at h2; simp at h2); exact h2⟩
    rw [h1.1, Array.any_eq_true']
    simp only [Bool.and_eq_true, Bool.or_eq_true, beq_iff_eq]
  have edge : ∀ i o, ops[i]? = some o → ∀ e ∈ o.after, Region.binds .any e = true → e.on < i := by
    intro i o ho e he hb
    have hi : i < ops.size := (Array.getElem?_eq_some_iff.1 ho).1
    have h1 := all_range hedge hi
    simp only [ho, Array.all_eq_true_iff_forall_mem] at h1
    have := h1 e he
    simpa [hb] using this
  have tail : ∀ i j, i < ops.size → m ≤ i → j < i → tested B i j = true := by
    intro i j hi hmi hji
    have h1 := all_range htail hi
    simp only [Bool.or_eq_true, decide_eq_true_eq] at h1
    rcases h1 with h | h
    · omega
    · exact all_range h hji
  have ssa : ∀ i o, i < m → ops[i]? = some o → (∀ d, o.dst = some d → d < N) ∧ ∀ j oj d, j < m → ops[j]? = some oj → oj.dst = some d → (i = j ∨ o.dst ≠ some d) ∧ (d ∈ looks ops o → tested B i j = true) := by
    intro i o hi ho
    have h1 := all_range hssa hi
    simp only [ho, Bool.and_eq_true] at h1
    refine ⟨fun d hd => by have := h1.1; rw [hd] at this; simpa using this, fun j oj d hjn hj hdj => ?_⟩
    have h2 := all_range h1.2 hjn
    simp only [hj, Option.bind_some, hdj, Bool.and_eq_true, Bool.or_eq_true, beq_iff_eq, bne_iff_ne, Bool.not_eq_true', decide_eq_true_eq] at h2
    refine ⟨h2.1, fun hm => ?_⟩
    rcases h2.2 with h | h
    · have : (looks ops o).contains d = true := by simpa using hm
      rw [this] at h; simp at h
    · exact h.1
  -- whoever is the first that is not listed is ready
  have first : ∀ (listed : Array Bool), listed.size = ops.size → ∀ p, p < ops.size → listed.getD p true = false → (∀ j, j < p → listed.getD j true = true) → p ∈ Region.ready .any ops listed := by
    intro listed hsz p hp hpl hall
    have ho : ops[p]? = some ops[p] := Array.getElem?_eq_getElem hp
    refine mem_ready.2 ⟨hpl, ops[p], ho, fun e he hb => ?_⟩
    have hlt := edge p _ ho e he hb
    have := hall e.on hlt
    have hsz2 : e.on < listed.size := by omega
    simpa [Array.getD, hsz2] using this
  have next : ∀ (listed : Array Bool) p, p < ops.size → m ≤ p → (∀ j, j < ops.size → (listed.getD j true = true ↔ j < p)) → listed.size = ops.size → p ∈ Region.ready .any ops listed ∧ ∀ i ∈ Region.ready .any ops listed, i = p := by
    intro listed p hp hmp hl hsz
    refine ⟨first listed hsz p hp (by cases h : listed.getD p true with | false => rfl | true => have := (hl p hp).1 h; omega) (fun j hj => (hl j (by omega)).2 hj), fun i hi => ?_⟩
    obtain ⟨h0, o, ho, hpre⟩ := mem_ready.1 hi
    have hin : i < ops.size := (Array.getElem?_eq_some_iff.1 ho).1
    have hip : ¬ i < p := fun h => by have := (hl i hin).2 h; rw [this] at h0; simp at h0
    rcases Nat.lt_or_ge p i with h | h
    · exfalso
      have ht := tail i p hin (by omega) h
      obtain ⟨e, he, hb, hor⟩ := (bef i p o ho hp).1.1 ht
      have hen : e.on < ops.size := by have := edge i o ho e he hb; omega
      have hel := hpre e he hb
      have hel' : listed.getD e.on true = true := by
        have hsz2 : e.on < listed.size := by omega
        simpa [Array.getD, hsz2] using hel
      have hep := (hl e.on hen).1 hel'
      rcases hor with h' | h'
      · omega
      · have := (bef e.on p ops[e.on] (Array.getElem?_eq_getElem hen) hp).2 h'
        omega
    · omega
  -- the run over whatever order
  intro k W ρ F G a w hr hsl
  have main : ∀ (cnt : Nat) (listed : Array Bool) (ρ' : Lay) (F' : Part) (a : Act) (w : World), listed.size = ops.size → ρ.le ρ' → F.le F' → (∀ i j, i < ops.size → j < ops.size → listed.getD i true = true → tested B i j = true → listed.getD j true = true) →
      (∀ i, i < ops.size → m ≤ i → listed.getD i true = false) →
      ((List.range m).filter fun i => !listed.getD i true).length = cnt → Rel P W (hs fun j => listed.getD j true) ρ' F' G w → Slots N F' ρ' (maskT ops m T listed) a →
      wpAny P .any ops (Lift P W N ρ F G fun e t σ => e = .normal ∧ Q t σ) (cnt + (ops.size - m)) listed a w := by
    intro cnt
    induction cnt with
    | zero =>
      intro listed ρ' F' a w hsz h1 h2 hcl hun hcnt hrel hslots
      have hall : ∀ i, i < m → listed.getD i true = true := by
        intro i hi
        cases hl : listed.getD i true with
        | true => rfl
        | false =>
          rw [List.length_eq_zero_iff] at hcnt
          have : i ∈ (List.range m).filter fun i => !listed.getD i true := List.mem_filter.2 ⟨List.mem_range.2 hi, by simp [hl]⟩
          rw [hcnt] at this; simp at this
      have hmask : maskT ops m T listed = T := by
        funext i
        unfold maskT
        rw [if_neg]
        rintro ⟨j, o, hj, ho, hl, _⟩
        rw [hall j hj] at hl
        simp at hl
      rw [hmask] at hslots
      rw [Nat.zero_add]
      refine tail_any (m := m) next (ops.size - m) m listed a w (Nat.le_refl _) (by omega) hsz ?_ ?_
      · intro j hj
        by_cases hjm : j < m
        · exact ⟨fun _ => hjm, fun _ => hall j hjm⟩
        · have := hun j hj (by omega)
          exact ⟨fun h => (by rw [this] at h; simp at h), fun h => absurd h hjm⟩
      · have := hq _ hall W ρ' F' G a w hrel hslots
        exact wpOps_mono _ a w _ _ (fun e a w l => l.mono h1 h2 fun _ _ _ x => x) this
    | succ cnt ih =>
      intro listed ρ' F' a w hsz h1 h2 hcl hun hcnt hrel hslots
      -- one of the first ones is not listed
      obtain ⟨z, hz, hzl⟩ : ∃ z, z < m ∧ listed.getD z true = false := by
        cases hf : (List.range m).filter fun i => !listed.getD i true with
        | nil => rw [hf] at hcnt; simp at hcnt
        | cons z l =>
          have : z ∈ (List.range m).filter fun i => !listed.getD i true := by rw [hf]; simp
          have := List.mem_filter.1 this
          exact ⟨z, List.mem_range.1 this.1, by simpa using this.2⟩
      rw [show cnt + 1 + (ops.size - m) = (cnt + (ops.size - m)) + 1 by omega]
      refine ⟨fun hready => ?_, fun i hi => ?_⟩
      · exfalso
        have : ∀ p, p ≤ z → listed.getD p true = true := by
          intro p
          induction p using Nat.strongRecOn with
          | _ p ihp =>
            intro hp
            cases hl : listed.getD p true with
            | true => rfl
            | false =>
              have := first listed hsz p (by omega) hl fun j hj => ihp j hj (by omega)
              rw [hready] at this; simp at this
        rw [this z (Nat.le_refl _)] at hzl; simp at hzl
      obtain ⟨hl, o, ho, hpre⟩ := mem_ready.1 hi
      have hin : i < ops.size := (Array.getElem?_eq_some_iff.1 ho).1
      have hmem : o ∈ ops.toList := Array.mem_toList_iff.2 (Array.mem_of_getElem? ho)
      have gd : ∀ (j : Nat) (b c : Bool), j < ops.size → listed.getD j b = listed.getD j c := by intro j b c hj; simp [Array.getD, hsz, hj]
      have pre : ∀ j, j < ops.size → tested B i j = true → listed.getD j true = true := by
        intro j hj htest
        obtain ⟨e, he, hb, hor⟩ := (bef i j o ho hj).1.1 htest
        have hen : e.on < ops.size := by have := edge i o ho e he hb; omega
        have hel : listed.getD e.on true = true := by rw [gd _ true false hen]; exact hpre e he hb
        rcases hor with h | h
        · rw [← h]; exact hel
        · exact hcl e.on j hen hj hel h
      have him : i < m := by
        rcases Nat.lt_or_ge i m with h | h
        · exact h
        · have := pre z (by omega) (tail i z hin h (by omega)); rw [this] at hzl; simp at hzl
      have hget : ∀ j, (listed.setIfInBounds i true).getD j true = if j = i then true else listed.getD j true := by
        intro j
        by_cases e : j = i
        · subst e; simp [Array.getD, hsz, hin]
        · rw [if_neg e]
          have hne : ¬ i = j := fun x => e x.symm
          simp [Array.getD_eq_getD_getElem?, Array.getElem?_setIfInBounds, hne]
      have heval : ∀ x ∈ o.op.operands, aev (maskT ops m T listed) x = aev T x := by
        intro x hx
        cases x with
        | tmp d =>
          show maskT ops m T listed d = T d
          unfold maskT
          rw [if_neg]
          rintro ⟨j, oj, hjm, hj, hjl, hjd⟩
          have hjn : j < ops.size := (Array.getElem?_eq_some_iff.1 hj).1
          have hlook : d ∈ looks ops o := List.mem_append_left _ (List.mem_filterMap.2 ⟨.tmp d, by simpa using hx, rfl⟩)
          have := pre j hjn (((ssa i o him ho).2 j oj d hjm hj hjd).2 hlook)
          rw [this] at hjl; simp at hjl
        | _ => rfl
      have hwant : wantedA ops (maskT ops m T listed) o = wantedA ops T o := by
        unfold wantedA
        cases hg : o.guard with
        | none => rfl
        | some jb =>
          obtain ⟨j, b⟩ := jb
          simp only
          cases hj : ops[j]? with
          | none => rfl
          | some oj =>
            simp only
            cases hjd : oj.dst with
            | none => rfl
            | some d =>
              have : maskT ops m T listed d = T d := by
                unfold maskT
                rw [if_neg]
                rintro ⟨j', oj', hjm', hj', hjl, hjd'⟩
                have hjn : j' < ops.size := (Array.getElem?_eq_some_iff.1 hj').1
                have hlook : d ∈ looks ops o := List.mem_append_right _ (by simp [hg, hj, hjd])
                have := pre j' hjn (((ssa i o him ho).2 j' oj' d hjm' hj' hjd').2 hlook)
                rw [this] at hjl; simp at hjl
              simp only [this]
      have hcnt' : ((List.range m).filter fun j => !(listed.setIfInBounds i true).getD j true).length = cnt := by
        have h := filter_drop (p := fun j => !listed.getD j true) List.nodup_range (List.mem_range.2 him) (by simp [hl])
        rw [hcnt] at h
        have e : ((List.range m).filter fun j => !(listed.setIfInBounds i true).getD j true) = ((List.range m).filter fun x => (!listed.getD x true) && x != i) := by
          apply List.filter_congr
          intro j _
          rw [hget]
          by_cases e : j = i
          · simp [e]
          · simp [e]
        rw [e]
        omega
      have hcl' : ∀ p q, p < ops.size → q < ops.size → (listed.setIfInBounds i true).getD p true = true → tested B p q = true → (listed.setIfInBounds i true).getD q true = true := by
        intro p q hp hq' hpl htest
        rw [hget] at hpl ⊢
        split
        · rfl
        · by_cases e : p = i
          · subst e; exact pre q hq' htest
          · rw [if_neg e] at hpl; exact hcl p q hp hq' hpl htest
      have hun' : ∀ q, q < ops.size → m ≤ q → (listed.setIfInBounds i true).getD q true = false := by
        intro q hq' hmq
        rw [hget, if_neg (by omega)]; exact hun q hq' hmq
      -- the slots behind the operation
      have hslots' : ∀ {F2 : Part} {ρ2 : Lay} {r : V} {v : Value}, F'.le F2 → ρ'.le ρ2 → dstIs T o r → VR F2 ρ2 r v → Slots N F2 ρ2 (maskT ops m T (listed.setIfInBounds i true)) (a.put o.dst v) := by
        intro F2 ρ2 r v hF2 hρ2 hdst hv
        have base := (hslots.mono hF2 hρ2).putd (d := o.dst) (fun d hd => (ssa i o him ho).1 d hd) hv
        refine ⟨base.defers, base.size, fun x => ?_⟩
        have hb := base.slot x
        by_cases hx : o.dst = some x
        · rw [hx] at hb
          simp only [putd_some, upd_same] at hb
          unfold maskT
          split
          · exact .junk
          · rw [hdst x hx]; rw [hx]; exact hb
        · have e : putd (maskT ops m T listed) o.dst r x = maskT ops m T listed x := by
            cases hd : o.dst with
            | none => rfl
            | some d => exact upd_ne _ _ (fun e => hx (by rw [hd, e]))
          rw [e] at hb
          unfold maskT at hb ⊢
          split
          · exact .junk
          · rename_i hno
            rw [if_neg] at hb
            · exact hb
            · rintro ⟨j, oj, hjm, hj, hjl, hjd⟩
              apply hno
              refine ⟨j, oj, hjm, hj, ?_, hjd⟩
              rw [hget, if_neg]
              · exact hjl
              · intro e; subst e; rw [hj] at ho; injection ho with ho; subst ho; exact hx hjd
      -- the step
      have hL : (fun j => (listed.setIfInBounds i true).getD j true) = put1 (fun j => listed.getD j true) i := by
        funext j; exact hget j
      have hnext : Next ops B m (fun j => listed.getD j true) i := ⟨him, hl, pre, hcl, fun q h1 h2 => hun q h2 h1⟩
      unfold wpOp
      simp only [ho]
      rcases facts i o _ hnext ho with ⟨hw, hdst, hheap⟩ | ⟨hw, r, hdst, hop⟩
      · rw [wanted_of (by rw [hwant]; exact hw) hguard hmem hslots]
        simp only [Bool.false_eq_true, if_false]
        exact ih _ ρ' F' _ w (by simp [hsz]) h1 h2 hcl' hun' hcnt' (by rw [hL, hheap]; exact hrel) (hslots' (Part.le_refl _) (Lay.le_refl _) hdst undefVR)
      · rw [wanted_of (by rw [hwant]; exact hw) hguard hmem hslots]
        simp only [if_true]
        left
        have hop' := opAt2_congr (fun x hx => (heval x hx).symm) hop
        refine opAt2_oper (N := N) hop' (next := fun r' σ' => r' = r ∧ σ' = hs (put1 (fun j => listed.getD j true) i)) ⟨rfl, rfl⟩ W ρ' F' G a w hrel hslots _ _ ?_
        rintro r' σ' ρ2 F2 v w' ⟨rfl, rfl⟩ g1 g2 g3 g4
        exact ih _ ρ2 F2 _ w' (by simp [hsz]) (Lay.le_trans h1 g1) (Part.le_trans h2 g2) hcl' hun' hcnt' (by rw [hL]; exact g3) (hslots' g2 g1 hdst g4)
  have hsch : Region.schedule (P.follows .mixedOrders) ops k = Region.linearise.go .any ops ops.size k (Array.replicate ops.size false) [] := by
    simp only [Region.schedule, hm, Bool.true_or, if_true]
    rfl
  rw [hsch]
  refine wpAny_sound ops.size k _ a w ?_
  have hfuel : ops.size = m + (ops.size - m) := by omega
  have hL0 : hs (fun j => (Array.replicate ops.size false).getD j true) = σ := h0 _ fun i hi => by
    have : i < ops.size := by omega
    simp [Array.getD, this]
  have := main m (Array.replicate ops.size false) ρ F a w (by simp) (Lay.le_refl _) (Part.le_refl _) ?_ ?_ ?_ (by rw [hL0]; exact hr) ?_
  · rw [← hfuel] at this; exact this
  · intro i j hi hj h; simp [Array.getD, hi] at h
  · intro i hi _; simp [Array.getD, hi]
  · have : ((List.range m).filter fun i => !(Array.replicate ops.size false).getD i true) = List.range m := by
      apply List.filter_eq_self.2
      intro i hi
      have hi : i < ops.size := by have := List.mem_range.1 hi; omega
      simp [Array.getD, hi]
    rw [this]; simp
  · refine ⟨hsl.defers, hsl.size, fun i => ?_⟩
    unfold maskT
    split
    · exact .junk
    · rename_i hno
      rw [ht i]
      · exact hsl.slot i
      · intro j o hjm hj hdo
        apply hno
        have hjn : j < ops.size := (Array.getElem?_eq_some_iff.1 hj).1
        exact ⟨j, o, hjm, hj, by simp [Array.getD, hjn], hdo⟩

end Go.Proofs.Ytngbibpmaofamaa.Ab

/- The abstract calculus: a drawn region that lays out two blocks in any order. -/
-- AbI
namespace Go.Proofs.Ytngbibpmaofamaa.Ab
open Go

variable {P : Program}

theorem aop_load_ext {t : Env} {σ τ : H} {o : Op} {v : V} (hl : isLoad o = true) (h : aop P t σ o = some (v, σ)) (hx : ∀ b x, σ.get b = some x → τ.get b = some x) : aop P t τ o = some (v, τ) := by
  unfold aop at h ⊢
  split at h <;> simp only [isLoad, Bool.false_eq_true] at hl
  · rename_i ty a
    obtain ⟨h1, _⟩ := with_some h
    have : aload P τ ty (aev t a) = some v := by
      unfold aload at h1 ⊢
      split at h1
      · rename_i b r c _
        cases hb : σ.get b with
        | none => rw [hb] at h1; simp at h1
        | some x => rw [hb] at h1; rw [hx b x hb]; exact h1
      · exact h1
      · simp at h1
    simp only [this]; rfl
  · rename_i b args ts
    cases b <;> simp only [isLoad, Bool.false_eq_true] at hl
    unfold abuiltin at h ⊢
    cases ha : args.toList.map (aev t) with
    | nil => rw [ha] at h; simp at h
    | cons x ys =>
      cases ys with
      | nil =>
        rw [ha] at h
        simp only at h ⊢
        cases ht : ts[0]? with
        | none => rw [ht] at h; simp at h
        | some ty =>
          rw [ht] at h
          simp only at h ⊢
          cases hle : alen P σ ty x with
          | none => rw [hle] at h; simp at h
          | some y =>
            rw [hle] at h
            simp at h
            have : alen P τ ty x = some y := by
              unfold alen at hle ⊢
              split at hle <;> try exact hle
              · rename_i b _
                cases hb : σ.get b with
                | none => rw [hb] at hle; simp at hle
                | some z => rw [hb] at hle; rw [hx b z hb]; exact hle
            rw [this]
            simp [h]
      | cons y ys => rw [ha] at h; simp at h
  · simp at h

def kindsOk2 (ops : Array Oper) (m e1 e2 : Nat) : Bool := decide (e1 < e2) && decide (e2 < m) && (List.range m).all fun i => match ops[i]? with
  | some o => i == e1 || i == e2 || pureOp o.op || isLoad o.op
  | none => true

def allocK (g : Option (Nat × Bool)) (x : Option ((Nat → V) × Blk)) (k : (Nat → V) → Blk → Prop) : Prop := match g, x with
  | none, some (v, b) => k v b
  | _, _ => False
@[simp] theorem allocK_some (v : Nat → V) (b : Blk) (k : (Nat → V) → Blk → Prop) : allocK none (some (v, b)) k = k v b := (rfl)

def AQ2 (P : Program) (ops : Array Oper) (e1 e2 : Nat) : Nat → List Oper → Blk → Blk → Step
  | _, [], x1, x2, t, σ, Q => Q t ((σ.alloc x1).alloc x2)
  | i, o :: os, x1, x2, t, σ, Q => if i = e1 then allocK o.guard (ablk P t o.op) fun v x => AQ2 P ops e1 e2 (i + 1) os x x2 (putd t o.dst (v σ.nx)) σ Q
    else if i = e2 then allocK o.guard (ablk P t o.op) fun v x => AQ2 P ops e1 e2 (i + 1) os x1 x (putd t o.dst (v (σ.nx + 1))) σ Q
    else wantK (wantedA ops t o) (runQ P false o.op o.dst (AQ2 P ops e1 e2 (i + 1) os x1 x2)) (skipOp o.dst (AQ2 P ops e1 e2 (i + 1) os x1 x2)) t σ Q

@[simp] theorem AQ2_nil (ops : Array Oper) (e1 e2 i : Nat) (x1 x2 : Blk) (t : Env) (σ : H) (Q : Env → H → Prop) : AQ2 P ops e1 e2 i [] x1 x2 t σ Q = Q t ((σ.alloc x1).alloc x2) := (rfl)
@[simp] theorem AQ2_cons (ops : Array Oper) (e1 e2 i : Nat) (o : Oper) (os : List Oper) (x1 x2 : Blk) (t : Env) (σ : H) (Q : Env → H → Prop) : AQ2 P ops e1 e2 i (o :: os) x1 x2 t σ Q =
    if i = e1 then allocK o.guard (ablk P t o.op) fun v x => AQ2 P ops e1 e2 (i + 1) os x x2 (putd t o.dst (v σ.nx)) σ Q
    else if i = e2 then allocK o.guard (ablk P t o.op) fun v x => AQ2 P ops e1 e2 (i + 1) os x1 x (putd t o.dst (v (σ.nx + 1))) σ Q
    else wantK (wantedA ops t o) (runQ P false o.op o.dst (AQ2 P ops e1 e2 (i + 1) os x1 x2)) (skipOp o.dst (AQ2 P ops e1 e2 (i + 1) os x1 x2)) t σ Q := (rfl)

def QuietAt (P : Program) (ops : Array Oper) (T : Env) (σ : H) (o : Oper) : Prop := (wantedA ops T o = some false ∧ dstIs T o (.tup [])) ∨
  (wantedA ops T o = some true ∧ ∃ r, dstIs T o r ∧ ((∀ τ, OpAt P T τ o.op r τ) ∨ (isLoad o.op = true ∧ aop P T σ o.op = some (r, σ))))

def BlkAt (P : Program) (ops : Array Oper) (T : Env) (e n : Nat) (x : Blk) : Prop := ∃ o v, ops[e]? = some o ∧ wantedA ops T o = some true ∧ ablk P T o.op = some (v, x) ∧ dstIs T o (v n)

def Concl2 (P : Program) (ops : Array Oper) (m e1 e2 : Nat) (os : List Oper) (i : Nat) (x1 x2 : Blk) (t : Env) (σ : H) (Q : Env → H → Prop) : Prop :=
  ∃ (T : Env) (X1 X2 : Blk), (∀ x, (∀ o ∈ os, o.dst ≠ some x) → T x = t x) ∧ Q T ((σ.alloc X1).alloc X2) ∧ (e1 < i → X1 = x1) ∧ (e2 < i → X2 = x2) ∧
    (∀ (q : Nat) o, i ≤ q → q < m → ops[q]? = some o → q ≠ e1 → q ≠ e2 → QuietAt P ops T σ o) ∧ (i ≤ e1 → BlkAt P ops T e1 σ.nx X1) ∧ (i ≤ e2 → BlkAt P ops T e2 (σ.nx + 1) X2)

theorem aq2_facts {N : Nat} {ops : Array Oper} {B : List Nat} {m e1 e2 : Nat} {Q : Env → H → Prop} {σ : H} (hssa : ssaOk N ops B m = true) (hmn : m ≤ ops.size) (hk : kindsOk2 ops m e1 e2 = true) :
    ∀ (os : List Oper) (i : Nat) (t : Env) (x1 x2 : Blk), os = (ops.toList.take m).drop i → AQ2 P ops e1 e2 i os x1 x2 t σ Q → Concl2 P ops m e1 e2 os i x1 x2 t σ Q := by
  unfold kindsOk2 at hk
  simp only [Bool.and_eq_true, decide_eq_true_eq] at hk
  obtain ⟨⟨he12, he2m⟩, hk⟩ := hk
  intro os
  induction os with
  | nil =>
    intro i t x1 x2 hos h
    have hlen : m ≤ i := by
      have := congrArg List.length hos
      simp at this
      omega
    exact ⟨t, x1, x2, fun _ _ => rfl, h, fun _ => rfl, fun _ => rfl, fun q o hq hqm => by omega, fun h => by omega, fun h => by omega⟩
  | cons o os ih =>
    intro i t x1 x2 hos h
    have at_ : ∀ k o', ((ops.toList.take m).drop k)[0]? = some o' → k < m ∧ ops[k]? = some o' := by
      intro k o' h
      rw [List.getElem?_drop, List.getElem?_take] at h
      split at h
      · exact ⟨by omega, by simpa using h⟩
      · simp at h
    obtain ⟨hin, ho⟩ := at_ i o (by rw [← hos]; rfl)
    have hos' : os = (ops.toList.take m).drop (i + 1) := by
      have := congrArg List.tail hos
      simp only [List.tail_cons, List.tail_drop] at this
      exact this
    have ssa : ∀ j oj d, j < m → ops[j]? = some oj → oj.dst = some d → (i = j ∨ o.dst ≠ some d) ∧ (d ∈ looks ops o → j < i) := by
      have h1 := all_range hssa hin
      simp only [ho, Bool.and_eq_true] at h1
      intro j oj d hjn hj hdj
      have h2 := all_range h1.2 hjn
      simp only [hj, Option.bind_some, hdj, Bool.and_eq_true, Bool.or_eq_true, beq_iff_eq, bne_iff_ne, Bool.not_eq_true', decide_eq_true_eq] at h2
      refine ⟨h2.1, fun hm => ?_⟩
      rcases h2.2 with h | h
      · have : (looks ops o).contains d = true := by simpa using hm
        rw [this] at h; simp at h
      · exact h.2
    have later : ∀ d, d ∈ looks ops o → ∀ o' ∈ o :: os, o'.dst ≠ some d := by
      intro d hd o' ho' hd'
      rw [hos] at ho'
      obtain ⟨n, hn⟩ := List.getElem?_of_mem ho'
      obtain ⟨hl, hm'⟩ := at_ (i + n) o' (by rw [List.getElem?_drop] at hn ⊢; exact hn)
      have := (ssa (i + n) o' d hl hm' hd').2 hd
      omega
    have own : ∀ d, o.dst = some d → ∀ o' ∈ os, o'.dst ≠ some d := by
      intro d hd o' ho' hd'
      rw [hos'] at ho'
      obtain ⟨n, hn⟩ := List.getElem?_of_mem ho'
      obtain ⟨hl, hm'⟩ := at_ (i + 1 + n) o' (by rw [List.getElem?_drop] at hn ⊢; exact hn)
      rcases (ssa (i + 1 + n) o' d hl hm' hd').1 with h | h
      · omega
      · exact h hd
    -- whatever T agrees with t but for what is to come: the operation looks alike
    have alike : ∀ T : Env, (∀ x, (∀ o' ∈ o :: os, o'.dst ≠ some x) → T x = t x) → (∀ x ∈ o.op.operands, aev t x = aev T x) ∧ wantedA ops t o = wantedA ops T o := by
      intro T hT
      constructor
      · intro x hx
        cases x with
        | tmp d => exact (hT d (later d (List.mem_append_left _ (List.mem_filterMap.2 ⟨.tmp d, by simpa using hx, rfl⟩)))).symm
        | _ => rfl
      · unfold wantedA
        cases hg : o.guard with
        | none => rfl
        | some jb =>
          obtain ⟨j, b⟩ := jb
          simp only
          cases hj : ops[j]? with
          | none => rfl
          | some oj =>
            simp only
            cases hjd : oj.dst with
            | none => rfl
            | some d => simp only [hT d (later d (List.mem_append_right _ (by simp [hg, hj, hjd])))]
    have agree : ∀ (T : Env) (r : V), (∀ x, (∀ o' ∈ os, o'.dst ≠ some x) → T x = putd t o.dst r x) → (∀ x, (∀ o' ∈ o :: os, o'.dst ≠ some x) → T x = t x) ∧ dstIs T o r := by
      intro T r hT
      constructor
      · intro x hx
        rw [hT x fun o' ho' => hx o' (List.mem_cons_of_mem _ ho')]
        cases hd : o.dst with
        | none => rfl
        | some d => exact upd_ne _ _ (fun e => hx o (List.mem_cons_self ..) (by rw [hd, e]))
      · intro d hd
        rw [hT d (own d hd), hd]
        exact upd_same _ _ _
    simp only [AQ2] at h
    have blk : ∀ (v : Nat → V) (n : Nat) (x : Blk), o.guard = none → ablk P t o.op = some (v, x) → ∀ T, (∀ y, (∀ o' ∈ os, o'.dst ≠ some y) → T y = putd t o.dst (v n) y) → BlkAt P ops T i n x := by
      intro v n x hg hb T hT
      obtain ⟨b1, b2⟩ := agree T (v n) hT
      obtain ⟨c1, c2⟩ := alike T b1
      refine ⟨o, v, ho, ?_, by rw [← ablk_congr c1]; exact hb, b2⟩
      unfold wantedA
      rw [hg]
    by_cases hi1 : i = e1
    · rw [if_pos hi1] at h
      unfold allocK at h
      split at h
      · rename_i v x hg hb
        obtain ⟨T, X1, X2, a1, a2, a3, a4, a5, a6, a7⟩ := ih (i + 1) _ x x2 hos' h
        obtain ⟨b1, b2⟩ := agree T _ a1
        have hX1 : X1 = x := a3 (by omega)
        refine ⟨T, X1, X2, b1, a2, fun hh => by omega, fun hh => by omega, ?_, ?_, ?_⟩
        · intro q oq hq hqm hoq hq1 hq2; exact a5 q oq (by omega) hqm hoq hq1 hq2
        · intro _; rw [hX1, ← hi1]; exact blk v σ.nx x hg hb T a1
        · intro _; exact a7 (by omega)
      · exact h.elim
    · rw [if_neg hi1] at h
      by_cases hi2 : i = e2
      · rw [if_pos hi2] at h
        unfold allocK at h
        split at h
        · rename_i v x hg hb
          obtain ⟨T, X1, X2, a1, a2, a3, a4, a5, a6, a7⟩ := ih (i + 1) _ x1 x hos' h
          obtain ⟨b1, b2⟩ := agree T _ a1
          have hX2 : X2 = x := a4 (by omega)
          refine ⟨T, X1, X2, b1, a2, fun hh => a3 (by omega), fun hh => by omega, ?_, ?_, ?_⟩
          · intro q oq hq hqm hoq hq1 hq2; exact a5 q oq (by omega) hqm hoq hq1 hq2
          · intro hh; omega
          · intro _; rw [hX2, ← hi2]; exact blk v (σ.nx + 1) x hg hb T a1
        · exact h.elim
      · rw [if_neg hi2] at h
        have kind : pureOp o.op = true ∨ isLoad o.op = true := by
          have := all_range hk hin
          simp only [ho, Bool.or_eq_true, beq_iff_eq] at this
          rcases this with ((h | h) | h) | h
          · exact absurd h hi1
          · exact absurd h hi2
          · exact .inl h
          · exact .inr h
        have key : ∀ (r : V), AQ2 P ops e1 e2 (i + 1) os x1 x2 (putd t o.dst r) σ Q → ((wantedA ops t o = some false ∧ r = .tup []) ∨ (wantedA ops t o = some true ∧ ((∀ τ, OpAt P t τ o.op r τ) ∨ (isLoad o.op = true ∧ aop P t σ o.op = some (r, σ))))) → Concl2 P ops m e1 e2 (o :: os) i x1 x2 t σ Q := by
          intro r hrest hop
          obtain ⟨T, X1, X2, a1, a2, a3, a4, a5, a6, a7⟩ := ih (i + 1) _ x1 x2 hos' hrest
          obtain ⟨b1, b2⟩ := agree T r a1
          obtain ⟨c1, c2⟩ := alike T b1
          refine ⟨T, X1, X2, b1, a2, fun hh => a3 (by omega), fun hh => a4 (by omega), ?_, fun hh => a6 (by omega), fun hh => a7 (by omega)⟩
          intro q oq hq hqm hoq hq1 hq2
          by_cases e : q = i
          · subst e
            rw [ho] at hoq; injection hoq with hoq; subst hoq
            rcases hop with ⟨y1, y2⟩ | ⟨y1, y2⟩
            · exact .inl ⟨by rw [← c2]; exact y1, by rw [← y2]; exact b2⟩
            · refine .inr ⟨by rw [← c2]; exact y1, r, b2, ?_⟩
              rcases y2 with y | ⟨y, y'⟩
              · exact .inl fun τ => opAt_congr c1 (y τ)
              · exact .inr ⟨y, by rw [← aop_congr c1]; exact y'⟩
          · exact a5 q oq (by omega) hqm hoq hq1 hq2
        cases hw : wantedA ops t o with
        | none => rw [hw] at h; exact h.elim
        | some b =>
          rw [hw] at h
          cases b with
          | false => exact key (.tup []) h (.inl ⟨hw, rfl⟩)
          | true =>
            simp only [wantK_true, runQ] at h
            split at h
            · rename_i f args ts hop
              simp only [Bool.false_eq_true, if_false] at h
              cases hf : aev t f with
              | fn g caps =>
                rw [hf] at h
                obtain ⟨hc, r, hrun, hpure, hrest⟩ := h
                refine key r hrest (.inr ⟨hw, .inl fun τ => ?_⟩)
                rw [hop]
                exact ⟨g, caps, hf, hc, (Run.of_pure (σ := τ) hrun hpure).mono fun r' σ2 ⟨e1, _, e2⟩ => ⟨e2, e1⟩⟩
              | _ => rw [hf] at h; exact h.elim
            · rename_i hno
              have hcall : isCall o.op = false := by
                cases hop : o.op with
                | call c =>
                  obtain ⟨callee, args, ts⟩ := c
                  cases callee with
                  | value f => exact absurd hop (hno f args ts)
                  | _ => rfl
                | _ => rfl
              have opat : ∀ τ τ' r, aop P t τ o.op = some (r, τ') → OpAt P t τ o.op r τ' := by
                intro τ τ' r hop
                unfold OpAt
                split
                · rename_i f args ts hop2
                  exact absurd hop2 (hno f args ts)
                · exact hop
              cases hop : aop P t σ o.op with
              | none => rw [hop] at h; exact h.elim
              | some vs =>
                obtain ⟨r, σ'⟩ := vs
                rw [hop] at h
                rcases kind with hp | hl
                · obtain ⟨e1, _⟩ := aop_pure (τ := σ) hp hcall hop
                  subst e1
                  exact key r h (.inr ⟨hw, .inl fun τ => opat τ τ r (aop_pure hp hcall hop).2⟩)
                · have e1 := aop_load hl hop
                  subst e1
                  exact key r h (.inr ⟨hw, .inr ⟨hl, hop⟩⟩)

theorem H.allocAt_comm (σ : H) {a b : Nat} (x y : Blk) (h : a ≠ b) : (σ.allocAt a x).allocAt b y = (σ.allocAt b y).allocAt a x := by
  unfold H.allocAt
  congr 1
  · simp only; omega
  · funext c
    simp only
    by_cases h1 : c = a
    · subst h1; simp [h]
    · by_cases h2 : c = b
      · subst h2; simp [h1]
      · simp [h1, h2]
  · funext c
    simp only
    cases (c == a) <;> cases (c == b) <;> simp

theorem adraw2 {N : Nat} {ops : Array Oper} (m e1 e2 : Nat) {t : Env} {σ : H} {Q : Env → H → Prop} (hm : P.follows .mixedOrders = true) (hd : drawOk2 N ops (Region.before ops).toList m = true) (hk : kindsOk2 ops m e1 e2 = true)
    (h : AQ2 P ops e1 e2 0 (ops.toList.take m) (.rows 0 []) (.rows 0 []) t σ fun t σ => AL P N ops (ops.toList.drop m) t σ Q) : ADraw P N ops t σ Q := by
  have hd' := hd
  unfold drawOk2 at hd'
  simp only [Bool.and_eq_true, decide_eq_true_eq] at hd'
  obtain ⟨⟨⟨⟨⟨_, hssa⟩, hguard⟩, _⟩, _⟩, hmn⟩ := hd'
  obtain ⟨T, X1, X2, a1, a2, a3, a4, a5, a6, a7⟩ := aq2_facts hssa hmn hk (ops.toList.take m) 0 t _ _ (by simp) h
  have hk' := hk
  unfold kindsOk2 at hk'
  simp only [Bool.and_eq_true, decide_eq_true_eq] at hk'
  obtain ⟨⟨he12, he2m⟩, _⟩ := hk'
  let hs : (Nat → Bool) → H := fun L => (fun h1 => if L e2 = true then H.allocAt h1 (σ.nx + 1) X2 else h1) (if L e1 = true then σ.allocAt σ.nx X1 else σ)
  have ext : ∀ L b x, σ.get b = some x → (hs L).get b = some x := by
    intro L b x hb
    have hlt := H.get_lt hb
    show ((if L e2 = true then H.allocAt (if L e1 = true then σ.allocAt σ.nx X1 else σ) (σ.nx + 1) X2 else (if L e1 = true then σ.allocAt σ.nx X1 else σ))).get b = _
    split <;> split <;> (try simp only [H.get_allocAt]) <;> (try rw [if_neg (by omega)]) <;> (try rw [if_neg (by omega)]) <;> exact hb
  have nouse : σ.use (σ.nx + 1) = false := by
    cases h : σ.use (σ.nx + 1) with
    | false => rfl
    | true => have := σ.lt _ h; omega
  refine draw_main2 (hs := hs) (T := T) hm hd (fun i hi => a1 i fun o ho => ?_) ?_ (fun L hL => ?_) (fun L hL => ?_)
  · obtain ⟨j, hj⟩ := List.getElem?_of_mem ho
    rw [List.getElem?_take] at hj
    split at hj
    · exact hi j o (by omega) (by simpa using hj)
    · simp at hj
  · intro i o L hn ho
    by_cases hi1 : i = e1
    · subst hi1
      obtain ⟨o', v, b1, b2, b3, b4⟩ := a6 (Nat.zero_le _)
      rw [ho] at b1; injection b1 with b1; subst b1
      refine .inr ⟨b2, v σ.nx, b4, .inr ⟨σ.nx, v, X1, b3, ?_, rfl, ?_⟩⟩
      · show H.use (if L e2 = true then H.allocAt (if L i = true then σ.allocAt σ.nx X1 else σ) (σ.nx + 1) X2 else (if L i = true then σ.allocAt σ.nx X1 else σ)) σ.nx = false
        rw [hn.new]
        simp only [Bool.false_eq_true, if_false]
        split
        · show (σ.nx == σ.nx + 1 || σ.use σ.nx) = false
          rw [σ.use_nx]; simp
        · exact σ.use_nx
      · show (if put1 L i e2 = true then H.allocAt (if put1 L i i = true then σ.allocAt σ.nx X1 else σ) (σ.nx + 1) X2 else (if put1 L i i = true then σ.allocAt σ.nx X1 else σ)) =
          H.allocAt (if L e2 = true then H.allocAt (if L i = true then σ.allocAt σ.nx X1 else σ) (σ.nx + 1) X2 else (if L i = true then σ.allocAt σ.nx X1 else σ)) σ.nx X1
        have p1 : put1 L i i = true := if_pos rfl
        have p2 : put1 L i e2 = L e2 := if_neg (by omega)
        rw [p1, p2, hn.new]
        simp only [Bool.false_eq_true, if_false, if_true]
        split
        · exact H.allocAt_comm σ X1 X2 (by omega)
        · rfl
    · by_cases hi2 : i = e2
      · subst hi2
        obtain ⟨o', v, b1, b2, b3, b4⟩ := a7 (Nat.zero_le _)
        rw [ho] at b1; injection b1 with b1; subst b1
        refine .inr ⟨b2, v (σ.nx + 1), b4, .inr ⟨σ.nx + 1, v, X2, b3, ?_, rfl, ?_⟩⟩
        · show H.use (if L i = true then H.allocAt (if L e1 = true then σ.allocAt σ.nx X1 else σ) (σ.nx + 1) X2 else (if L e1 = true then σ.allocAt σ.nx X1 else σ)) (σ.nx + 1) = false
          rw [hn.new]
          simp only [Bool.false_eq_true, if_false]
          split
          · show (σ.nx + 1 == σ.nx || σ.use (σ.nx + 1)) = false
            rw [nouse]; simp
          · exact nouse
        · show (if put1 L i i = true then H.allocAt (if put1 L i e1 = true then σ.allocAt σ.nx X1 else σ) (σ.nx + 1) X2 else (if put1 L i e1 = true then σ.allocAt σ.nx X1 else σ)) =
            H.allocAt (if L i = true then H.allocAt (if L e1 = true then σ.allocAt σ.nx X1 else σ) (σ.nx + 1) X2 else (if L e1 = true then σ.allocAt σ.nx X1 else σ)) (σ.nx + 1) X2
          have p1 : put1 L i i = true := if_pos rfl
          have p2 : put1 L i e1 = L e1 := if_neg (by omega)
          rw [p1, p2, hn.new]
          simp only [Bool.false_eq_true, if_false, if_true]
      · have same : hs (put1 L i) = hs L := by
          have p1 : put1 L i e1 = L e1 := if_neg (by omega)
          have p2 : put1 L i e2 = L e2 := if_neg (by omega)
          show (if put1 L i e2 = true then H.allocAt (if put1 L i e1 = true then σ.allocAt σ.nx X1 else σ) (σ.nx + 1) X2 else (if put1 L i e1 = true then σ.allocAt σ.nx X1 else σ)) = _
          rw [p1, p2]
        rcases a5 i o (Nat.zero_le _) hn.lt ho hi1 hi2 with h | ⟨h1, r, h2, h3⟩
        · exact .inl ⟨h.1, h.2, same⟩
        · refine .inr ⟨h1, r, h2, .inl ?_⟩
          rw [same]
          rcases h3 with h3 | ⟨hl, h3⟩
          · exact h3 _
          · have := aop_load_ext hl h3 (ext L)
            unfold OpAt
            split
            · rename_i f args ts hop
              rw [hop] at hl; simp [isLoad] at hl
            · exact this
  · have e : hs L = (σ.alloc X1).alloc X2 := by
      show (if L e2 = true then H.allocAt (if L e1 = true then σ.allocAt σ.nx X1 else σ) (σ.nx + 1) X2 else (if L e1 = true then σ.allocAt σ.nx X1 else σ)) = (σ.alloc X1).allocAt (σ.alloc X1).nx X2
      rw [hL e1 (by omega), hL e2 he2m, H.nx_alloc]
      rfl
    rw [e]
    refine al_sound _ _ _ _ _ (guardsOk_all hguard) ?_ a2
    apply List.ext_getElem?
    intro i
    simp only [List.getElem?_map, List.getElem?_drop]
    by_cases hi : i < ops.size - m
    · rw [List.getElem?_range' hi]
      have : m + i < ops.size := by omega
      simp [this]
    · rw [List.getElem?_eq_none (by simp; omega), List.getElem?_eq_none (by simp; omega)]; rfl
  · show (if L e2 = true then H.allocAt (if L e1 = true then σ.allocAt σ.nx X1 else σ) (σ.nx + 1) X2 else (if L e1 = true then σ.allocAt σ.nx X1 else σ)) = σ
    rw [hL e1 (by omega), hL e2 he2m]
    simp

end Go.Proofs.Ytngbibpmaofamaa.Ab

/- The abstract calculus: a drawn region where a reader may come up before or behind an effect. -/
-- AbJ
namespace Go.Proofs.Ytngbibpmaofamaa.Ab
open Go

variable {P : Program}

/-- A reader reads the same behind an effect. -/
def reO (P : Program) (t : Env) (σ : H) (x : Option Oper) : Prop := match x with
  | some o => match o.guard, o.dst with
    | none, some d => aop P t σ o.op = some (t d, σ)
    | _, _ => False
  | none => False
def re1 (P : Program) (ops : Array Oper) (q : Nat) (t : Env) (σ : H) : Prop := reO P t σ ops[q]?
@[simp] theorem re1_def (ops : Array Oper) (q : Nat) (t : Env) (σ : H) : re1 P ops q t σ = reO P t σ ops[q]? := (rfl)
@[simp] theorem reO_some (t : Env) (σ : H) (d : Tmp) (op : Op) (ty : TypeId) (pos : String) (after : Array Edge) : reO P t σ (some { dst := some d, op := op, type := ty, pos := pos, after := after, guard := none }) = (aop P t σ op = some (t d, σ)) := (rfl)
@[simp] theorem with_some_def (σ : H) (v : V) : with_ σ (some v) = some (v, σ) := (rfl)
@[simp] theorem aop_load_def (t : Env) (σ : H) (ty : TypeId) (a : Operand) : aop P t σ (.load ty a) = with_ σ (aload P σ ty (aev t a)) := (rfl)

def reK (P : Program) (ops : Array Oper) (i : Nat) (t : Env) (σ : H) : List (Nat × Nat) → Prop
  | [] => True
  | (e, q) :: R => (e = i → re1 P ops q t σ) ∧ reK P ops i t σ R

@[simp] theorem reK_nil (ops : Array Oper) (i : Nat) (t : Env) (σ : H) : reK P ops i t σ [] = True := (rfl)
@[simp] theorem reK_cons (ops : Array Oper) (i : Nat) (t : Env) (σ : H) (e q : Nat) (R : List (Nat × Nat)) : reK P ops i t σ ((e, q) :: R) = ((e = i → re1 P ops q t σ) ∧ reK P ops i t σ R) := (rfl)

theorem reK_mem {ops : Array Oper} {i : Nat} {t : Env} {σ : H} : ∀ {R : List (Nat × Nat)}, reK P ops i t σ R → ∀ {q : Nat}, (i, q) ∈ R → ∃ o d, ops[q]? = some o ∧ o.guard = none ∧ o.dst = some d ∧ aop P t σ o.op = some (t d, σ)
  | (e, p) :: R, h, q, hm => by
    rcases List.mem_cons.1 hm with hm | hm
    · injection hm with h1 h2
      subst h1; subst h2
      have h := h.1 rfl
      unfold re1 reO at h
      split at h
      · rename_i o ho
        split at h
        · rename_i d hg hd
          exact ⟨o, d, ho, hg, hd, h⟩
        · exact h.elim
      · exact h.elim
    · exact reK_mem h.2 hm

/-- The effects stand in one order; a reader stands behind those that come before it in the text; where it may come up behind one that follows, it is told. -/
def drawOk3 (N : Nat) (ops : Array Oper) (B : List Nat) (m : Nat) (E : List Nat) (R : List (Nat × Nat)) : Bool :=
  drawOk2 N ops B m && ((List.range m).all fun i => match ops[i]? with
    | some o => pureOp o.op && !E.contains i || E.all fun e => e == i || (if e < i then tested B i e else tested B e i || (!E.contains i && R.contains (e, i)))
    | none => true) && (R.all fun p => decide (p.2 < p.1)) && ascends E && E.all fun e => decide (e < m)

def AQ3 (P : Program) (ops : Array Oper) (R : List (Nat × Nat)) (E : List Nat) : Nat → List Oper → Step
  | _, [], t, σ, Q => Q t σ
  | i, o :: os, t, σ, Q => if E.contains i = true then
      wantK (wantedA ops t o) (runQ P true o.op o.dst fun t σ Q => reK P ops i t σ R ∧ AQ3 P ops R E (i + 1) os t σ Q) (skipOp o.dst fun t σ Q => reK P ops i t σ R ∧ AQ3 P ops R E (i + 1) os t σ Q) t σ Q
    else wantK (wantedA ops t o) (runQ P false o.op o.dst (AQ3 P ops R E (i + 1) os)) (skipOp o.dst (AQ3 P ops R E (i + 1) os)) t σ Q

@[simp] theorem AQ3_nil (ops : Array Oper) (R : List (Nat × Nat)) (E : List Nat) (i : Nat) (t : Env) (σ : H) (Q : Env → H → Prop) : AQ3 P ops R E i [] t σ Q = Q t σ := (rfl)
@[simp] theorem AQ3_cons (ops : Array Oper) (R : List (Nat × Nat)) (E : List Nat) (i : Nat) (o : Oper) (os : List Oper) (t : Env) (σ : H) (Q : Env → H → Prop) : AQ3 P ops R E i (o :: os) t σ Q =
    if E.contains i = true then
      wantK (wantedA ops t o) (runQ P true o.op o.dst fun t σ Q => reK P ops i t σ R ∧ AQ3 P ops R E (i + 1) os t σ Q) (skipOp o.dst fun t σ Q => reK P ops i t σ R ∧ AQ3 P ops R E (i + 1) os t σ Q) t σ Q
    else wantK (wantedA ops t o) (runQ P false o.op o.dst (AQ3 P ops R E (i + 1) os)) (skipOp o.dst (AQ3 P ops R E (i + 1) os)) t σ Q := (rfl)

/-- The facts that a formula gives of the operations from one on. -/
def Concl3 (P : Program) (ops : Array Oper) (R : List (Nat × Nat)) (m : Nat) (E : List Nat) (os : List Oper) (i : Nat) (t : Env) (σ : H) (k0 : Nat) (Q : Env → H → Prop) : Prop :=
    ∃ (T : Env) (hs : Nat → H), (∀ x, (∀ o ∈ os, o.dst ≠ some x) → T x = t x) ∧ hs k0 = σ ∧ Q T (hs E.length) ∧
      (∀ (q : Nat) o, i ≤ q → q < m → ops[q]? = some o → q ∉ E → (wantedA ops T o = some false ∧ dstIs T o (.tup [])) ∨
        (wantedA ops T o = some true ∧ ∃ r, dstIs T o r ∧ ((pureOp o.op = true ∧ ∀ τ, OpAt P T τ o.op r τ) ∨ (pureOp o.op = false ∧ ∀ k, (∀ (l : Nat) e, E[l]? = some e → (e < q ↔ l < k)) → k ≤ E.length → OpAt P T (hs k) o.op r (hs k))))) ∧
      (∀ (k e : Nat) o, i ≤ e → E[k]? = some e → ops[e]? = some o → (wantedA ops T o = some false ∧ dstIs T o (.tup []) ∧ hs (k + 1) = hs k) ∨
        (wantedA ops T o = some true ∧ ∃ r, dstIs T o r ∧ OpAt P T (hs k) o.op r (hs (k + 1)))) ∧
      (∀ (k e q : Nat), i ≤ e → E[k]? = some e → (e, q) ∈ R → ∃ o d, ops[q]? = some o ∧ o.guard = none ∧ o.dst = some d ∧ aop P T (hs (k + 1)) o.op = some (T d, hs (k + 1)))

theorem aq3_facts {N : Nat} {ops : Array Oper} {B E : List Nat} {R : List (Nat × Nat)} {m : Nat} {Q : Env → H → Prop} (hd : drawOk3 N ops B m E R = true) (hk : kindsOk ops m E = true) :
    ∀ (os : List Oper) (i : Nat) (t : Env) (σ : H) (k0 : Nat), os = (ops.toList.take m).drop i → (∀ (l : Nat) e, E[l]? = some e → (e < i ↔ l < k0)) → k0 ≤ E.length → AQ3 P ops R E i os t σ Q →
    Concl3 P ops R m E os i t σ k0 Q := by
  unfold drawOk3 drawOk2 at hd
  simp only [Bool.and_eq_true, decide_eq_true_eq] at hd
  obtain ⟨⟨⟨⟨⟨⟨⟨⟨⟨_, hssa⟩, hguard⟩, _⟩, _⟩, hmn⟩, _⟩, hRlt⟩, hasc⟩, hEn⟩ := hd
  intro os
  induction os with
  | nil =>
    intro i t σ k0 hos hE hk0 h
    have hlen : m ≤ i := by
      have := congrArg List.length hos
      simp at this
      omega
    have hk0' : k0 = E.length := by
      rcases Nat.lt_or_ge k0 E.length with h | h
      · have he : E[k0]? = some E[k0] := List.getElem?_eq_getElem h
        have : E[k0] < m := by have := List.all_eq_true.1 hEn _ (List.getElem_mem h); simpa using this
        have := (hE k0 _ he).1 (by omega)
        omega
      · omega
    refine ⟨t, fun _ => σ, fun _ _ => rfl, rfl, h, ?_, ?_, ?_⟩
    · intro q o hq hqm ho; omega
    · intro k e o hq he ho
      have : e < m := by have := List.all_eq_true.1 hEn _ (mem_of_get he); simpa using this
      omega
    · intro k e q hq he
      have : e < m := by have := List.all_eq_true.1 hEn _ (mem_of_get he); simpa using this
      omega
  | cons o os ih =>
    intro i t σ k0 hos hE hk0 h
    have at_ : ∀ k o', ((ops.toList.take m).drop k)[0]? = some o' → k < m ∧ ops[k]? = some o' := by
      intro k o' h
      rw [List.getElem?_drop, List.getElem?_take] at h
      split at h
      · exact ⟨by omega, by simpa using h⟩
      · simp at h
    obtain ⟨hin, ho⟩ := at_ i o (by rw [← hos]; rfl)
    have hos' : os = (ops.toList.take m).drop (i + 1) := by
      have := congrArg List.tail hos
      simp only [List.tail_cons, List.tail_drop] at this
      exact this
    have ssa : ∀ j oj d, j < m → ops[j]? = some oj → oj.dst = some d → (i = j ∨ o.dst ≠ some d) ∧ (d ∈ looks ops o → j < i) := by
      have h1 := all_range hssa hin
      simp only [ho, Bool.and_eq_true] at h1
      intro j oj d hjn hj hdj
      have h2 := all_range h1.2 hjn
      simp only [hj, Option.bind_some, hdj, Bool.and_eq_true, Bool.or_eq_true, beq_iff_eq, bne_iff_ne, Bool.not_eq_true', decide_eq_true_eq] at h2
      refine ⟨h2.1, fun hm => ?_⟩
      rcases h2.2 with h | h
      · have : (looks ops o).contains d = true := by simpa using hm
        rw [this] at h; simp at h
      · exact h.2
    have later : ∀ d, d ∈ looks ops o → ∀ o' ∈ o :: os, o'.dst ≠ some d := by
      intro d hd o' ho' hd'
      rw [hos] at ho'
      obtain ⟨n, hn⟩ := List.getElem?_of_mem ho'
      obtain ⟨hl, hm'⟩ := at_ (i + n) o' (by rw [List.getElem?_drop] at hn ⊢; exact hn)
      have := (ssa (i + n) o' d hl hm' hd').2 hd
      omega
    have own : ∀ d, o.dst = some d → ∀ o' ∈ os, o'.dst ≠ some d := by
      intro d hd o' ho' hd'
      rw [hos'] at ho'
      obtain ⟨n, hn⟩ := List.getElem?_of_mem ho'
      obtain ⟨hl, hm'⟩ := at_ (i + 1 + n) o' (by rw [List.getElem?_drop] at hn ⊢; exact hn)
      rcases (ssa (i + 1 + n) o' d hl hm' hd').1 with h | h
      · omega
      · exact h hd
    -- whatever T agrees with t but for what is to come: the operation looks alike
    have alike : ∀ T : Env, (∀ x, (∀ o' ∈ o :: os, o'.dst ≠ some x) → T x = t x) → (∀ x ∈ o.op.operands, aev t x = aev T x) ∧ wantedA ops t o = wantedA ops T o := by
      intro T hT
      constructor
      · intro x hx
        cases x with
        | tmp d => exact (hT d (later d (List.mem_append_left _ (List.mem_filterMap.2 ⟨.tmp d, by simpa using hx, rfl⟩)))).symm
        | _ => rfl
      · unfold wantedA
        cases hg : o.guard with
        | none => rfl
        | some jb =>
          obtain ⟨j, b⟩ := jb
          simp only
          cases hj : ops[j]? with
          | none => rfl
          | some oj =>
            simp only
            cases hjd : oj.dst with
            | none => rfl
            | some d => simp only [hT d (later d (List.mem_append_right _ (by simp [hg, hj, hjd])))]
    have agree : ∀ (T : Env) (r : V), (∀ x, (∀ o' ∈ os, o'.dst ≠ some x) → T x = putd t o.dst r x) → (∀ x, (∀ o' ∈ o :: os, o'.dst ≠ some x) → T x = t x) ∧ dstIs T o r := by
      intro T r hT
      constructor
      · intro x hx
        rw [hT x fun o' ho' => hx o' (List.mem_cons_of_mem _ ho')]
        cases hd : o.dst with
        | none => rfl
        | some d => exact upd_ne _ _ (fun e => hx o (List.mem_cons_self ..) (by rw [hd, e]))
      · intro d hd
        rw [hT d (own d hd), hd]
        exact upd_same _ _ _
    have alikeAt : ∀ (q : Nat) (oq : Oper), q < i → ops[q]? = some oq → ∀ (d : Tmp), (.tmp d) ∈ oq.op.operands ∨ oq.dst = some d → ∀ o' ∈ o :: os, o'.dst ≠ some d := by
      intro q oq hqi hoq d hdq o' ho' hd'
      rw [hos] at ho'
      obtain ⟨n, hn⟩ := List.getElem?_of_mem ho'
      obtain ⟨hl, hm'⟩ := at_ (i + n) o' (by rw [List.getElem?_drop] at hn ⊢; exact hn)
      have h1 := all_range hssa (show q < m by omega)
      simp only [hoq, Bool.and_eq_true] at h1
      have h2 := all_range h1.2 hl
      simp only [hm', Option.bind_some, hd', Bool.and_eq_true, Bool.or_eq_true, beq_iff_eq, bne_iff_ne, Bool.not_eq_true', decide_eq_true_eq] at h2
      rcases hdq with hx | hx
      · rcases h2.2 with h | h
        · have : (looks ops oq).contains d = true := by
            have hm : d ∈ looks ops oq := List.mem_append_left _ (List.mem_filterMap.2 ⟨.tmp d, by simpa using hx, rfl⟩)
            simpa using hm
          rw [this] at h; simp at h
        · omega
      · rcases h2.1 with h | h
        · omega
        · exact h hx
    have uniq : ∀ k, (∀ (l : Nat) e, E[l]? = some e → (e < i ↔ l < k)) → k ≤ E.length → k = k0 := by
      intro k hk' hkl
      rcases Nat.lt_trichotomy k k0 with h | h | h
      · have he : E[k]? = some (E[k]'(by omega)) := List.getElem?_eq_getElem _
        have h1 := (hE k _ he).2 h
        have h2 := (hk' k _ he).1 h1
        omega
      · exact h
      · have he : E[k0]? = some (E[k0]'(by omega)) := List.getElem?_eq_getElem _
        have h1 := (hk' k0 _ he).2 h
        have h2 := (hE k0 _ he).1 h1
        omega
    simp only [AQ3] at h
    by_cases hiE : i ∈ E
    · obtain ⟨l, hlE⟩ := List.getElem?_of_mem hiE
      have hll := lt_of_get hlE
      have hlk : l = k0 := by
        have h3 : ¬ l < k0 := fun h => by have := (hE l i hlE).2 h; omega
        rcases Nat.lt_or_ge k0 l with h | h
        · exfalso
          have he : E[k0]? = some (E[k0]'(by omega)) := List.getElem?_eq_getElem _
          have := (hE k0 _ he).1 (ascends_lt hasc he hlE h)
          omega
        · omega
      subst hlk
      have hE' : ∀ (l' : Nat) e, E[l']? = some e → (e < i + 1 ↔ l' < l + 1) := by
        intro l' e he
        have h1 := hE l' e he
        by_cases e1 : e = i
        · subst e1
          have : l' = l := by
            rcases Nat.lt_trichotomy l' l with h | h | h
            · have := ascends_lt hasc he hlE h; omega
            · exact h
            · have := ascends_lt hasc hlE he h; omega
          omega
        · have : l' ≠ l := by intro h; subst h; rw [hlE] at he; injection he with he; exact e1 he.symm
          omega
      have cont : E.contains i = true := by simpa using hiE
      -- the result and the heap behind it
      have key : ∀ (r : V) (σ' : H), (reK P ops i (putd t o.dst r) σ' R ∧ AQ3 P ops R E (i + 1) os (putd t o.dst r) σ' Q) → ((wantedA ops t o = some false ∧ r = .tup [] ∧ σ' = σ) ∨ (wantedA ops t o = some true ∧ OpAt P t σ o.op r σ')) → Concl3 P ops R m E (o :: os) i t σ l Q := by
        intro r σ' hrest0 hop
        obtain ⟨hre, hrest⟩ := hrest0
        obtain ⟨T, hs, a1, a2, a3, a4, a5, a6⟩ := ih (i + 1) (putd t o.dst r) σ' (l + 1) hos' hE' (by omega) hrest
        obtain ⟨b1, b2⟩ := agree T r a1
        obtain ⟨c1, c2⟩ := alike T b1
        refine ⟨T, fun k => if k = l then σ else hs k, b1, if_pos rfl, ?_, ?_, ?_, ?_⟩
        · show Q T (if E.length = l then σ else hs E.length)
          rw [if_neg (by omega)]; exact a3
        · intro q oq hq hqm hoq hqE
          have hq' : i + 1 ≤ q := by
            rcases Nat.lt_or_ge i q with h | h
            · exact h
            · have : q = i := by omega
              subst this; exact absurd hiE hqE
          rcases a4 q oq hq' hqm hoq hqE with h | ⟨h1, r', h2, h3⟩
          · exact .inl h
          · refine .inr ⟨h1, r', h2, ?_⟩
            rcases h3 with h3 | ⟨hpf, h3⟩
            · exact .inl h3
            · refine .inr ⟨hpf, fun k hk' hkl => ?_⟩
              have : l < k := (hk' l i hlE).1 (by omega)
              show OpAt P T (if k = l then σ else hs k) oq.op r' (if k = l then σ else hs k)
              rw [if_neg (by omega)]
              exact h3 k hk' hkl
        · intro k e oe he hke hoe
          by_cases e1 : e = i
          · subst e1
            have : k = l := by
              rcases Nat.lt_trichotomy k l with h | h | h
              · have := ascends_lt hasc hke hlE h; omega
              · exact h
              · have := ascends_lt hasc hlE hke h; omega
            subst this
            rw [ho] at hoe; injection hoe with hoe; subst hoe
            simp only [if_true, show ¬ (k + 1 = k) by omega, if_false, a2]
            rcases hop with ⟨x1, x2, x3⟩ | ⟨x1, x2⟩
            · exact .inl ⟨by rw [← c2]; exact x1, by rw [← x2]; exact b2, x3⟩
            · exact .inr ⟨by rw [← c2]; exact x1, r, b2, opAt_congr c1 x2⟩
          · have hk2 : k ≠ l := by intro h; subst h; rw [hlE] at hke; injection hke with hke; exact e1 hke.symm
            have hkl : l < k := by
              rcases Nat.lt_trichotomy k l with h | h | h
              · have := ascends_lt hasc hke hlE h; omega
              · exact absurd h hk2
              · exact h
            simp only [hk2, show ¬ (k + 1 = l) by omega, if_false]
            exact a5 k e oe (by omega) hke hoe
        · intro k e q he hke hR
          by_cases e1 : e = i
          · subst e1
            have : k = l := by
              rcases Nat.lt_trichotomy k l with h | h | h
              · have := ascends_lt hasc hke hlE h; omega
              · exact h
              · have := ascends_lt hasc hlE hke h; omega
            subst this
            simp only [show ¬ (k + 1 = k) by omega, if_false, a2]
            have hqe : q < e := by have := List.all_eq_true.1 hRlt _ hR; simpa using this
            obtain ⟨oq, d, g1, g2, g3, g4⟩ := reK_mem hre hR
            have hTt : ∀ x, (.tmp x) ∈ oq.op.operands ∨ oq.dst = some x → T x = putd t o.dst r x := by
              intro x hx
              exact a1 x fun o' ho' => alikeAt q oq hqe g1 x hx o' (List.mem_cons_of_mem _ ho')
            refine ⟨oq, d, g1, g2, g3, ?_⟩
            rw [hTt d (.inr g3), ← g4]
            refine aop_congr fun x hx => ?_
            cases x with
            | tmp d' => exact hTt d' (.inl (by simpa using hx))
            | _ => rfl
          · have hk2 : k ≠ l := by intro h; subst h; rw [hlE] at hke; injection hke with hke; exact e1 hke.symm
            have hkl : l < k := by
              rcases Nat.lt_trichotomy k l with h | h | h
              · have := ascends_lt hasc hke hlE h; omega
              · exact absurd h hk2
              · exact h
            simp only [show ¬ (k + 1 = l) by omega, if_false]
            exact a6 k e q (by omega) hke hR
      rw [if_pos cont] at h
      cases hw : wantedA ops t o with
      | none => rw [hw] at h; exact h.elim
      | some b =>
        rw [hw] at h
        cases b with
        | false => exact key (.tup []) σ h (.inl ⟨hw, rfl, rfl⟩)
        | true =>
          simp only [wantK_true, runQ, cont] at h
          split at h
          · rename_i f args ts hop
            simp only [if_true] at h
            cases hf : aev t f with
            | fn g caps =>
              rw [hf] at h
              obtain ⟨hc, r, σ', hrun, hrest⟩ := h
              refine key r σ' hrest (.inr ⟨hw, ?_⟩)
              rw [hop]
              exact ⟨g, caps, hf, hc, hrun⟩
            | _ => rw [hf] at h; exact h.elim
          · rename_i hno
            cases hop : aop P t σ o.op with
            | none => rw [hop] at h; exact h.elim
            | some vs =>
              obtain ⟨r, σ'⟩ := vs
              rw [hop] at h
              refine key r σ' h (.inr ⟨hw, ?_⟩)
              unfold OpAt
              split
              · rename_i f args ts hop2
                exact absurd hop2 (hno f args ts)
              · exact hop
    · have hE' : ∀ (l' : Nat) e, E[l']? = some e → (e < i + 1 ↔ l' < k0) := by
        intro l' e he
        have h1 := hE l' e he
        have : e ≠ i := by intro h; subst h; exact hiE (mem_of_get he)
        omega
      have cont : E.contains i = false := by simpa using hiE
      have kind : pureOp o.op = true ∨ isLoad o.op = true := by
        have := all_range hk hin
        simp only [ho, cont, Bool.false_or, Bool.or_eq_true] at this
        exact this
      have key : ∀ (r : V), AQ3 P ops R E (i + 1) os (putd t o.dst r) σ Q → ((wantedA ops t o = some false ∧ r = .tup []) ∨ (wantedA ops t o = some true ∧ ((pureOp o.op = true ∧ ∀ τ, OpAt P t τ o.op r τ) ∨ (pureOp o.op = false ∧ OpAt P t σ o.op r σ)))) → Concl3 P ops R m E (o :: os) i t σ k0 Q := by
        intro r hrest hop
        obtain ⟨T, hs, a1, a2, a3, a4, a5, a6⟩ := ih (i + 1) (putd t o.dst r) σ k0 hos' hE' hk0 hrest
        obtain ⟨b1, b2⟩ := agree T r a1
        obtain ⟨c1, c2⟩ := alike T b1
        refine ⟨T, hs, b1, a2, a3, ?_, ?_, ?_⟩
        · intro q oq hq hqm hoq hqE
          by_cases e1 : q = i
          · subst e1
            rw [ho] at hoq; injection hoq with hoq; subst hoq
            rcases hop with ⟨x1, x2⟩ | ⟨x1, x2⟩
            · exact .inl ⟨by rw [← c2]; exact x1, by rw [← x2]; exact b2⟩
            · refine .inr ⟨by rw [← c2]; exact x1, r, b2, ?_⟩
              rcases x2 with ⟨y1, y2⟩ | ⟨y0, y⟩
              · exact .inl ⟨y1, fun τ => opAt_congr c1 (y2 τ)⟩
              · refine .inr ⟨y0, fun k hk' hkl => ?_⟩
                have := uniq k hk' hkl
                subst this
                rw [a2]
                exact opAt_congr c1 y
          · exact a4 q oq (by omega) hqm hoq hqE
        · intro k e oe he hke hoe
          have : e ≠ i := by intro h; subst h; exact hiE (mem_of_get hke)
          exact a5 k e oe (by omega) hke hoe
        · intro k e q he hke hR
          have : e ≠ i := by intro h; subst h; exact hiE (mem_of_get hke)
          exact a6 k e q (by omega) hke hR
      rw [if_neg (by rw [cont]; simp)] at h
      cases hw : wantedA ops t o with
      | none => rw [hw] at h; exact h.elim
      | some b =>
        rw [hw] at h
        cases b with
        | false => exact key (.tup []) h (.inl ⟨hw, rfl⟩)
        | true =>
          simp only [wantK_true, runQ, cont] at h
          split at h
          · rename_i f args ts hop
            simp only [Bool.false_eq_true, if_false] at h
            cases hf : aev t f with
            | fn g caps =>
              rw [hf] at h
              obtain ⟨hc, r, hrun, hpure, hrest⟩ := h
              refine key r hrest (.inr ⟨hw, .inl ⟨by rw [hop]; rfl, fun τ => ?_⟩⟩)
              rw [hop]
              exact ⟨g, caps, hf, hc, (Run.of_pure (σ := τ) hrun hpure).mono fun r' σ2 ⟨e1, _, e2⟩ => ⟨e2, e1⟩⟩
            | _ => rw [hf] at h; exact h.elim
          · rename_i hno
            have hcall : isCall o.op = false := by
              cases hop : o.op with
              | call c =>
                obtain ⟨callee, args, ts⟩ := c
                cases callee with
                | value f => exact absurd hop (hno f args ts)
                | _ => rfl
              | _ => rfl
            have opat : ∀ τ τ' r, aop P t τ o.op = some (r, τ') → OpAt P t τ o.op r τ' := by
              intro τ τ' r hop
              unfold OpAt
              split
              · rename_i f args ts hop2
                exact absurd hop2 (hno f args ts)
              · exact hop
            cases hop : aop P t σ o.op with
            | none => rw [hop] at h; exact h.elim
            | some vs =>
              obtain ⟨r, σ'⟩ := vs
              rw [hop] at h
              rcases kind with hp | hl
              · obtain ⟨e1, _⟩ := aop_pure (τ := σ) hp hcall hop
                subst e1
                exact key r h (.inr ⟨hw, .inl ⟨hp, fun τ => opat τ τ r (aop_pure hp hcall hop).2⟩⟩)
              · have e1 := aop_load hl hop
                subst e1
                exact key r h (.inr ⟨hw, .inr ⟨load_not_pure hl, opat _ _ r hop⟩⟩)

theorem prefix_count : ∀ {l : List Nat} {p : Nat → Bool}, (∀ (i j : Nat) a b, l[i]? = some a → l[j]? = some b → i < j → p b = true → p a = true) → ∀ (i : Nat) a, l[i]? = some a → (p a = true ↔ i < (l.filter p).length)
  | [], _, _, i, a, h => by simp at h
  | x :: l, p, hd, i, a, h => by
    have ih := prefix_count (l := l) (p := p) fun i j a b h1 h2 h3 => hd (i + 1) (j + 1) a b (by simpa using h1) (by simpa using h2) (by omega)
    cases hx : p x with
    | true =>
      rw [List.filter_cons, if_pos hx, List.length_cons]
      cases i with
      | zero => simp at h; subst h; simp [hx]
      | succ i =>
        rw [ih i a (by simpa using h)]
        omega
    | false =>
      have hall : ∀ y ∈ l, p y = false := by
        intro y hy
        obtain ⟨j, hj⟩ := List.getElem?_of_mem hy
        cases hpy : p y with
        | false => rfl
        | true => have := hd 0 (j + 1) x y rfl (by simpa using hj) (by omega) hpy; rw [hx] at this; simp at this
      have hnil : l.filter p = [] := List.filter_eq_nil_iff.2 fun y hy => by rw [hall y hy]; simp
      rw [List.filter_cons, if_neg (by rw [hx]; simp), hnil]
      have ha : p a = false := by
        cases i with
        | zero => simp at h; subst h; exact hx
        | succ i => exact hall a (List.mem_of_getElem? (by simpa using h))
      simp [ha]

theorem adraw3 {N : Nat} {ops : Array Oper} (m : Nat) (E : List Nat) (R : List (Nat × Nat)) {t : Env} {σ : H} {Q : Env → H → Prop} (hm : P.follows .mixedOrders = true) (hd : drawOk3 N ops (Region.before ops).toList m E R = true) (hk : kindsOk ops m E = true)
    (h : AQ3 P ops R E 0 (ops.toList.take m) t σ fun t σ => AL P N ops (ops.toList.drop m) t σ Q) : ADraw P N ops t σ Q := by
  obtain ⟨T, hs, a1, a2, a3, a4, a5, a6⟩ := aq3_facts hd hk (ops.toList.take m) 0 t σ 0 (by simp) (by intro l e _; simp) (Nat.zero_le _) h
  have hd' := hd
  unfold drawOk3 at hd'
  simp only [Bool.and_eq_true, decide_eq_true_eq] at hd'
  obtain ⟨⟨⟨⟨hd2, heff⟩, hRlt⟩, hasc⟩, hEn⟩ := hd'
  have hd3 := hd2
  unfold drawOk2 at hd3
  simp only [Bool.and_eq_true, decide_eq_true_eq] at hd3
  obtain ⟨⟨⟨⟨⟨_, _⟩, hguard⟩, _⟩, _⟩, hmn⟩ := hd3
  have hEm : ∀ e ∈ E, e < m := fun e he => by have := List.all_eq_true.1 hEn e he; simpa using this
  generalize (Region.before ops).toList = B at *
  have eff : ∀ i o, i < m → ops[i]? = some o → (pureOp o.op = true ∧ i ∉ E) ∨ ∀ e ∈ E, e = i ∨ (e < i ∧ tested B i e = true) ∨ (i < e ∧ (tested B e i = true ∨ i ∉ E ∧ (e, i) ∈ R)) := by
    intro i o hi ho
    have h1 := all_range heff hi
    simp only [ho, Bool.or_eq_true, Bool.and_eq_true, Bool.not_eq_true', List.all_eq_true] at h1
    rcases h1 with h | h
    · refine .inl ⟨h.1, fun hm => ?_⟩
      have : E.contains i = true := by simpa using hm
      rw [this] at h; simp at h
    · refine .inr fun e he => ?_
      have := h e he
      simp only [beq_iff_eq] at this
      rcases this with h | h
      · exact .inl h
      · by_cases hlt : e < i
        · rw [if_pos hlt] at h; exact .inr (.inl ⟨hlt, h⟩)
        · rw [if_neg hlt] at h
          by_cases he2 : e = i
          · exact .inl he2
          · refine .inr (.inr ⟨by omega, ?_⟩)
            simp only [Bool.or_eq_true, Bool.and_eq_true, Bool.not_eq_true'] at h
            rcases h with h | ⟨h1, h2⟩
            · exact .inl h
            · refine .inr ⟨fun hm => ?_, by simpa using h2⟩
              have : E.contains i = true := by simpa using hm
              rw [this] at h1; simp at h1
  have chain : ∀ {L : Nat → Bool} {i : Nat}, Next ops B m L i → ∀ (l : Nat) e, E[l]? = some e → (L e = true ↔ l < (E.filter L).length) := by
    intro L i hn
    refine prefix_count fun x y a b ha hb hxy hL => ?_
    have hab := ascends_lt hasc ha hb hxy
    have hbm := hEm b (mem_of_get hb)
    have hob : ops[b]? = some (ops[b]'(by omega)) := Array.getElem?_eq_getElem _
    rcases eff b _ hbm hob with ⟨_, h⟩ | h
    · exact absurd (mem_of_get hb) h
    · rcases h a (mem_of_get ha) with h | ⟨_, h⟩ | ⟨h, _⟩
      · omega
      · exact hn.cl b a (by omega) (by omega) hL h
      · omega
  refine draw_main2 (hs := fun L => hs (E.filter L).length) (T := T) hm hd2 (fun i hi => a1 i fun o ho => ?_) ?_ (fun L hL => ?_) (fun L hL => ?_)
  · obtain ⟨j, hj⟩ := List.getElem?_of_mem ho
    rw [List.getElem?_take] at hj
    split at hj
    · exact hi j o (by omega) (by simpa using hj)
    · simp at hj
  · intro i o L hn ho
    have hch := chain hn
    have him := hn.lt
    by_cases hiE : i ∈ E
    · obtain ⟨l, hl⟩ := List.getElem?_of_mem hiE
      have hcnt : (E.filter L).length = l := by
        have h1 : ¬ l < (E.filter L).length := fun h => by have := (hch l i hl).2 h; rw [hn.new] at this; simp at this
        rcases Nat.lt_or_ge (E.filter L).length l with h | h
        · exfalso
          have hll := lt_of_get hl
          have he : E[(E.filter L).length]? = some (E[(E.filter L).length]'(by omega)) := List.getElem?_eq_getElem _
          have hlt := ascends_lt hasc he hl h
          have hem := hEm _ (mem_of_get he)
          rcases eff i o him ho with ⟨_, h'⟩ | h'
          · exact absurd hiE h'
          · rcases h' _ (mem_of_get he) with h2 | ⟨_, h2⟩ | ⟨h2, _⟩
            · omega
            · have := (hch _ _ he).1 (hn.pre _ (by omega) h2); omega
            · omega
        · omega
      have hcnt' : (E.filter (put1 L i)).length = l + 1 := by
        have hnd : ∀ {x y : Nat}, E[x]? = some i → E[y]? = some i → x = y := by
          intro x y hx hy
          rcases Nat.lt_trichotomy x y with h | h | h
          · have := ascends_lt hasc hx hy h; omega
          · exact h
          · have := ascends_lt hasc hy hx h; omega
        have hdown : ∀ (x y : Nat) a b, E[x]? = some a → E[y]? = some b → x < y → put1 L i b = true → put1 L i a = true := by
          intro x y a b ha hb hxy hp
          unfold put1 at hp ⊢
          by_cases e1 : a = i
          · rw [if_pos e1]
          · rw [if_neg e1]
            by_cases e2 : b = i
            · subst e2
              have := hnd hb hl
              exact (hch x a ha).2 (by omega)
            · rw [if_neg e2] at hp
              have := (hch y b hb).1 hp
              exact (hch x a ha).2 (by omega)
        have hp := prefix_count hdown
        have h1 := (hp l i hl).1 (if_pos rfl)
        rcases Nat.lt_or_ge (l + 1) (E.filter (put1 L i)).length with h | h
        · exfalso
          have hlen : (E.filter (put1 L i)).length ≤ E.length := List.length_filter_le _ _
          have he : E[l + 1]? = some (E[l + 1]'(by omega)) := List.getElem?_eq_getElem _
          have h2 := (hp _ _ he).2 h
          unfold put1 at h2
          rw [if_neg (fun e => by rw [e] at he; have := hnd he hl; omega)] at h2
          have := (hch _ _ he).1 h2
          omega
        · omega
      simp only [hcnt, hcnt']
      rcases a5 l i o (Nat.zero_le _) hl ho with ⟨x1, x2, x3⟩ | ⟨x1, r, x2, x3⟩
      · exact .inl ⟨x1, x2, x3⟩
      · exact .inr ⟨x1, r, x2, .inl x3⟩
    · have same : (E.filter (put1 L i)) = E.filter L := by
        apply List.filter_congr
        intro e he
        unfold put1
        rw [if_neg (fun (h : e = i) => hiE (h ▸ he))]
      simp only [same]
      have hkl : (E.filter L).length ≤ E.length := List.length_filter_le _ _
      rcases a4 i o (Nat.zero_le _) him ho hiE with h | ⟨h1, r, h2, h3⟩
      · exact .inl ⟨h.1, h.2, trivial⟩
      · refine .inr ⟨h1, r, h2, .inl ?_⟩
        rcases h3 with ⟨_, h3⟩ | ⟨hpf, h3⟩
        · exact h3 _
        · have heff' : ∀ e ∈ E, e = i ∨ (e < i ∧ tested B i e = true) ∨ (i < e ∧ (tested B e i = true ∨ i ∉ E ∧ (e, i) ∈ R)) := by
            rcases eff i o him ho with ⟨hp, _⟩ | h
            · rw [hpf] at hp; simp at hp
            · exact h
          by_cases hex : ∀ (l : Nat) e, E[l]? = some e → (e < i ↔ l < (E.filter L).length)
          · exact h3 _ hex hkl
          · -- an effect that follows has been done
            have h5 : ∃ (l : Nat) (e : Nat), E[l]? = some e ∧ ¬ (e < i ↔ l < (E.filter L).length) := by
              apply Classical.byContradiction
              intro hno
              apply hex
              intro l e he
              exact Classical.byContradiction fun hne => hno ⟨l, e, he, hne⟩
            obtain ⟨l, e, he, hne⟩ := h5
            have hem := hEm e (mem_of_get he)
            have hlast : l < (E.filter L).length ∧ i < e := by
              rcases heff' e (mem_of_get he) with h | ⟨h, h'⟩ | ⟨h, _⟩
              · exact absurd (h ▸ mem_of_get he) hiE
              · exact absurd ⟨fun _ => (hch l e he).1 (hn.pre e (by omega) h'), fun _ => h⟩ hne
              · refine ⟨?_, h⟩
                rcases Nat.lt_or_ge l (E.filter L).length with h'' | h''
                · exact h''
                · exact absurd ⟨fun x => by omega, fun x => by omega⟩ hne
            -- the last that has been done
            obtain ⟨k, hk1⟩ : ∃ k, (E.filter L).length = k + 1 := ⟨(E.filter L).length - 1, by omega⟩
            have hke : E[k]? = some (E[k]'(by omega)) := List.getElem?_eq_getElem _
            have hLk := (hch k _ hke).2 (by omega)
            have hik : i < E[k]'(by omega) := by
              rcases Nat.lt_or_ge l k with h | h
              · have := ascends_lt hasc he hke h; omega
              · have : l = k := by omega
                subst this
                rw [hke] at he; injection he with he
                omega
            have hmk := hEm _ (mem_of_get hke)
            rcases heff' _ (mem_of_get hke) with h | ⟨h, _⟩ | ⟨_, h⟩
            · omega
            · omega
            · rcases h with h | ⟨_, h⟩
              · have := hn.cl _ i (by omega) (by omega) hLk h
                rw [hn.new] at this; simp at this
              · obtain ⟨o', d, g1, g2, g3, g4⟩ := a6 k _ i (Nat.zero_le _) hke h
                rw [ho] at g1; injection g1 with g1; subst g1
                rw [h2 d g3] at g4
                rw [hk1]
                unfold OpAt
                split
                · rename_i f args ts hop
                  rw [hop] at hpf; simp [pureOp] at hpf
                · exact g4
  · have e : (E.filter L).length = E.length := by
      rw [List.filter_eq_self.2 fun e he => hL e (hEm e he)]
    simp only [e]
    refine al_sound _ _ _ _ _ (guardsOk_all hguard) ?_ a3
    apply List.ext_getElem?
    intro i
    simp only [List.getElem?_map, List.getElem?_drop]
    by_cases hi : i < ops.size - m
    · rw [List.getElem?_range' hi]
      have : m + i < ops.size := by omega
      simp [this]
    · rw [List.getElem?_eq_none (by simp; omega), List.getElem?_eq_none (by simp; omega)]; rfl
  · have e : E.filter L = [] := List.filter_eq_nil_iff.2 fun e he => by rw [hL e (hEm e he)]; simp
    simp only [e]
    exact a2

end Go.Proofs.Ytngbibpmaofamaa.Ab

/- The abstract calculus: a drawn region that lays out two blocks and then writes. -/
-- AbK
namespace Go.Proofs.Ytngbibpmaofamaa.Ab
open Go

variable {P : Program}

theorem aq4_facts {N : Nat} {ops : Array Oper} {B E : List Nat} {m s : Nat} {Q : Env → H → Prop} (hssa : ssaOk N ops B m = true) (hmn : m ≤ ops.size) (hasc : ascends E = true) (hEn : (E.all fun e => decide (e < m)) = true) (hk : ∀ i o, s ≤ i → i < m → ops[i]? = some o → i ∉ E → pureOp o.op = true) :
    ∀ (os : List Oper) (i : Nat) (t : Env) (σ : H) (k0 : Nat), s ≤ i → os = (ops.toList.take m).drop i → (∀ (l : Nat) e, E[l]? = some e → (e < i ↔ l < k0)) → k0 ≤ E.length → AQ P ops E i os t σ Q →
    Concl P ops m E os i t σ k0 Q := by
  intro os
  induction os with
  | nil =>
    intro i t σ k0 hsi hos hE hk0 h
    have hlen : m ≤ i := by
      have := congrArg List.length hos
      simp at this
      omega
    have hk0' : k0 = E.length := by
      rcases Nat.lt_or_ge k0 E.length with h | h
      · have he : E[k0]? = some E[k0] := List.getElem?_eq_getElem h
        have : E[k0] < m := by have := List.all_eq_true.1 hEn _ (List.getElem_mem h); simpa using this
        have := (hE k0 _ he).1 (by omega)
        omega
      · omega
    refine ⟨t, fun _ => σ, fun _ _ => rfl, rfl, h, ?_, ?_⟩
    · intro q o hq hqm ho; omega
    · intro k e o hq he ho
      have : e < m := by have := List.all_eq_true.1 hEn _ (mem_of_get he); simpa using this
      omega
  | cons o os ih =>
    intro i t σ k0 hsi hos hE hk0 h
    have at_ : ∀ k o', ((ops.toList.take m).drop k)[0]? = some o' → k < m ∧ ops[k]? = some o' := by
      intro k o' h
      rw [List.getElem?_drop, List.getElem?_take] at h
      split at h
      · exact ⟨by omega, by simpa using h⟩
      · simp at h
    obtain ⟨hin, ho⟩ := at_ i o (by rw [← hos]; rfl)
    have hos' : os = (ops.toList.take m).drop (i + 1) := by
      have := congrArg List.tail hos
      simp only [List.tail_cons, List.tail_drop] at this
      exact this
    have ssa : ∀ j oj d, j < m → ops[j]? = some oj → oj.dst = some d → (i = j ∨ o.dst ≠ some d) ∧ (d ∈ looks ops o → j < i) := by
      have h1 := all_range hssa hin
      simp only [ho, Bool.and_eq_true] at h1
      intro j oj d hjn hj hdj
      have h2 := all_range h1.2 hjn
      simp only [hj, Option.bind_some, hdj, Bool.and_eq_true, Bool.or_eq_true, beq_iff_eq, bne_iff_ne, Bool.not_eq_true', decide_eq_true_eq] at h2
      refine ⟨h2.1, fun hm => ?_⟩
      rcases h2.2 with h | h
      · have : (looks ops o).contains d = true := by simpa using hm
        rw [this] at h; simp at h
      · exact h.2
    have later : ∀ d, d ∈ looks ops o → ∀ o' ∈ o :: os, o'.dst ≠ some d := by
      intro d hd o' ho' hd'
      rw [hos] at ho'
      obtain ⟨n, hn⟩ := List.getElem?_of_mem ho'
      obtain ⟨hl, hm'⟩ := at_ (i + n) o' (by rw [List.getElem?_drop] at hn ⊢; exact hn)
      have := (ssa (i + n) o' d hl hm' hd').2 hd
      omega
    have own : ∀ d, o.dst = some d → ∀ o' ∈ os, o'.dst ≠ some d := by
      intro d hd o' ho' hd'
      rw [hos'] at ho'
      obtain ⟨n, hn⟩ := List.getElem?_of_mem ho'
      obtain ⟨hl, hm'⟩ := at_ (i + 1 + n) o' (by rw [List.getElem?_drop] at hn ⊢; exact hn)
      rcases (ssa (i + 1 + n) o' d hl hm' hd').1 with h | h
      · omega
      · exact h hd
    -- whatever T agrees with t but for what is to come: the operation looks alike
    have alike : ∀ T : Env, (∀ x, (∀ o' ∈ o :: os, o'.dst ≠ some x) → T x = t x) → (∀ x ∈ o.op.operands, aev t x = aev T x) ∧ wantedA ops t o = wantedA ops T o := by
      intro T hT
      constructor
      · intro x hx
        cases x with
        | tmp d => exact (hT d (later d (List.mem_append_left _ (List.mem_filterMap.2 ⟨.tmp d, by simpa using hx, rfl⟩)))).symm
        | _ => rfl
      · unfold wantedA
        cases hg : o.guard with
        | none => rfl
        | some jb =>
          obtain ⟨j, b⟩ := jb
          simp only
          cases hj : ops[j]? with
          | none => rfl
          | some oj =>
            simp only
            cases hjd : oj.dst with
            | none => rfl
            | some d => simp only [hT d (later d (List.mem_append_right _ (by simp [hg, hj, hjd])))]
    have agree : ∀ (T : Env) (r : V), (∀ x, (∀ o' ∈ os, o'.dst ≠ some x) → T x = putd t o.dst r x) → (∀ x, (∀ o' ∈ o :: os, o'.dst ≠ some x) → T x = t x) ∧ dstIs T o r := by
      intro T r hT
      constructor
      · intro x hx
        rw [hT x fun o' ho' => hx o' (List.mem_cons_of_mem _ ho')]
        cases hd : o.dst with
        | none => rfl
        | some d => exact upd_ne _ _ (fun e => hx o (List.mem_cons_self ..) (by rw [hd, e]))
      · intro d hd
        rw [hT d (own d hd), hd]
        exact upd_same _ _ _
    have uniq : ∀ k, (∀ (l : Nat) e, E[l]? = some e → (e < i ↔ l < k)) → k ≤ E.length → k = k0 := by
      intro k hk' hkl
      rcases Nat.lt_trichotomy k k0 with h | h | h
      · have he : E[k]? = some (E[k]'(by omega)) := List.getElem?_eq_getElem _
        have h1 := (hE k _ he).2 h
        have h2 := (hk' k _ he).1 h1
        omega
      · exact h
      · have he : E[k0]? = some (E[k0]'(by omega)) := List.getElem?_eq_getElem _
        have h1 := (hk' k0 _ he).2 h
        have h2 := (hE k0 _ he).1 h1
        omega
    simp only [AQ] at h
    by_cases hiE : i ∈ E
    · obtain ⟨l, hlE⟩ := List.getElem?_of_mem hiE
      have hll := lt_of_get hlE
      have hlk : l = k0 := by
        have h3 : ¬ l < k0 := fun h => by have := (hE l i hlE).2 h; omega
        rcases Nat.lt_or_ge k0 l with h | h
        · exfalso
          have he : E[k0]? = some (E[k0]'(by omega)) := List.getElem?_eq_getElem _
          have := (hE k0 _ he).1 (ascends_lt hasc he hlE h)
          omega
        · omega
      subst hlk
      have hE' : ∀ (l' : Nat) e, E[l']? = some e → (e < i + 1 ↔ l' < l + 1) := by
        intro l' e he
        have h1 := hE l' e he
        by_cases e1 : e = i
        · subst e1
          have : l' = l := by
            rcases Nat.lt_trichotomy l' l with h | h | h
            · have := ascends_lt hasc he hlE h; omega
            · exact h
            · have := ascends_lt hasc hlE he h; omega
          omega
        · have : l' ≠ l := by intro h; subst h; rw [hlE] at he; injection he with he; exact e1 he.symm
          omega
      have cont : E.contains i = true := by simpa using hiE
      -- the result and the heap behind it
      have key : ∀ (r : V) (σ' : H), AQ P ops E (i + 1) os (putd t o.dst r) σ' Q → ((wantedA ops t o = some false ∧ r = .tup [] ∧ σ' = σ) ∨ (wantedA ops t o = some true ∧ OpAt P t σ o.op r σ')) → Concl P ops m E (o :: os) i t σ l Q := by
        intro r σ' hrest hop
        obtain ⟨T, hs, a1, a2, a3, a4, a5⟩ := ih (i + 1) (putd t o.dst r) σ' (l + 1) (by omega) hos' hE' (by omega) hrest
        obtain ⟨b1, b2⟩ := agree T r a1
        obtain ⟨c1, c2⟩ := alike T b1
        refine ⟨T, fun k => if k = l then σ else hs k, b1, if_pos rfl, ?_, ?_, ?_⟩
        · show Q T (if E.length = l then σ else hs E.length)
          rw [if_neg (by omega)]; exact a3
        · intro q oq hq hqm hoq hqE
          have hq' : i + 1 ≤ q := by
            rcases Nat.lt_or_ge i q with h | h
            · exact h
            · have : q = i := by omega
              subst this; exact absurd hiE hqE
          rcases a4 q oq hq' hqm hoq hqE with h | ⟨h1, r', h2, h3⟩
          · exact .inl h
          · refine .inr ⟨h1, r', h2, ?_⟩
            rcases h3 with h3 | ⟨hpf, h3⟩
            · exact .inl h3
            · refine .inr ⟨hpf, fun k hk' hkl => ?_⟩
              have : l < k := (hk' l i hlE).1 (by omega)
              show OpAt P T (if k = l then σ else hs k) oq.op r' (if k = l then σ else hs k)
              rw [if_neg (by omega)]
              exact h3 k hk' hkl
        · intro k e oe he hke hoe
          by_cases e1 : e = i
          · subst e1
            have : k = l := by
              rcases Nat.lt_trichotomy k l with h | h | h
              · have := ascends_lt hasc hke hlE h; omega
              · exact h
              · have := ascends_lt hasc hlE hke h; omega
            subst this
            rw [ho] at hoe; injection hoe with hoe; subst hoe
            simp only [if_true, show ¬ (k + 1 = k) by omega, if_false, a2]
            rcases hop with ⟨x1, x2, x3⟩ | ⟨x1, x2⟩
            · exact .inl ⟨by rw [← c2]; exact x1, by rw [← x2]; exact b2, x3⟩
            · exact .inr ⟨by rw [← c2]; exact x1, r, b2, opAt_congr c1 x2⟩
          · have hk2 : k ≠ l := by intro h; subst h; rw [hlE] at hke; injection hke with hke; exact e1 hke.symm
            have hkl : l < k := by
              rcases Nat.lt_trichotomy k l with h | h | h
              · have := ascends_lt hasc hke hlE h; omega
              · exact absurd h hk2
              · exact h
            simp only [hk2, show ¬ (k + 1 = l) by omega, if_false]
            exact a5 k e oe (by omega) hke hoe
      cases hw : wantedA ops t o with
      | none => rw [hw] at h; exact h.elim
      | some b =>
        rw [hw] at h
        cases b with
        | false => exact key (.tup []) σ h (.inl ⟨hw, rfl, rfl⟩)
        | true =>
          simp only [wantK_true, runQ, cont] at h
          split at h
          · rename_i f args ts hop
            simp only [if_true] at h
            cases hf : aev t f with
            | fn g caps =>
              rw [hf] at h
              obtain ⟨hc, r, σ', hrun, hrest⟩ := h
              refine key r σ' hrest (.inr ⟨hw, ?_⟩)
              rw [hop]
              exact ⟨g, caps, hf, hc, hrun⟩
            | _ => rw [hf] at h; exact h.elim
          · rename_i hno
            cases hop : aop P t σ o.op with
            | none => rw [hop] at h; exact h.elim
            | some vs =>
              obtain ⟨r, σ'⟩ := vs
              rw [hop] at h
              refine key r σ' h (.inr ⟨hw, ?_⟩)
              unfold OpAt
              split
              · rename_i f args ts hop2
                exact absurd hop2 (hno f args ts)
              · exact hop
    · have hE' : ∀ (l' : Nat) e, E[l']? = some e → (e < i + 1 ↔ l' < k0) := by
        intro l' e he
        have h1 := hE l' e he
        have : e ≠ i := by intro h; subst h; exact hiE (mem_of_get he)
        omega
      have cont : E.contains i = false := by simpa using hiE
      have kind : pureOp o.op = true ∨ isLoad o.op = true := by
        exact .inl (hk i o hsi hin ho hiE)
      have key : ∀ (r : V), AQ P ops E (i + 1) os (putd t o.dst r) σ Q → ((wantedA ops t o = some false ∧ r = .tup []) ∨ (wantedA ops t o = some true ∧ ((pureOp o.op = true ∧ ∀ τ, OpAt P t τ o.op r τ) ∨ (pureOp o.op = false ∧ OpAt P t σ o.op r σ)))) → Concl P ops m E (o :: os) i t σ k0 Q := by
        intro r hrest hop
        obtain ⟨T, hs, a1, a2, a3, a4, a5⟩ := ih (i + 1) (putd t o.dst r) σ k0 (by omega) hos' hE' hk0 hrest
        obtain ⟨b1, b2⟩ := agree T r a1
        obtain ⟨c1, c2⟩ := alike T b1
        refine ⟨T, hs, b1, a2, a3, ?_, ?_⟩
        · intro q oq hq hqm hoq hqE
          by_cases e1 : q = i
          · subst e1
            rw [ho] at hoq; injection hoq with hoq; subst hoq
            rcases hop with ⟨x1, x2⟩ | ⟨x1, x2⟩
            · exact .inl ⟨by rw [← c2]; exact x1, by rw [← x2]; exact b2⟩
            · refine .inr ⟨by rw [← c2]; exact x1, r, b2, ?_⟩
              rcases x2 with ⟨y1, y2⟩ | ⟨y0, y⟩
              · exact .inl ⟨y1, fun τ => opAt_congr c1 (y2 τ)⟩
              · refine .inr ⟨y0, fun k hk' hkl => ?_⟩
                have := uniq k hk' hkl
                subst this
                rw [a2]
                exact opAt_congr c1 y
          · exact a4 q oq (by omega) hqm hoq hqE
        · intro k e oe he hke hoe
          have : e ≠ i := by intro h; subst h; exact hiE (mem_of_get hke)
          exact a5 k e oe (by omega) hke hoe
      cases hw : wantedA ops t o with
      | none => rw [hw] at h; exact h.elim
      | some b =>
        rw [hw] at h
        cases b with
        | false => exact key (.tup []) h (.inl ⟨hw, rfl⟩)
        | true =>
          simp only [wantK_true, runQ, cont] at h
          split at h
          · rename_i f args ts hop
            simp only [Bool.false_eq_true, if_false] at h
            cases hf : aev t f with
            | fn g caps =>
              rw [hf] at h
              obtain ⟨hc, r, hrun, hpure, hrest⟩ := h
              refine key r hrest (.inr ⟨hw, .inl ⟨by rw [hop]; rfl, fun τ => ?_⟩⟩)
              rw [hop]
              exact ⟨g, caps, hf, hc, (Run.of_pure (σ := τ) hrun hpure).mono fun r' σ2 ⟨e1, _, e2⟩ => ⟨e2, e1⟩⟩
            | _ => rw [hf] at h; exact h.elim
          · rename_i hno
            have hcall : isCall o.op = false := by
              cases hop : o.op with
              | call c =>
                obtain ⟨callee, args, ts⟩ := c
                cases callee with
                | value f => exact absurd hop (hno f args ts)
                | _ => rfl
              | _ => rfl
            have opat : ∀ τ τ' r, aop P t τ o.op = some (r, τ') → OpAt P t τ o.op r τ' := by
              intro τ τ' r hop
              unfold OpAt
              split
              · rename_i f args ts hop2
                exact absurd hop2 (hno f args ts)
              · exact hop
            cases hop : aop P t σ o.op with
            | none => rw [hop] at h; exact h.elim
            | some vs =>
              obtain ⟨r, σ'⟩ := vs
              rw [hop] at h
              rcases kind with hp | hl
              · obtain ⟨e1, _⟩ := aop_pure (τ := σ) hp hcall hop
                subst e1
                exact key r h (.inr ⟨hw, .inl ⟨hp, fun τ => opat τ τ r (aop_pure hp hcall hop).2⟩⟩)
              · have e1 := aop_load hl hop
                subst e1
                exact key r h (.inr ⟨hw, .inr ⟨load_not_pure hl, opat _ _ r hop⟩⟩)

theorem ssaOk_le {N : Nat} {ops : Array Oper} {B : List Nat} {s m : Nat} (h : ssaOk N ops B m = true) (hs : s ≤ m) : ssaOk N ops B s = true := by
  unfold ssaOk at h ⊢
  rw [List.all_eq_true] at h ⊢
  intro i hi
  have hi' := List.mem_range.1 hi
  have := h i (List.mem_range.2 (by omega))
  cases ho : ops[i]? with
  | none => rfl
  | some o =>
    simp only [ho, Bool.and_eq_true] at this ⊢
    refine ⟨this.1, ?_⟩
    have h2 := this.2
    rw [List.all_eq_true] at h2 ⊢
    intro j hj
    exact h2 j (List.mem_range.2 (by have := List.mem_range.1 hj; omega))

/-- What the operations before one look at stands. -/
theorem settled {N : Nat} {ops : Array Oper} {B : List Nat} {s m : Nat} (hssa : ssaOk N ops B m = true) (hs : s ≤ m) {T T1 : Env} (hT : ∀ x, (∀ o ∈ (ops.toList.take m).drop s, o.dst ≠ some x) → T x = T1 x) {q : Nat} {o : Oper} (hq : q < s) (ho : ops[q]? = some o) :
    (∀ x ∈ o.op.operands, aev T1 x = aev T x) ∧ wantedA ops T1 o = wantedA ops T o ∧ ∀ r, dstIs T1 o r → dstIs T o r := by
  have key : ∀ d, d ∈ looks ops o ∨ o.dst = some d → T d = T1 d := by
    intro d hd
    apply hT
    intro o' ho' hd'
    obtain ⟨n, hn⟩ := List.getElem?_of_mem ho'
    rw [List.getElem?_drop, List.getElem?_take] at hn
    split at hn
    · rename_i hl
      have hm' : ops[s + n]? = some o' := by simpa using hn
      have h1 := all_range hssa (show q < m by omega)
      simp only [ho, Bool.and_eq_true] at h1
      have h2 := all_range h1.2 hl
      simp only [hm', Option.bind_some, hd', Bool.and_eq_true, Bool.or_eq_true, beq_iff_eq, bne_iff_ne, Bool.not_eq_true', decide_eq_true_eq] at h2
      rcases hd with hx | hx
      · rcases h2.2 with h | h
        · have : (looks ops o).contains d = true := by simpa using hx
          rw [this] at h; simp at h
        · omega
      · rcases h2.1 with h | h
        · omega
        · exact h hx
    · simp at hn
  refine ⟨?_, ?_, ?_⟩
  · intro x hx
    cases x with
    | tmp d => exact (key d (.inl (List.mem_append_left _ (List.mem_filterMap.2 ⟨.tmp d, by simpa using hx, rfl⟩)))).symm
    | _ => rfl
  · unfold wantedA
    cases hg : o.guard with
    | none => rfl
    | some jb =>
      obtain ⟨j, b⟩ := jb
      simp only
      cases hj : ops[j]? with
      | none => rfl
      | some oj =>
        simp only
        cases hjd : oj.dst with
        | none => rfl
        | some d => simp only [key d (.inl (List.mem_append_right _ (by simp [hg, hj, hjd])))]
  · intro r h d hd
    rw [key d (.inr hd)]
    exact h d hd

/-- Two blocks are laid out and memory is read before one place; from there on there are effects, in one order, and what computes. -/
def kindsOk4 (ops : Array Oper) (m s : Nat) (E : List Nat) : Bool := decide (s ≤ m) && (E.all fun e => decide (s ≤ e)) && (List.range m).all fun i => match ops[i]? with
  | some o => decide (i < s) || E.contains i || pureOp o.op
  | none => true

theorem adraw4 {N : Nat} {ops : Array Oper} (m s e1 e2 : Nat) (E : List Nat) {t : Env} {σ : H} {Q : Env → H → Prop} (hm : P.follows .mixedOrders = true) (hd : drawOk N ops (Region.before ops).toList m E = true) (hk2 : kindsOk2 ops s e1 e2 = true) (hk4 : kindsOk4 ops m s E = true)
    (h : AQ2 P ops e1 e2 0 (ops.toList.take s) (.rows 0 []) (.rows 0 []) t σ fun t σ => AQ P ops E s ((ops.toList.take m).drop s) t σ fun t σ => AL P N ops (ops.toList.drop m) t σ Q) : ADraw P N ops t σ Q := by
  have hd' := hd
  unfold drawOk at hd'
  simp only [Bool.and_eq_true, decide_eq_true_eq] at hd'
  obtain ⟨⟨⟨⟨⟨⟨⟨⟨hbef, hssa⟩, heff⟩, hguard⟩, hedge⟩, htail⟩, hmn⟩, hasc⟩, hEn⟩ := hd'
  generalize (Region.before ops).toList = B at *
  have hd2 : drawOk2 N ops B m = true := by
    unfold drawOk2
    simp only [Bool.and_eq_true, decide_eq_true_eq]
    exact ⟨⟨⟨⟨⟨hbef, hssa⟩, hguard⟩, hedge⟩, htail⟩, hmn⟩
  have hk2' := hk2
  unfold kindsOk2 at hk2'
  simp only [Bool.and_eq_true, decide_eq_true_eq] at hk2'
  obtain ⟨⟨he12, he2s⟩, hkinds⟩ := hk2'
  unfold kindsOk4 at hk4
  simp only [Bool.and_eq_true, decide_eq_true_eq] at hk4
  obtain ⟨⟨hsm, hEs⟩, hk4⟩ := hk4
  have hEm : ∀ e ∈ E, e < m := fun e he => by have := List.all_eq_true.1 hEn e he; simpa using this
  have hEs' : ∀ e ∈ E, s ≤ e := fun e he => by have := List.all_eq_true.1 hEs e he; simpa using this
  have eff : ∀ i o, i < m → ops[i]? = some o → (pureOp o.op = true ∧ i ∉ E) ∨ ∀ e ∈ E, e = i ∨ (e < i ∧ tested B i e = true) ∨ (i < e ∧ tested B e i = true) := by
    intro i o hi ho
    have h1 := all_range heff hi
    simp only [ho, Bool.or_eq_true, Bool.and_eq_true, Bool.not_eq_true', List.all_eq_true] at h1
    rcases h1 with h | h
    · refine .inl ⟨h.1, fun hm => ?_⟩
      have : E.contains i = true := by simpa using hm
      rw [this] at h; simp at h
    · refine .inr fun e he => ?_
      have := h e he
      simp only [beq_iff_eq] at this
      rcases this with h | h
      · exact .inl h
      · by_cases hlt : e < i
        · rw [if_pos hlt] at h; exact .inr (.inl ⟨hlt, h⟩)
        · rw [if_neg hlt] at h
          by_cases he2 : e = i
          · exact .inl he2
          · exact .inr (.inr ⟨by omega, h⟩)
  obtain ⟨T1, X1, X2, a1, a2, _, _, a5, a6, a7⟩ := aq2_facts (ssaOk_le hssa hsm) (by omega) hk2 (ops.toList.take s) 0 t _ _ (by simp) h
  obtain ⟨T, hk, c1, c2, c3, c4, c5⟩ := aq4_facts (s := s) hssa hmn hasc hEn (by
      intro i o hsi him ho hiE
      have := all_range hk4 him
      simp only [ho, Bool.or_eq_true, decide_eq_true_eq] at this
      rcases this with (h | h) | h
      · omega
      · exact absurd (by simpa using h) hiE
      · exact h) ((ops.toList.take m).drop s) s T1 _ 0 (Nat.le_refl _) rfl (fun l e he => by have := hEs' e (mem_of_get he); omega) (Nat.zero_le _) a2
  have st := fun {q : Nat} {o : Oper} (hq : q < s) (ho : ops[q]? = some o) => settled (T := T) (T1 := T1) hssa hsm c1 hq ho
  -- the heap by what is done
  let part : (Nat → Bool) → H := fun L => (fun h1 => if L e2 = true then H.allocAt h1 (σ.nx + 1) X2 else h1) (if L e1 = true then σ.allocAt σ.nx X1 else σ)
  let hs : (Nat → Bool) → H := fun L => if L e1 = true ∧ L e2 = true then hk (E.filter L).length else part L
  have both : (σ.alloc X1).alloc X2 = (σ.allocAt σ.nx X1).allocAt (σ.nx + 1) X2 := by
    show (σ.alloc X1).allocAt (σ.alloc X1).nx X2 = _
    rw [H.nx_alloc]; rfl
  have ext : ∀ L b x, σ.get b = some x → (part L).get b = some x := by
    intro L b x hb
    have hlt := H.get_lt hb
    show ((if L e2 = true then H.allocAt (if L e1 = true then σ.allocAt σ.nx X1 else σ) (σ.nx + 1) X2 else (if L e1 = true then σ.allocAt σ.nx X1 else σ))).get b = _
    split <;> split <;> (try simp only [H.get_allocAt]) <;> (try rw [if_neg (by omega)]) <;> (try rw [if_neg (by omega)]) <;> exact hb
  have nouse : σ.use (σ.nx + 1) = false := by
    cases h : σ.use (σ.nx + 1) with
    | false => rfl
    | true => have := σ.lt _ h; omega
  -- what stands before the effects has none of them done
  have none_done : ∀ {L : Nat → Bool} {i : Nat} {o : Oper}, Next ops B m L i → ops[i]? = some o → i < s → (pureOp o.op = true ∧ i ∉ E) ∨ E.filter L = [] := by
    intro L i o hn ho his
    rcases eff i o hn.lt ho with h | h
    · exact .inl h
    · refine .inr (List.filter_eq_nil_iff.2 fun e he hL => ?_)
      have h1 := hEs' e he
      have h2 := hEm e he
      rcases h e he with h3 | ⟨h3, _⟩ | ⟨_, h3⟩
      · omega
      · omega
      · have := hn.cl e i (by omega) (by omega) hL h3
        rw [hn.new] at this; simp at this
  have chain : ∀ {L : Nat → Bool} {i : Nat}, Next ops B m L i → ∀ (l : Nat) e, E[l]? = some e → (L e = true ↔ l < (E.filter L).length) := by
    intro L i hn
    refine prefix_count fun x y a b ha hb hxy hL => ?_
    have hab := ascends_lt hasc ha hb hxy
    have hbm := hEm b (mem_of_get hb)
    have hob : ops[b]? = some (ops[b]'(by omega)) := Array.getElem?_eq_getElem _
    rcases eff b _ hbm hob with ⟨_, h⟩ | h
    · exact absurd (mem_of_get hb) h
    · rcases h a (mem_of_get ha) with h | ⟨_, h⟩ | ⟨h, _⟩
      · omega
      · exact hn.cl b a (by omega) (by omega) hL h
      · omega
  have filt : ∀ {L : Nat → Bool} {i : Nat}, i ∉ E → E.filter (put1 L i) = E.filter L := by
    intro L i hiE
    apply List.filter_congr
    intro e he
    unfold put1
    rw [if_neg (fun (h : e = i) => hiE (h ▸ he))]
  have notE : ∀ {i : Nat}, i < s → i ∉ E := fun h he => by have := hEs' _ he; omega
  -- an operation that lays out a block
  have blk : ∀ (i : Nat) (o : Oper) (L : Nat → Bool) (n : Nat) (X : Blk), Next ops B m L i → ops[i]? = some o → i < s → BlkAt P ops T1 i n X → (part L).use n = false → part (put1 L i) = (part L).allocAt n X → ¬ (L e1 = true ∧ L e2 = true) →
      wantedA ops T o = some true ∧ ∃ r, dstIs T o r ∧ OpAt2 P T (hs L) o.op r (hs (put1 L i)) := by
    intro i o L n X hn ho his hb hu hp hnb
    obtain ⟨o', v, b1, b2, b3, b4⟩ := hb
    rw [ho] at b1; injection b1 with b1; subst b1
    obtain ⟨s1, s2, s3⟩ := st his ho
    have nd : E.filter L = [] := by
      rcases none_done hn ho his with ⟨hp, _⟩ | h
      · exfalso
        cases hop : o.op <;> rw [hop] at hp b3 <;> simp [pureOp, ablk] at hp b3
      · exact h
    have hL : hs L = part L := if_neg hnb
    have hL' : hs (put1 L i) = part (put1 L i) := by
      show (if put1 L i e1 = true ∧ put1 L i e2 = true then hk (E.filter (put1 L i)).length else part (put1 L i)) = _
      split
      · rename_i hboth
        rw [filt (notE his), nd]
        show hk 0 = _
        rw [c2, both]
        show _ = (if put1 L i e2 = true then H.allocAt (if put1 L i e1 = true then σ.allocAt σ.nx X1 else σ) (σ.nx + 1) X2 else (if put1 L i e1 = true then σ.allocAt σ.nx X1 else σ))
        rw [hboth.1, hboth.2]; simp
      · rfl
    refine ⟨by rw [← s2]; exact b2, v n, s3 _ b4, .inr ⟨n, v, X, by rw [← ablk_congr s1]; exact b3, ?_, rfl, ?_⟩⟩
    · rw [hL]; exact hu
    · rw [hL, hL', hp]
  refine draw_main2 (hs := hs) (T := T) hm hd2 (fun i hi => ?_) ?_ (fun L hL => ?_) (fun L hL => ?_)
  · rw [c1 i, a1 i]
    · intro o ho
      obtain ⟨j, hj⟩ := List.getElem?_of_mem ho
      rw [List.getElem?_take] at hj
      split at hj
      · exact hi j o (by omega) (by simpa using hj)
      · simp at hj
    · intro o ho
      obtain ⟨j, hj⟩ := List.getElem?_of_mem ho
      rw [List.getElem?_drop, List.getElem?_take] at hj
      split at hj
      · exact hi (s + j) o (by omega) (by simpa using hj)
      · simp at hj
  · intro i o L hn ho
    have him := hn.lt
    by_cases hi1 : i = e1
    · subst hi1
      refine .inr (blk i o L σ.nx X1 hn ho (by omega) (a6 (Nat.zero_le _)) ?_ ?_ ?_)
      · show H.use (if L e2 = true then H.allocAt (if L i = true then σ.allocAt σ.nx X1 else σ) (σ.nx + 1) X2 else (if L i = true then σ.allocAt σ.nx X1 else σ)) σ.nx = false
        rw [hn.new]
        simp only [Bool.false_eq_true, if_false]
        split
        · show (σ.nx == σ.nx + 1 || σ.use σ.nx) = false
          rw [σ.use_nx]; simp
        · exact σ.use_nx
      · show (if put1 L i e2 = true then H.allocAt (if put1 L i i = true then σ.allocAt σ.nx X1 else σ) (σ.nx + 1) X2 else (if put1 L i i = true then σ.allocAt σ.nx X1 else σ)) =
          H.allocAt (if L e2 = true then H.allocAt (if L i = true then σ.allocAt σ.nx X1 else σ) (σ.nx + 1) X2 else (if L i = true then σ.allocAt σ.nx X1 else σ)) σ.nx X1
        have p1 : put1 L i i = true := if_pos rfl
        have p2 : put1 L i e2 = L e2 := if_neg (by omega)
        rw [p1, p2, hn.new]
        simp only [Bool.false_eq_true, if_false, if_true]
        split
        · exact H.allocAt_comm σ X1 X2 (by omega)
        · rfl
      · rw [hn.new]; simp
    · by_cases hi2 : i = e2
      · subst hi2
        refine .inr (blk i o L (σ.nx + 1) X2 hn ho he2s (a7 (Nat.zero_le _)) ?_ ?_ ?_)
        · show H.use (if L i = true then H.allocAt (if L e1 = true then σ.allocAt σ.nx X1 else σ) (σ.nx + 1) X2 else (if L e1 = true then σ.allocAt σ.nx X1 else σ)) (σ.nx + 1) = false
          rw [hn.new]
          simp only [Bool.false_eq_true, if_false]
          split
          · show (σ.nx + 1 == σ.nx || σ.use (σ.nx + 1)) = false
            rw [nouse]; simp
          · exact nouse
        · show (if put1 L i i = true then H.allocAt (if put1 L i e1 = true then σ.allocAt σ.nx X1 else σ) (σ.nx + 1) X2 else (if put1 L i e1 = true then σ.allocAt σ.nx X1 else σ)) =
            H.allocAt (if L i = true then H.allocAt (if L e1 = true then σ.allocAt σ.nx X1 else σ) (σ.nx + 1) X2 else (if L e1 = true then σ.allocAt σ.nx X1 else σ)) (σ.nx + 1) X2
          have p1 : put1 L i i = true := if_pos rfl
          have p2 : put1 L i e1 = L e1 := if_neg (by omega)
          rw [p1, p2, hn.new]
          simp only [Bool.false_eq_true, if_false, if_true]
        · rw [hn.new]; simp
      · have q1 : put1 L i e1 = L e1 := if_neg (by omega)
        have q2 : put1 L i e2 = L e2 := if_neg (by omega)
        have psame : part (put1 L i) = part L := by
          show (if put1 L i e2 = true then H.allocAt (if put1 L i e1 = true then σ.allocAt σ.nx X1 else σ) (σ.nx + 1) X2 else (if put1 L i e1 = true then σ.allocAt σ.nx X1 else σ)) = _
          rw [q1, q2]
        by_cases hiE : i ∈ E
        · -- an effect: both blocks have been laid out
          have hch := chain hn
          have done : ∀ (e : Nat), e < s → (∃ oe, ops[e]? = some oe ∧ ∃ v X, ablk P T1 oe.op = some (v, X)) → L e = true := by
            intro e hes ⟨oe, hoe, v, X, hb⟩
            have hie := hEs' i hiE
            rcases eff e oe (by omega) hoe with ⟨hp, _⟩ | h
            · exfalso
              cases hop : oe.op <;> rw [hop] at hp hb <;> simp [pureOp, ablk] at hp hb
            · rcases h i hiE with h3 | ⟨h3, _⟩ | ⟨_, h3⟩
              · omega
              · omega
              · exact hn.pre e (by omega) h3
          have d1 : L e1 = true := by
            obtain ⟨o', v, b1, _, b3, _⟩ := a6 (Nat.zero_le _)
            exact done e1 (by omega) ⟨o', b1, v, X1, b3⟩
          have d2 : L e2 = true := by
            obtain ⟨o', v, b1, _, b3, _⟩ := a7 (Nat.zero_le _)
            exact done e2 he2s ⟨o', b1, v, X2, b3⟩
          obtain ⟨l, hl⟩ := List.getElem?_of_mem hiE
          have hcnt : (E.filter L).length = l := by
            have h1 : ¬ l < (E.filter L).length := fun h => by have := (hch l i hl).2 h; rw [hn.new] at this; simp at this
            rcases Nat.lt_or_ge (E.filter L).length l with h | h
            · exfalso
              have hll := lt_of_get hl
              have he : E[(E.filter L).length]? = some (E[(E.filter L).length]'(by omega)) := List.getElem?_eq_getElem _
              have hlt := ascends_lt hasc he hl h
              have hem := hEm _ (mem_of_get he)
              rcases eff i o him ho with ⟨_, h'⟩ | h'
              · exact absurd hiE h'
              · rcases h' _ (mem_of_get he) with h2 | ⟨_, h2⟩ | ⟨h2, _⟩
                · omega
                · have := (hch _ _ he).1 (hn.pre _ (by omega) h2); omega
                · omega
            · omega
          have hcnt' : (E.filter (put1 L i)).length = l + 1 := by
            have hnd : ∀ {x y : Nat}, E[x]? = some i → E[y]? = some i → x = y := by
              intro x y hx hy
              rcases Nat.lt_trichotomy x y with h | h | h
              · have := ascends_lt hasc hx hy h; omega
              · exact h
              · have := ascends_lt hasc hy hx h; omega
            have hdown : ∀ (x y : Nat) a b, E[x]? = some a → E[y]? = some b → x < y → put1 L i b = true → put1 L i a = true := by
              intro x y a b ha hb hxy hp
              unfold put1 at hp ⊢
              by_cases e1 : a = i
              · rw [if_pos e1]
              · rw [if_neg e1]
                by_cases e2 : b = i
                · subst e2
                  have := hnd hb hl
                  exact (hch x a ha).2 (by omega)
                · rw [if_neg e2] at hp
                  have := (hch y b hb).1 hp
                  exact (hch x a ha).2 (by omega)
            have hp := prefix_count hdown
            have h1 := (hp l i hl).1 (if_pos rfl)
            rcases Nat.lt_or_ge (l + 1) (E.filter (put1 L i)).length with h | h
            · exfalso
              have hlen : (E.filter (put1 L i)).length ≤ E.length := List.length_filter_le _ _
              have he : E[l + 1]? = some (E[l + 1]'(by omega)) := List.getElem?_eq_getElem _
              have h2 := (hp _ _ he).2 h
              unfold put1 at h2
              rw [if_neg (fun e => by rw [e] at he; have := hnd he hl; omega)] at h2
              have := (hch _ _ he).1 h2
              omega
            · omega
          have g1 : hs L = hk l := by
            show (if L e1 = true ∧ L e2 = true then hk (E.filter L).length else part L) = _
            rw [if_pos ⟨d1, d2⟩, hcnt]
          have g2 : hs (put1 L i) = hk (l + 1) := by
            show (if put1 L i e1 = true ∧ put1 L i e2 = true then hk (E.filter (put1 L i)).length else part (put1 L i)) = _
            rw [q1, q2, if_pos ⟨d1, d2⟩, hcnt']
          rw [g1, g2]
          rcases c5 l i o (hEs' i hiE) hl ho with ⟨x1, x2, x3⟩ | ⟨x1, r, x2, x3⟩
          · exact .inl ⟨x1, x2, x3⟩
          · exact .inr ⟨x1, r, x2, .inl x3⟩
        · have same : hs (put1 L i) = hs L := by
            show (if put1 L i e1 = true ∧ put1 L i e2 = true then hk (E.filter (put1 L i)).length else part (put1 L i)) = (if L e1 = true ∧ L e2 = true then hk (E.filter L).length else part L)
            rw [q1, q2, psame, filt hiE]
          rw [same]
          by_cases his : i < s
          · obtain ⟨s1, s2, s3⟩ := st his ho
            rcases a5 i o (Nat.zero_le _) his ho hi1 hi2 with h | ⟨h1, r, h2, h3⟩
            · exact .inl ⟨by rw [← s2]; exact h.1, s3 _ h.2, rfl⟩
            · refine .inr ⟨by rw [← s2]; exact h1, r, s3 _ h2, .inl (opAt_congr s1 ?_)⟩
              rcases h3 with h3 | ⟨hl, h3⟩
              · exact h3 _
              · have nd : E.filter L = [] := by
                  rcases none_done hn ho his with ⟨hp, _⟩ | h
                  · rw [load_not_pure hl] at hp; simp at hp
                  · exact h
                have hL : hs L = part L := by
                  show (if L e1 = true ∧ L e2 = true then hk (E.filter L).length else part L) = _
                  split
                  · rename_i hb
                    rw [nd]
                    show hk 0 = _
                    rw [c2, both]
                    show _ = (if L e2 = true then H.allocAt (if L e1 = true then σ.allocAt σ.nx X1 else σ) (σ.nx + 1) X2 else (if L e1 = true then σ.allocAt σ.nx X1 else σ))
                    rw [hb.1, hb.2]; simp
                  · rfl
                rw [hL]
                have := aop_load_ext hl h3 (ext L)
                unfold OpAt
                split
                · rename_i f args ts hop
                  rw [hop] at hl; simp [isLoad] at hl
                · exact this
          · rcases c4 i o (by omega) him ho hiE with h | ⟨h1, r, h2, h3⟩
            · exact .inl ⟨h.1, h.2, rfl⟩
            · refine .inr ⟨h1, r, h2, .inl ?_⟩
              have hp : pureOp o.op = true := by
                have := all_range hk4 him
                simp only [ho, Bool.or_eq_true, decide_eq_true_eq] at this
                rcases this with (h | h) | h
                · exact absurd h his
                · exact absurd (by simpa using h) hiE
                · exact h
              rcases h3 with ⟨_, h3⟩ | ⟨hpf, _⟩
              · exact h3 _
              · rw [hp] at hpf; simp at hpf
  · have e : hs L = hk E.length := by
      show (if L e1 = true ∧ L e2 = true then hk (E.filter L).length else part L) = _
      rw [if_pos ⟨hL e1 (by omega), hL e2 (by omega)⟩, List.filter_eq_self.2 fun e he => hL e (hEm e he)]
    rw [e]
    refine al_sound _ _ _ _ _ (guardsOk_all hguard) ?_ c3
    apply List.ext_getElem?
    intro i
    simp only [List.getElem?_map, List.getElem?_drop]
    by_cases hi : i < ops.size - m
    · rw [List.getElem?_range' hi]
      have : m + i < ops.size := by omega
      simp [this]
    · rw [List.getElem?_eq_none (by simp; omega), List.getElem?_eq_none (by simp; omega)]; rfl
  · show (if L e1 = true ∧ L e2 = true then hk (E.filter L).length else part L) = σ
    rw [if_neg (by rw [hL e1 (by omega)]; simp)]
    show (if L e2 = true then H.allocAt (if L e1 = true then σ.allocAt σ.nx X1 else σ) (σ.nx + 1) X2 else (if L e1 = true then σ.allocAt σ.nx X1 else σ)) = σ
    rw [hL e1 (by omega), hL e2 (by omega)]
    simp

end Go.Proofs.Ytngbibpmaofamaa.Ab

/- From the shelf's words for a row that is sorted to the calculus. -/
-- BrA
namespace Go.Proofs.Ytngbibpmaofamaa.Ab
open Go Go.Sort

variable {P : Program}

theorem BR.grow {F : Part} {ρ : Lay} {x : Blk} {l : Loc} {w w' : World} (h : BR P F ρ x l w) (hh : ∀ (k : Nat) (o : Obj), w.heap[k]? = some o → w'.heap[k]? = some o) : BR P F ρ x l w' := by
  cases x with
  | rows e xs =>
    obtain ⟨h1, h2, c, h3, h4⟩ := h
    exact ⟨h1, h2, c, hh _ _ h3, h4⟩
  | map es =>
    obtain ⟨es', clock, h1, h2⟩ := h
    exact ⟨es', clock, hh _ _ h1, h2⟩

theorem Rel.grow {W : World} {σ : H} {ρ : Lay} {F G : Part} {w : World} (h : Rel P W σ ρ F G w) (n : Nat) (os : Array Obj) : Rel P W σ ρ F G (Sort.grow (Sort.ahead w n) os) := by
  have hh : ∀ (k : Nat) (o : Obj), w.heap[k]? = some o → (Sort.grow (Sort.ahead w n) os).heap[k]? = some o := by
    intro k o hk
    show (w.heap ++ os)[k]? = some o
    rw [Array.getElem?_append_left (Array.getElem?_eq_some_iff.1 hk).1]
    exact hk
  refine ⟨h.os, h.tape, ⟨h.out.1, Nat.le_trans h.out.2 (Nat.le_add_right _ _)⟩, fun k o hk => hh k o (h.frz k o hk), fun k o hk => hh k o (h.frm k o hk), h.fg, fun b x hb => ?_, h.inj, h.fresh⟩
  obtain ⟨l, g1, g2, g3, g4⟩ := h.live b x hb
  exact ⟨l, g1, g2, g3, g4.grow hh⟩

/-- A row of numbers that is written as the shelf says it. -/
theorem Rel.putRow {W : World} {σ : H} {ρ : Lay} {F G : Part} {w : World} (h : Rel P W σ ρ F G w) {b : Nat} {e : TypeId} {kd : IntKind} {zs zs' : List Int} {l : Loc} (hb : σ.get b = some (.rows e (zs.map fun x => [.int kd x]))) (hl : ρ b = some l)
    (hsz : P.cellsOf e = 1) (hlen : zs'.length = zs.length) : Rel P W (σ.set b (.rows e (zs'.map fun x => [.int kd x]))) ρ F G (Sort.putRow (Value.int kd) w l.k l.o zs'.toArray) := by
  obtain ⟨l', g1, g2, g3, k1, k2, c, k3, k4, k5, k6⟩ := h.live b _ hb
  rw [hl] at g1; injection g1 with g1; subst g1
  have hz1 : l.sz = 1 := by rw [k2, hsz]
  have key := h.setRows (xs' := zs'.map fun x => [.int kd x]) (c' := Sort.putCells (Value.int kd) l.o zs'.toArray c) hb hl k3 (by simp [Sort.putCells]) (by rw [hz1]; simp [hlen]; simpa [hz1] using k5) (by
    intro i row hi
    rw [List.getElem?_map] at hi
    cases hzi : zs'[i]? with
    | none => rw [hzi] at hi; simp at hi
    | some z =>
      rw [hzi] at hi
      injection hi with hi; subst hi
      refine ⟨by simp [hz1], fun j x hj => ?_⟩
      cases j with
      | succ j => simp at hj
      | zero =>
        simp at hj; subst hj
        have hil : i < zs'.length := (List.getElem?_eq_some_iff.1 hzi).1
        have hlt : l.o + i < c.size := by rw [k4]; simp [hz1] at k5; omega
        refine ⟨rfl, .int kd z, ?_, .int kd z⟩
        rw [hz1]
        simp [Sort.putCells, hlt, hil]
        rw [List.getElem?_eq_getElem hil] at hzi
        injection hzi)
  have e : Sort.putRow (Value.int kd) w l.k l.o zs'.toArray = w.setRow l.k (Sort.putCells (Value.int kd) l.o zs'.toArray c) := by
    unfold Sort.putRow Sort.mapBlock World.setRow
    congr 1
    apply Array.ext_getElem?
    intro k
    rw [Array.getElem?_modify, Array.getElem?_modify]
    by_cases hk : l.k = k
    · subst hk; rw [if_pos rfl, if_pos rfl, k3]; rfl
    · rw [if_neg hk, if_neg hk]
  rw [e]
  exact key

/-- The row's cells hold what the block says. -/
theorem Rel.holds {W : World} {σ : H} {ρ : Lay} {F G : Part} {w : World} (h : Rel P W σ ρ F G w) {b : Nat} {e : TypeId} {kd : IntKind} {zs : List Int} {l : Loc} (hb : σ.get b = some (.rows e (zs.map fun x => [.int kd x]))) (hl : ρ b = some l)
    (hsz : P.cellsOf e = 1) : Sort.Holds (Value.int kd) w l.k l.o zs.toArray := by
  obtain ⟨l', g1, g2, g3, k1, k2, c, k3, k4, k5, k6⟩ := h.live b _ hb
  rw [hl] at g1; injection g1 with g1; subst g1
  have hz1 : l.sz = 1 := by rw [k2, hsz]
  intro j hj
  have hjl : j < zs.length := by simpa using hj
  obtain ⟨r1, r2⟩ := k6 j [.int kd zs[j]] (by rw [List.getElem?_map, List.getElem?_eq_getElem hjl]; rfl)
  obtain ⟨_, y, hy, hv⟩ := r2 0 _ rfl
  rw [hz1] at hy
  simp at hy
  cases hv
  have e1 : zs.toArray[j]! = zs[j] := by simp [hjl]
  refine ⟨?_, ?_⟩
  · rw [e1]
    unfold World.cell?
    simp [k3, hy]
  · unfold World.frozen?
    simp [k3]

/-- A call that sorts an own row of numbers, by the shelf's contract. -/
theorem Run.sorts {f : FuncId} {σ : H} {K : V → H → Prop} {b n : Nat} {e : TypeId} {kd : IntKind} {ex : Bool} {zs zs' : List Int} (hb : σ.get b = some (.rows e (zs.map fun x => [.int kd x]))) (hn : n = zs.length) (h0 : zs ≠ []) (hsz : P.cellsOf e = 1) (hlen : zs'.length = zs.length)
    (hc : ∀ (blk off cap : Nat) (w : World), Sort.Holds (Value.int kd) w blk off zs.toArray → blk < w.heap.size → Calls P f #[.slice (some ⟨blk, off, none⟩) zs.length cap] w fun e w' => e = .returned (.tuple #[]) ∧ ∃ n os, w' = Sort.grow (Sort.putRow (Value.int kd) (Sort.ahead w n) blk off zs'.toArray) os)
    (k : K (.tup []) (σ.set b (.rows e (zs'.map fun x => [.int kd x])))) : Run P f [.sl 1 b 0 n ex] σ K := by
  subst hn
  intro W ρ F G w ys hr hy
  obtain ⟨y, rfl⟩ : ∃ y, ys = [y] := by
    match ys, hy.1 with
    | [y], _ => exact ⟨y, rfl⟩
  have hv := hy.2 0 _ y rfl rfl
  cases hv with
  | sl hl hz hle hx hk hs ha hn =>
    rename_i l a cap
    have hcap : cap ≠ 0 := by
      intro e0
      have : zs.length = 0 := by omega
      exact h0 (List.eq_nil_of_length_eq_zero this)
    have hao : a.off = l.o := by have := ha hcap; omega
    have haeq : a = ⟨l.k, l.o, none⟩ := by
      obtain ⟨ab, ao, asp⟩ := a
      simp only at hk hs hao
      rw [hk, hs, hao]
    have hh := hr.holds hb hl hsz
    obtain ⟨l', g1, g2, g3, k1, k2, c, k3, _⟩ := hr.live b _ hb
    rw [hl] at g1; injection g1 with g1; subst g1
    have hsize : l.k < w.heap.size := (Array.getElem?_eq_some_iff.1 k3).1
    rw [haeq]
    refine (hc l.k l.o cap w hh hsize).mono ?_
    rintro ex w' ⟨he, m, os, rfl⟩
    have hr1 := hr.grow m #[]
    rw [Sort.grow_empty] at hr1
    have hr2 := (hr1.putRow (zs' := zs') hb hl hsz hlen).grow 0 os
    exact ⟨.tuple #[], .tup [], _, ρ, F, he, k, Lay.le_refl _, Part.le_refl _, hr2, undefVR⟩

/-- A call that cuts an own row of numbers down in place, by the shelf's contract (slices.Compact). -/
theorem Run.compacts {f : FuncId} {σ : H} {K : V → H → Prop} {b n : Nat} {e : TypeId} {kd : IntKind} {ex : Bool} {zs zs' rest : List Int} (hb : σ.get b = some (.rows e (zs.map fun x => [.int kd x]))) (hn : n = zs.length) (h0 : zs ≠ []) (hsz : P.cellsOf e = 1) (hlen : zs'.length + rest.length = zs.length)
    (hc : ∀ (blk off cap : Nat) (w : World), Sort.Holds (Value.int kd) w blk off zs.toArray → zs.length ≤ cap → Calls P f #[.slice (some ⟨blk, off, none⟩) zs.length cap] w fun e w' => e = .returned (.slice (some ⟨blk, off, none⟩) zs'.length cap) ∧ ∃ q, w' = Sort.putRow (Value.int kd) (Sort.ahead w q) blk off (zs' ++ rest).toArray)
    (k : K (.sl 1 b 0 zs'.length false) (σ.set b (.rows e ((zs' ++ rest).map fun x => [.int kd x])))) : Run P f [.sl 1 b 0 n ex] σ K := by
  subst hn
  intro W ρ F G w ys hr hy
  obtain ⟨y, rfl⟩ : ∃ y, ys = [y] := by
    match ys, hy.1 with
    | [y], _ => exact ⟨y, rfl⟩
  have hv := hy.2 0 _ y rfl rfl
  cases hv with
  | sl hl hz hle hx hk hs ha hn =>
    rename_i l a cap
    have hcap : cap ≠ 0 := by
      intro e0
      have : zs.length = 0 := by omega
      exact h0 (List.eq_nil_of_length_eq_zero this)
    have hao : a.off = l.o := by have := ha hcap; omega
    have haeq : a = ⟨l.k, l.o, none⟩ := by
      obtain ⟨ab, ao, asp⟩ := a
      simp only at hk hs hao
      rw [hk, hs, hao]
    have hh := hr.holds hb hl hsz
    have hnn := hn hcap
    rw [haeq]
    refine (hc l.k l.o cap w hh hle).mono ?_
    rintro ex w' ⟨he, m, rfl⟩
    have hr1 := hr.grow m #[]
    rw [Sort.grow_empty] at hr1
    have hr2 := hr1.putRow (zs' := zs' ++ rest) hb hl hsz (by rw [List.length_append]; exact hlen)
    exact ⟨_, .sl 1 b 0 zs'.length false, _, ρ, F, he, k, Lay.le_refl _, Part.le_refl _, hr2, .sl hl hz (by omega) (by simp) rfl rfl (fun _ => by show l.o = l.o + 0 * l.sz; omega) (fun _ => hnn)⟩

end Go.Proofs.Ytngbibpmaofamaa.Ab
