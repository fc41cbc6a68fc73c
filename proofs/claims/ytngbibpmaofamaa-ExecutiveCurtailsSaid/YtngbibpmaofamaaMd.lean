/- The reference's Curtail: the cut. -/
import Derived.Test.YtngbibpmaofamaaMc
import Derived.Test.YtngbibpmaofamaaMb
import Derived.Sort.LotA
import Derived.OpenShut
import Derived.ChangeOld
import Derived.Below
import Derived.Carry
set_option linter.all false
set_option linter.unusedSimpArgs false
set_option linter.unusedVariables false
-- CurS
namespace Go.Proofs.Ytngbibpmaofamaa.Ab
open Go Num

def brow (b : Bool) : List V := [.bool b]

theorem bestR_lt {L : List (Int × Int)} {d : List Bool} : ∀ {i b : Nat}, bestR L d i = some b → b < i ∧ (∃ p, L[b]? = some p) ∧ d[b]? = some false
  | i + 1, b, h => by
    unfold bestR at h
    split at h
    · rename_i p hp hd
      split at h
      · injection h with h; subst h; exact ⟨by omega, ⟨p, hp⟩, hd⟩
      · rename_i b' hb'
        have ih := bestR_lt hb'
        split at h
        · split at h
          · injection h with h; subst h; exact ⟨by omega, ⟨p, hp⟩, hd⟩
          · injection h with h; subst h; exact ⟨by omega, ih.2⟩
        · injection h with h; subst h; exact ⟨by omega, ih.2⟩
    · have ih := bestR_lt h
      exact ⟨by omega, ih.2⟩

/-- Where the rounds stand. -/
def RndInv (L : List (Int × Int)) (o : List Int) (f : Nat) (t : Env) (σ : H) : Prop := ∃ (d : List Bool) (need : Int) (out : List Int), curLoop L f d need out = some o ∧ need ≤ 33554432 ∧
  t 0 = loadsV L ∧ t 1 = .int .i64 need ∧ t 8 = .sl 1 0 0 L.length true ∧ t 9 = .sl 1 1 0 L.length true ∧ σ.get 0 = some (.rows 3 (out.map irow)) ∧ σ.get 1 = some (.rows 4 (d.map brow)) ∧ d.length = L.length ∧ out.length = L.length ∧
  (∀ x ∈ out, 0 ≤ x ∧ x ≤ 4000000000000000000 - 40000000000000 * f)

/-- Where the loop that gathers a merit stands. -/
def GrpInv (L : List (Int × Int)) (d : List Bool) (m need : Int) (σ0 : H) (n : Nat) (t : Env) (σ : H) : Prop := ∃ (i : Nat) (dc : List Bool), n = L.length - i ∧ i ≤ L.length ∧ t 0 = loadsV L ∧ t 1 = .int .i64 need ∧ t 8 = .sl 1 0 0 L.length true ∧ t 9 = .sl 1 1 0 L.length true ∧
  t 12 = .int .i64 m ∧ t 13 = .int .i64 (isum ((ns L m 1).take i)) ∧ t 14 = .int .i64 i ∧ σ.get 0 = σ0.get 0 ∧ σ.get 1 = some (.rows 4 (dc.map brow)) ∧ dc.length = L.length ∧ ∀ j, dc[j]? = if j < i then (markR L m d)[j]? else d[j]?

/-- Where the loop that makes the parts stands. -/
def ParInv (L : List (Int × Int)) (m need c : Int) (σ0 : H) (n : Nat) (t : Env) (σ : H) : Prop := ∃ i : Nat, n = L.length - i ∧ i ≤ L.length ∧ t 0 = loadsV L ∧ t 1 = .int .i64 need ∧ t 8 = .sl 1 0 0 L.length true ∧ t 9 = .sl 1 1 0 L.length true ∧
  t 12 = .int .i64 m ∧ t 13 = .int .i64 (gS L m) ∧ t 15 = .int .i64 c ∧ t 17 = .int .i64 i ∧ σ.get 0 = σ0.get 0 ∧ σ.get 1 = σ0.get 1 ∧ 2 ≤ σ.nx ∧
  (i = 0 ∧ t 16 = .nils ∨ 0 < i ∧ ∃ b, 2 ≤ b ∧ b < σ.nx ∧ t 16 = .sl 3 b 0 i false ∧ σ.get b = some (.rows 68 (((parts L m c).take i).map fun p => rrow p.1)))

theorem part_over {L : List (Int × Int)} {m c : Int} (h : GoodL L) (hc0 : 0 ≤ c) (hcS : c ≤ gS L m) {i : Nat} {p : Int × Int} (hp : L[i]? = some p) (he : p.2 = m) :
    ∃ a q, (parts L m c)[i]? = some (a, q) ∧ PRun Try.prog 28 [Qv ((c : Rat) * (p.1 : Rat)), Qv (gS L m : Rat)] (fun r => r = rawV a) := by
  have hr := gS_range (m := m) h
  have hgp := h.amt p (List.mem_of_getElem? hp)
  have hb : 0 ≤ c * p.1 ∧ c * p.1 ≤ 35184372088832 := by
    refine ⟨Int.mul_nonneg hc0 hgp.1, ?_⟩
    have := Int.mul_le_mul (show c ≤ 33554432 by omega) hgp.2 hgp.1 (by decide)
    omega
  have hpt : (parts L m c)[i]? = some (if gS L m = 0 then (r0, 0) else (rq (Rat.divInt (c * p.1) (gS L m)), Rat.divInt (c * p.1) (gS L m))) := by
    unfold parts; rw [List.getElem?_map, hp]; simp [he]
  by_cases h0 : gS L m = 0
  · rw [if_pos h0] at hpt
    refine ⟨_, _, hpt, ?_⟩
    rw [h0]
    exact Over_zero _
  · rw [if_neg h0] at hpt
    refine ⟨_, _, hpt, ?_⟩
    have s1 : SmQ 2 ((c : Rat) * (p.1 : Rat)) := by rw [← Rat.intCast_mul]; exact SmQ.int (sm_i64 (by omega) (by omega) (by omega)) (by omega)
    have s2 : SmQ 2 (gS L m : Rat) := SmQ.int (sm_i64 (by omega) (by omega) (by omega)) (by omega)
    have hne : (gS L m : Rat) ≠ 0 := fun e => by have := cast_pos (show 0 < gS L m by omega); rw [e] at this; exact absurd this (by decide)
    have := Over_Q _ _ s1 s2 (by omega) hne
    rw [← Rat.intCast_mul, ← Rat.divInt_eq_div, Rat.intCast_mul] at this
    exact this

/-- Where the loop that adds the cuts stands. -/
def AddInv (L : List (Int × Int)) (d : List Bool) (m need c : Int) (out : List Int) (n : Nat) (t : Env) (σ : H) : Prop := ∃ (i : Nat) (oc : List Int), n = L.length - i ∧ i ≤ L.length ∧ t 0 = loadsV L ∧ t 1 = .int .i64 need ∧ t 8 = .sl 1 0 0 L.length true ∧ t 9 = .sl 1 1 0 L.length true ∧
  t 15 = .int .i64 c ∧ t 19 = intsV (apo L m c) ∧ t 21 = .int .i64 i ∧ σ.get 0 = some (.rows 3 (oc.map irow)) ∧ σ.get 1 = some (.rows 4 (d.map brow)) ∧ oc.length = L.length ∧ ∀ j, oc[j]? = if j < i then (addL out (apo L m c))[j]? else out[j]?

set_option maxRecDepth 100000 in
theorem RCurtail_ok (L : List (Int × Int)) (need : Int) (h : GoodL L) (hn0 : 0 ≤ need) (hn1 : need ≤ totalL L) (f : Nat) (hf : f ≤ 32) (o : List Int) (ho : curLoop L f (List.replicate L.length false) need (List.replicate L.length 0) = some o) :
    PRun Try.prog 9 [loadsV L, .int .i64 need] (fun r => r = .tup [intsV o, .int .i64 0]) := by
  unfold PRun
  refine Run.frz ?_
  refine run_fn Try.func9 rfl (by simp) ?_
  have hl := h.len
  have hl' : ¬ (32 : Int) < (L.length : Int) := by omega
  have hl'' : ¬ 32 < L.length := by omega
  simp [loadsV, hl', hl'']
  refine ac_loop (CheckInv L need) L.length ⟨0, by omega, by omega, by simp [loadsV], by simp, by simp [isum], by simp, by simp, rfl⟩ ?_
  rintro n t σ ⟨i, rfl, hi, h0, h1, h6, h7, hg, rfl⟩
  have h0' := h0
  simp only [loadsV] at h0'
  by_cases hlt : i < L.length
  · obtain ⟨p, hp⟩ : ∃ p, L[i]? = some p := ⟨_, List.getElem?_eq_getElem hlt⟩
    have dl := decide_eq_true hlt
    have hw : IntKind.i64.wrap ((i : Int) + 1) = (i : Int) + 1 := i64_id (by omega) (by omega)
    have hgp := h.amt p (List.mem_of_getElem? hp)
    have hlo : ¬ p.1 < 0 := by omega
    have hhi : ¬ 1048576 < p.1 := by omega
    have hsum : isum ((L.map (·.1)).take (i + 1)) = isum ((L.map (·.1)).take i) + p.1 := isum_take (by rw [List.getElem?_map, hp]; rfl)
    have hr := isum_range (a := 0) (b := 1048576) ((L.map (·.1)).take i) (by
      intro x hx
      rw [← List.map_take] at hx
      obtain ⟨q, hq, rfl⟩ := List.mem_map.1 hx
      exact hg q hq)
    have hli : ((L.map (·.1)).take i).length ≤ 32 := by simp; omega
    have hw2 : IntKind.i64.wrap (isum ((L.map (·.1)).take i) + p.1) = isum ((L.map (·.1)).take (i + 1)) := by rw [hsum, i64_id (by omega) (by omega)]
    generalize isum ((L.map (·.1)).take i) = s0 at *
    simp [h0', h6, h7, dl, hp, lrow, hlo, hhi]
    simp [hlo, hhi, h0', h6, h7, hp, lrow, hw, hw2]
    exact ⟨L.length - (i + 1), by omega, i + 1, rfl, by omega, by simp [h0], by simp [h1], by simp, by simp, take_good hg hp hgp, rfl⟩
  · obtain rfl : i = L.length := by omega
    rw [List.take_of_length_le (by simp)] at h6
    have dl := decide_eq_false hlt
    have hT : isum (L.map (·.1)) = totalL L := rfl
    rw [hT] at h6
    have hn : ¬ need < 0 := by omega
    have hn2 : ¬ totalL L < need := by omega
    have hl8 : (L.length : Int) * 8 ≤ 1099511627776 ∧ (L.length : Int) * 1 ≤ 1099511627776 ∧ (L.length : Int) ≤ 1099511627776 := by omega
    have hTb : totalL L ≤ 33554432 := by
      have := isum_range (a := 0) (b := 1048576) (L.map (·.1)) (by
        intro x hx
        obtain ⟨q, hq, rfl⟩ := List.mem_map.1 hx
        exact h.amt q hq)
      have e : (L.map (·.1)).length = L.length := List.length_map _
      unfold totalL; omega
    simp [h0', h1, h6, h7, dl, hn, hn2]
    refine adraw2 8 2 5 mixed (by kernel_rfl) (by kernel_rfl) ?_
    simp [h0', ablk, hl8]
    refine ac_loop (RndInv L o) f ⟨_, need, _, ho, by omega, by simp [h0', loadsV], by simp [h1], by simp, by simp, by simp [irow], by simp [brow], by simp, by simp, ?_⟩ ?_
    · intro x hx; rw [List.eq_of_mem_replicate hx]; omega
    clear h0 h0' h1 h6 h7 dl hn hn2 ho hn0 hn1 hT
    rintro f t σ ⟨d, need, out, ho, hneed, h0, h1, h8, h9, hσ0, hσ1, hdl, hol, hob⟩
    have hu0 := σ.wf _ _ hσ0
    have hu1 := σ.wf _ _ hσ1
    have h0' := h0
    simp only [loadsV] at h0'
    by_cases hn : need ≤ 0
    · have hn' : ¬ 0 < need := by omega
      have e : out = o := by
        have : curLoop L f d need out = some out := by unfold curLoop; rw [if_pos hn]
        rw [this] at ho; injection ho
      subst e
      simp [h1, h8, hn']
      exact ⟨⟨_, Frz.tup (i := 0) rfl (frz_ints hσ0 hol.symm)⟩, ints_res_pure _ _⟩
    · have hn' : 0 < need := by omega
      simp [h1, hn']
      -- the best one
      refine ac_loop (fun n t σ' => ∃ i, n = L.length - i ∧ i ≤ L.length ∧ t 0 = loadsV L ∧ t 1 = .int .i64 need ∧ t 8 = .sl 1 0 0 L.length true ∧ t 9 = .sl 1 1 0 L.length true ∧ t 10 = .int .i64 (optI (bestR L d i)) ∧ t 11 = .int .i64 i ∧ σ' = σ) L.length
        ⟨0, by omega, by omega, by simp [h0], by simp [h1], by simp [h8], by simp [h9], by simp [bestR, optI], by simp, rfl⟩ ?_
      rintro n t σ' ⟨i, rfl, hi, h0, h1, h8, h9, h10, h11, rfl⟩
      have h0' := h0
      simp only [loadsV] at h0'
      by_cases hlt : i < L.length
      · obtain ⟨p, hp⟩ : ∃ p, L[i]? = some p := ⟨_, List.getElem?_eq_getElem hlt⟩
        obtain ⟨c, hc⟩ : ∃ c, d[i]? = some c := ⟨_, List.getElem?_eq_getElem (by omega)⟩
        have dl := decide_eq_true hlt
        have hw : IntKind.i64.wrap ((i : Int) + 1) = (i : Int) + 1 := i64_id (by omega) (by omega)
        simp [h0', h11, dl]
        refine adraw' [] mixed (by kernel_rfl) (by kernel_rfl) ?_
        simp [h9, h11, hlt, hσ1, hc, brow]
        cases c with
        | true =>
          have hb : bestR L d (i + 1) = bestR L d i := by
            show (match L[i]?, d[i]? with | some p, some false => _ | _, _ => _) = _
            rw [hp, hc]
          simp [h11, hw]
          exact ⟨L.length - (i + 1), by omega, i + 1, rfl, by omega, by simp [h0], by simp [h1], by simp [h8], by simp [h9], by simp [hb, h10], by simp⟩
        | false =>
          cases hbb : bestR L d i with
          | none =>
            have hb : bestR L d (i + 1) = some i := by
              show (match L[i]?, d[i]? with | some p, some false => _ | _, _ => _) = _
              rw [hp, hc]; simp only [hbb]
            rw [hbb] at h10
            simp [optI] at h10
            simp [h10, h11, hw]
            exact ⟨L.length - (i + 1), by omega, i + 1, rfl, by omega, by simp [h0], by simp [h1], by simp [h8], by simp [h9], by simp [hb, optI], by simp⟩
          | some b =>
            obtain ⟨hbi, ⟨q, hq⟩, hdb⟩ := bestR_lt hbb
            have hb : bestR L d (i + 1) = if p.2 < q.2 then some i else some b := by
              show (match L[i]?, d[i]? with | some p, some false => _ | _, _ => _) = _
              rw [hp, hc]; simp only [hbb, hq]
            rw [hbb] at h10
            simp [optI] at h10
            have hb0 : ¬ ((b : Int) < 0) := by omega
            simp [h10, hb0, h0', h11, hp, hq, lrow]
            by_cases hlt2 : p.2 < q.2
            · rw [if_pos hlt2] at hb
              simp [hlt2, h11, hw]
              exact ⟨L.length - (i + 1), by omega, i + 1, rfl, by omega, by simp [h0], by simp [h1], by simp [h8], by simp [h9], by simp [hb, optI], by simp⟩
            · rw [if_neg hlt2] at hb
              simp [hlt2, h11, hw]
              exact ⟨L.length - (i + 1), by omega, i + 1, rfl, by omega, by simp [h0], by simp [h1], by simp [h8], by simp [h9], by simp [hb, optI, h10], by simp⟩
      · obtain rfl : i = L.length := by omega
        have dl := decide_eq_false hlt
        unfold curLoop at ho
        rw [if_neg hn] at ho
        cases f with
        | zero => simp at ho
        | succ f =>
          simp only at ho
          cases hbb : bestR L d L.length with
          | none => rw [hbb] at ho; simp at ho
          | some b =>
            rw [hbb] at ho h10
            simp [optI] at h10
            simp only at ho
            obtain ⟨hbi, ⟨q, hq⟩, hdb⟩ := bestR_lt hbb
            rw [hq] at ho
            simp only at ho
            obtain ⟨m, hm⟩ : ∃ m, q.2 = m := ⟨_, rfl⟩
            rw [hm] at ho
            simp [h0', h10, h11, dl, hq, lrow, hm]
            refine ac_loop (GrpInv L d m need σ') L.length ⟨0, d, by omega, by omega, by simp [h0], by simp [h1], by simp [h8], by simp [h9], by simp, by simp [isum], by simp, rfl, hσ1, hdl, by simp⟩ ?_
            clear h0 h0' h1 h8 h9 h10 h11 dl
            rintro n t σ ⟨i, dc, rfl, hi, h0, h1, h8, h9, h12, h13, h14, gσ0, gσ1, hdc, hdk⟩
            have hu1' := σ.wf _ _ gσ1
            have h0' := h0
            simp only [loadsV] at h0'
            have hr := gS_range (m := m) h
            by_cases hlt : i < L.length
            · obtain ⟨p, hp⟩ : ∃ p, L[i]? = some p := ⟨_, List.getElem?_eq_getElem hlt⟩
              obtain ⟨c, hc⟩ : ∃ c, dc[i]? = some c := ⟨_, List.getElem?_eq_getElem (by omega)⟩
              have hci : d[i]? = some c := by have := hdk i; rw [if_neg (by omega)] at this; rw [← this]; exact hc
              have dl := decide_eq_true hlt
              have hw : IntKind.i64.wrap ((i : Int) + 1) = (i : Int) + 1 := i64_id (by omega) (by omega)
              have hmk : (markR L m d)[i]? = some (if p.2 = m then true else c) := by
                unfold markR; rw [List.getElem?_zipWith, hp, hci]
              have hns : (ns L m 1)[i]? = some (if p.2 = m then 1 * p.1 else 0) := by unfold ns; rw [List.getElem?_map, hp]; rfl
              have hsum := isum_take hns
              have hgp := h.amt p (List.mem_of_getElem? hp)
              have hnr := isum_range (a := 0) (b := 1048576) ((ns L m 1).take i) (by
                intro x hx
                obtain ⟨q, hq, rfl⟩ := List.mem_map.1 (List.mem_of_mem_take hx)
                have := h.amt q hq
                split <;> omega)
              have hnl : ((ns L m 1).take i).length ≤ 32 := by simp [ns]; omega
              by_cases he : p.2 = m
              · rw [if_pos he, Int.one_mul] at hsum
                rw [if_pos he] at hmk
                have hw2 : IntKind.i64.wrap (isum ((ns L m 1).take i) + p.1) = isum ((ns L m 1).take (i + 1)) := by rw [hsum, i64_id (by omega) (by omega)]
                simp [h0', h14, h12, dl, hp, lrow, he]
                simp [h0', h9, h13, h14, hp, lrow, hlt, gσ1, hc, brow, hu1', hw, hw2]
                refine ⟨L.length - (i + 1), by omega, i + 1, dc.set i true, rfl, by omega, by simp [h0], by simp [h1], by simp [h8], by simp [h9], by simp [h12], by simp, by simp, by simp [gσ0], by simp [hu1', gσ1, brow, List.map_set], by simp [hdc], ?_⟩
                intro j
                by_cases e : j = i
                · subst e; rw [if_pos (by omega), hmk, List.getElem?_set_self (by omega)]
                · rw [List.getElem?_set_ne (fun h => e h.symm), hdk j]
                  by_cases hj : j < i
                  · rw [if_pos hj, if_pos (by omega)]
                  · rw [if_neg hj, if_neg (by omega)]
              · rw [if_neg he, Int.add_zero] at hsum
                rw [if_neg he] at hmk
                simp [h0', h14, h12, dl, hp, lrow, he, hw]
                refine ⟨L.length - (i + 1), by omega, i + 1, dc, rfl, by omega, by simp [h0], by simp [h1], by simp [h8], by simp [h9], by simp [h12], by simp [h13, hsum], by simp, gσ0, gσ1, hdc, ?_⟩
                intro j
                by_cases e : j = i
                · subst e; rw [if_pos (by omega), hc, hmk]
                · rw [hdk j]
                  by_cases hj : j < i
                  · rw [if_pos hj, if_pos (by omega)]
                  · rw [if_neg hj, if_neg (by omega)]
            · obtain rfl : i = L.length := by omega
              have hnl : (ns L m 1).length = L.length := by simp [ns]
              rw [List.take_of_length_le (by omega)] at h13
              have hS : isum (ns L m 1) = gS L m := rfl
              rw [hS] at h13
              have hdm : dc = markR L m d := by
                have hml : (markR L m d).length = L.length := by unfold markR; simp [hdl]
                apply List.ext_getElem?
                intro j
                by_cases hj : j < L.length
                · rw [hdk j, if_pos hj]
                · rw [List.getElem?_eq_none (by omega), List.getElem?_eq_none (by omega)]
              subst hdm
              have dl := decide_eq_false hlt
              obtain ⟨c, hc⟩ : ∃ c, min need (gS L m) = c := ⟨_, rfl⟩
              rw [hc] at ho
              have hc0 : 0 ≤ c := by omega
              have hcS : c ≤ gS L m := by omega
              have hcm : (if gS L m < need then gS L m else need) = c := by split <;> omega
              simp [h0', h1, h12, h13, h14, dl, afold, amin2, hcm]
              refine ac_loop (ParInv L m need c σ) L.length ⟨0, by omega, by omega, by simp [h0', loadsV], by simp [h1], by simp [h8], by simp [h9], by simp [h12], by simp [h13], by simp, by simp, rfl, rfl, ?_, .inl ⟨rfl, by simp⟩⟩ ?_
              · have := H.get_lt gσ1; omega
              clear h0 h0' h1 h8 h9 h12 h13 h14 dl
              rintro n t σ2 ⟨i, rfl, hi, h0, h1, h8, h9, h12, h13, h15, h17, k0, k1, knx, h16⟩
              have h0' := h0
              simp only [loadsV] at h0'
              by_cases hlt : i < L.length
              · obtain ⟨p, hp⟩ : ∃ p, L[i]? = some p := ⟨_, List.getElem?_eq_getElem hlt⟩
                have dl := decide_eq_true hlt
                have hw : IntKind.i64.wrap ((i : Int) + 1) = (i : Int) + 1 := i64_id (by omega) (by omega)
                have hgp := h.amt p (List.mem_of_getElem? hp)
                simp [h0', h17, dl]
                refine Run.pcall Zero_run (by simp) ?_
                simp [Qv_eq]
                by_cases he : p.2 = m
                · have hb : 0 ≤ c * p.1 ∧ c * p.1 ≤ 35184372088832 := by
                    refine ⟨Int.mul_nonneg hc0 hgp.1, ?_⟩
                    have := Int.mul_le_mul (show c ≤ 33554432 by omega) hgp.2 hgp.1 (by decide)
                    omega
                  have hwm : IntKind.i64.wrap (c * p.1) = c * p.1 := i64_id (by omega) (by omega)
                  simp [h0', h12, h17, hp, lrow, he, h15, hwm]
                  refine Run.pcall (FromInt_Q (c * p.1) (by omega) (by omega)) (pure_one (.int _ _)) ?_
                  simp [h13]
                  refine Run.pcall (FromInt_Q (gS L m) (by omega) (by omega)) (pure_one (.int _ _)) ?_
                  simp
                  obtain ⟨a, q', hpt, hov⟩ := part_over h hc0 hcS hp he
                  refine Run.pcall hov (pure_QQ _ _) ?_
                  obtain ⟨rows, hrows⟩ : ∃ rows, (((parts L m c).take i).map fun p => rrow p.1) = rows := ⟨_, rfl⟩
                  have hrows1 : (((parts L m c).take (i + 1)).map fun p => rrow p.1) = rows ++ [rrow a] := by
                    rw [List.take_add_one, hpt, List.map_append, hrows]; rfl
                  have hrl : rows.length = i := by rw [← hrows]; simp [parts]; omega
                  rw [hrows] at h16
                  have hs0 : ¬ (0 = σ2.nx + 1 + 1) ∧ ¬ (0 = σ2.nx + 1) ∧ ¬ (0 = σ2.nx) ∧ ¬ (1 = σ2.nx + 1 + 1) ∧ ¬ (1 = σ2.nx + 1) ∧ ¬ (1 = σ2.nx) := by omega
                  have hnx0 : ¬ σ2.nx = 0 := by omega
                  rcases h16 with ⟨rfl, h16⟩ | ⟨hi0, b, hb2, hbn, h16, hσb⟩
                  · obtain rfl : rows = [] := List.eq_nil_of_length_eq_zero hrl
                    simp [rawV_eq, h16, h17, rowsOk, fitsMem]
                    have hw1 : IntKind.i64.wrap 1 = 1 := i64_id (by omega) (by omega)
                    refine ⟨L.length - 1, by omega, 1, rfl, by omega, by simp [h0], by simp [h1], by simp [h8], by simp [h9], by simp [h12], by simp [h13], by simp [h15], by simp [hw1], by simp [k0, hs0], by simp [k1, hs0, hnx0], by simp, .inr ⟨by omega, σ2.nx + 1 + 1, by omega, by simp, by simp, ?_⟩⟩
                    rw [hrows1]
                    simp [rrow]
                  · have hbf : ¬ b = σ2.nx + 1 ∧ ¬ b = σ2.nx := by omega
                    have hb01 : ¬ 0 = b ∧ ¬ 1 = b := by omega
                    have hsz : (i + 1 + 256) * 56 ≤ 1099511627776 := by omega
                    simp [rawV_eq, h16, h17, hσb, rowsOk, fitsMem, hbf, hsz, hrl, hw]
                    refine ⟨L.length - (i + 1), by omega, i + 1, rfl, by omega, by simp [h0], by simp [h1], by simp [h8], by simp [h9], by simp [h12], by simp [h13], by simp [h15], by simp, by simp [k0, hs0, hb01], by simp [k1, hs0, hb01, hnx0], by simp, .inr ⟨by omega, σ2.nx + 1 + 1, by omega, by simp, by simp, ?_⟩⟩
                    rw [hrows1]
                    simp [rrow]
                · have hpt : (parts L m c)[i]? = some (rq 0, 0) := by unfold parts; rw [List.getElem?_map, hp]; simp [he]
                  have hrr : rrow (rq 0) = [V.bool false, N 0, N 1] := rfl
                  obtain ⟨rows, hrows⟩ : ∃ rows, (((parts L m c).take i).map fun p => rrow p.1) = rows := ⟨_, rfl⟩
                  have hrows1 : (((parts L m c).take (i + 1)).map fun p => rrow p.1) = rows ++ [[V.bool false, N 0, N 1]] := by
                    rw [List.take_add_one, hpt, List.map_append, hrows]; rfl
                  have hrl : rows.length = i := by rw [← hrows]; simp [parts]; omega
                  rw [hrows] at h16
                  have hs0 : ¬ (0 = σ2.nx + 1 + 1) ∧ ¬ (0 = σ2.nx + 1) ∧ ¬ (0 = σ2.nx) ∧ ¬ (1 = σ2.nx + 1 + 1) ∧ ¬ (1 = σ2.nx + 1) ∧ ¬ (1 = σ2.nx) := by omega
                  have hnx0 : ¬ σ2.nx = 0 := by omega
                  simp [h0', h12, h17, hp, lrow, he]
                  rcases h16 with ⟨rfl, h16⟩ | ⟨hi0, b, hb2, hbn, h16, hσb⟩
                  · obtain rfl : rows = [] := List.eq_nil_of_length_eq_zero hrl
                    simp [h16, h17, rowsOk, fitsMem]
                    have hw1 : IntKind.i64.wrap 1 = 1 := i64_id (by omega) (by omega)
                    refine ⟨L.length - 1, by omega, 1, rfl, by omega, by simp [h0], by simp [h1], by simp [h8], by simp [h9], by simp [h12], by simp [h13], by simp [h15], by simp [hw1], by simp [k0, hs0], by simp [k1, hs0, hnx0], by simp, .inr ⟨by omega, σ2.nx + 1 + 1, by omega, by simp, by simp, ?_⟩⟩
                    rw [hrows1]
                    simp
                  · have hbf : ¬ b = σ2.nx + 1 ∧ ¬ b = σ2.nx := by omega
                    have hb01 : ¬ 0 = b ∧ ¬ 1 = b := by omega
                    have hsz : (i + 1 + 256) * 56 ≤ 1099511627776 := by omega
                    simp [h16, h17, hσb, rowsOk, fitsMem, hbf, hsz, hrl, hw]
                    refine ⟨L.length - (i + 1), by omega, i + 1, rfl, by omega, by simp [h0], by simp [h1], by simp [h8], by simp [h9], by simp [h12], by simp [h13], by simp [h15], by simp, by simp [k0, hs0, hb01], by simp [k1, hs0, hb01, hnx0], by simp, .inr ⟨by omega, σ2.nx + 1 + 1, by omega, by simp, by simp, ?_⟩⟩
                    rw [hrows1]
                    simp
              · obtain rfl : i = L.length := by omega
                have dl := decide_eq_false hlt
                have hpl : (parts L m c).length = L.length := by simp [parts]
                rcases h16 with ⟨h00, _⟩ | ⟨_, b2, hb2, hbn, h16, hσb⟩
                · omega
                rw [List.take_of_length_le (by omega)] at hσb
                simp [h0', h17, dl, h16]
                have hz := Frz.sl (P := Try.prog) (sz := 3) (off := 0) (len := L.length) (ex := false) (ex' := false) hσb (by simp [hpl]) (by simp)
                rw [List.drop_zero, List.take_of_length_le (by simp [hpl])] at hz
                refine Run.frzArg 0 rfl hz ?_
                refine Run.pcall (Apportion_parts h hc0 hcS) (pure_one (ratsV_pure _)) ?_
                simp
                have hap := apo_spec h hc0 hcS
                have hb20 : ¬ 0 = b2 ∧ ¬ 1 = b2 := by omega
                refine ac_loop (AddInv L (markR L m d) m need c out) L.length ⟨0, out, by omega, by omega, by simp [h0], by simp [h1], by simp [h8], by simp [h9], by simp [h15], by simp, by simp, by simp [hb20, k0, gσ0, hσ0], by simp [hb20, k1, gσ1], hol, by simp⟩ ?_
                clear h0 h0' h1 h8 h9 h12 h13 h15 h16 h17 dl k0 k1
                rintro n t σ3 ⟨i, oc, rfl, hi, h0, h1, h8, h9, h15, h19, h21, gσ0', gσ1', hoc, hok⟩
                have hu0' := σ3.wf _ _ gσ0'
                have h0' := h0
                simp only [loadsV] at h0'
                have h19' := h19
                simp only [intsV] at h19'
                by_cases hlt : i < L.length
                · obtain ⟨x, hx⟩ : ∃ x, oc[i]? = some x := ⟨_, List.getElem?_eq_getElem (by omega)⟩
                  have hxo : out[i]? = some x := by have := hok i; rw [if_neg (by omega)] at this; rw [← this]; exact hx
                  obtain ⟨y, hy⟩ : ∃ y, (apo L m c)[i]? = some y := ⟨_, List.getElem?_eq_getElem (by omega)⟩
                  have hxb := hob x (List.mem_of_getElem? hxo)
                  have hyb := hap.2.2 y (List.mem_of_getElem? hy)
                  have dl := decide_eq_true hlt
                  have hw : IntKind.i64.wrap ((i : Int) + 1) = (i : Int) + 1 := i64_id (by omega) (by omega)
                  have hw2 : IntKind.i64.wrap (x + y) = x + y := i64_id (by omega) (by omega)
                  have hadd : (addL out (apo L m c))[i]? = some (x + y) := by unfold addL; rw [List.getElem?_zipWith, hxo, hy]
                  simp [h0', h21, dl]
                  refine adrawP 9 [] mixed (by kernel_rfl) (by kernel_rfl) ?_
                  simp [h8, h21, hlt, gσ0', hx, irow]
                  simp [h8, h19', h21, gσ0', hy, irow, hlt, hx, hw2, hw]
                  refine ⟨L.length - (i + 1), by omega, i + 1, oc.set i (x + y), rfl, by omega, by simp [h0], by simp [h1], by simp [h8], by simp [h9], by simp [h15], by simp [h19], by simp, by simp [hu0', gσ0', irow, List.map_set], by simp [gσ1'], by simp [hoc], ?_⟩
                  intro j
                  by_cases e : j = i
                  · subst e; rw [if_pos (by omega), hadd, List.getElem?_set_self (by omega)]
                  · rw [List.getElem?_set_ne (fun h => e h.symm), hok j]
                    by_cases hj : j < i
                    · rw [if_pos hj, if_pos (by omega)]
                    · rw [if_neg hj, if_neg (by omega)]
                · obtain rfl : i = L.length := by omega
                  have hal : (addL out (apo L m c)).length = L.length := by unfold addL; simp [hol, hap.2.1]
                  have hoce : oc = addL out (apo L m c) := by
                    apply List.ext_getElem?
                    intro j
                    by_cases hj : j < L.length
                    · rw [hok j, if_pos hj]
                    · rw [List.getElem?_eq_none (by omega), List.getElem?_eq_none (by omega)]
                  subst hoce
                  have dl := decide_eq_false hlt
                  have hwn : IntKind.i64.wrap (need - c) = need - c := i64_id (by omega) (by omega)
                  simp [h0', h21, dl, h1, h15, hwn]
                  refine ⟨f, by omega, markR L m d, need - c, addL out (apo L m c), ho, by omega, by simp [h0], by simp, by simp [h8], by simp [h9], by simp [gσ0'], by simp [gσ1'], by unfold markR; simp [hdl], hal, ?_⟩
                  intro x hx
                  obtain ⟨j, hj⟩ := List.getElem?_of_mem hx
                  unfold addL at hj
                  rw [List.getElem?_zipWith] at hj
                  cases h1 : out[j]? with
                  | none => rw [h1] at hj; simp at hj
                  | some u =>
                    cases h2 : (apo L m c)[j]? with
                    | none => rw [h1, h2] at hj; simp at hj
                    | some v =>
                      rw [h1, h2] at hj
                      simp at hj
                      have := hob u (List.mem_of_getElem? h1)
                      have := hap.2.2 v (List.mem_of_getElem? h2)
                      omega

end Go.Proofs.Ytngbibpmaofamaa.Ab

/- The reference's Curtail: its rounds come to an end. -/
-- Cur3
namespace Go.Proofs.Ytngbibpmaofamaa.Ab
open Go Num

/-- What is left of the loads that are not done. -/
def rem : List (Int × Int) → List Bool → Int
  | p :: L, b :: d => (if b = true then 0 else p.1) + rem L d
  | _, _ => 0
def cntF : List Bool → Nat
  | [] => 0
  | b :: d => (if b = true then 0 else 1) + cntF d

theorem rem_all : ∀ {L : List (Int × Int)} {d : List Bool}, (∀ b ∈ d, b = true) → rem L d = 0
  | [], d, _ => by cases d <;> rfl
  | p :: L, [], _ => rfl
  | p :: L, b :: d, h => by
    have hb := h b (List.mem_cons_self ..)
    have ih := rem_all (L := L) (d := d) fun x hx => h x (List.mem_cons_of_mem _ hx)
    simp only [rem, hb, if_true, ih]; omega

theorem rem_nonneg : ∀ {L : List (Int × Int)} {d : List Bool}, (∀ p ∈ L, goodAmt p) → 0 ≤ rem L d
  | [], d, _ => by cases d <;> exact Int.le_refl 0
  | p :: L, [], _ => Int.le_refl 0
  | p :: L, b :: d, h => by
    have hp := h p (List.mem_cons_self ..)
    have ih := rem_nonneg (L := L) (d := d) fun x hx => h x (List.mem_cons_of_mem _ hx)
    simp only [rem]
    split
    · omega
    · have := hp.1; omega

/-- No load of the merit is done. -/
def Open (L : List (Int × Int)) (d : List Bool) (m : Int) : Prop := ∀ (i : Nat) (p : Int × Int), L[i]? = some p → p.2 = m → d[i]? = some false

theorem rem_mark {m : Int} : ∀ {L : List (Int × Int)} {d : List Bool}, d.length = L.length → Open L d m → rem L (markR L m d) = rem L d - isum (ns L m 1)
  | [], d, hl, _ => by cases d <;> simp [markR, rem, ns, isum]
  | p :: L, [], hl, _ => by simp at hl
  | p :: L, b :: d, hl, ho => by
    have ih := rem_mark (m := m) (L := L) (d := d) (by simpa using hl) fun i q h1 h2 => by simpa using ho (i + 1) q (by simpa using h1) h2
    have e : ns (p :: L) m 1 = (if p.2 = m then 1 * p.1 else 0) :: ns L m 1 := rfl
    have e2 : markR (p :: L) m (b :: d) = (if p.2 = m then true else b) :: markR L m d := rfl
    rw [e, e2, isum_cons]
    simp only [rem]
    rw [ih]
    by_cases h : p.2 = m
    · have hb : b = false := by have := ho 0 p rfl h; simpa using this
      subst hb
      simp only [h, if_true, Bool.false_eq_true, if_false]
      omega
    · simp only [h, if_false]
      omega

theorem cnt_mark {m : Int} : ∀ {L : List (Int × Int)} {d : List Bool}, cntF (markR L m d) ≤ cntF d ∧ ∀ (i : Nat) (p : Int × Int), L[i]? = some p → p.2 = m → d[i]? = some false → cntF (markR L m d) + 1 ≤ cntF d
  | [], d => ⟨by simp [markR, cntF], fun i p h => by simp at h⟩
  | p :: L, [] => ⟨by simp [markR, cntF], fun i p _ _ h => by simp at h⟩
  | p :: L, b :: d => by
    obtain ⟨h1, h2⟩ := cnt_mark (m := m) (L := L) (d := d)
    have e2 : markR (p :: L) m (b :: d) = (if p.2 = m then true else b) :: markR L m d := rfl
    rw [e2]
    simp only [cntF]
    refine ⟨?_, ?_⟩
    · by_cases h : p.2 = m
      · simp only [h, if_true]; omega
      · simp only [h, if_false]; omega
    · intro i q hq hm hd
      cases i with
      | zero =>
        simp at hq hd
        subst hq; subst hd
        simp only [hm, if_true, Bool.false_eq_true, if_false]; omega
      | succ i =>
        have := h2 i q (by simpa using hq) hm (by simpa using hd)
        by_cases h : p.2 = m
        · simp only [h, if_true]; omega
        · simp only [h, if_false]; omega

theorem bestR_none {L : List (Int × Int)} {d : List Bool} : ∀ {i : Nat}, i ≤ L.length → d.length = L.length → bestR L d i = none → ∀ j, j < i → d[j]? = some true
  | 0, _, _, _, j, hj => by omega
  | i + 1, hi, hl, h, j, hj => by
    obtain ⟨p, hp⟩ : ∃ p, L[i]? = some p := ⟨_, List.getElem?_eq_getElem (by omega)⟩
    obtain ⟨c, hc⟩ : ∃ c, d[i]? = some c := ⟨_, List.getElem?_eq_getElem (by omega)⟩
    unfold bestR at h
    rw [hp, hc] at h
    cases c with
    | true =>
      simp only at h
      by_cases e : j = i
      · subst e; exact hc
      · exact bestR_none (by omega) hl h j (by omega)
    | false =>
      simp only at h
      cases hb : bestR L d i with
      | none => rw [hb] at h; simp at h
      | some b =>
        rw [hb] at h
        simp only at h
        split at h
        · split at h <;> simp at h
        · simp at h

theorem curLoop_some {L : List (Int × Int)} (h : GoodL L) : ∀ (f : Nat) (d : List Bool) (need : Int) (out : List Int), cntF d ≤ f → d.length = L.length → (∀ (i : Nat) (p : Int × Int), L[i]? = some p → d[i]? = some false → Open L d p.2) → need ≤ rem L d → ∃ o, curLoop L f d need out = some o := by
  intro f
  induction f with
  | zero =>
    intro d need out hf hl ho hn
    have hall : ∀ b ∈ d, b = true := by
      have : ∀ (d : List Bool), cntF d ≤ 0 → ∀ b ∈ d, b = true := by
        intro d
        induction d with
        | nil => intro _ b hb; simp at hb
        | cons x d ih =>
          intro hc b hb
          simp only [cntF] at hc
          cases x with
          | false => simp at hc
          | true =>
            rcases List.mem_cons.1 hb with e | e
            · exact e
            · exact ih (by simpa using hc) b e
      exact this d hf
    rw [rem_all hall] at hn
    unfold curLoop
    rw [if_pos hn]
    exact ⟨out, rfl⟩
  | succ f ih =>
    intro d need out hf hl ho hn
    unfold curLoop
    by_cases hn0 : need ≤ 0
    · rw [if_pos hn0]; exact ⟨out, rfl⟩
    · rw [if_neg hn0]
      simp only
      cases hb : bestR L d L.length with
      | none =>
        exfalso
        have hall : ∀ b ∈ d, b = true := by
          intro b hbm
          obtain ⟨j, hj⟩ := List.getElem?_of_mem hbm
          have hjl : j < L.length := by have := (List.getElem?_eq_some_iff.1 hj).1; omega
          have := bestR_none (Nat.le_refl _) hl hb j hjl
          rw [this] at hj; injection hj with hj; exact hj.symm
        rw [rem_all hall] at hn
        omega
      | some b =>
        obtain ⟨hbl, ⟨p, hp⟩, hdb⟩ := bestR_lt hb
        simp only [hp]
        have hop := ho b p hp hdb
        have hrm := rem_mark (m := p.2) hl hop
        have hS : isum (ns L p.2 1) = gS L p.2 := rfl
        rw [hS] at hrm
        have hcm := (cnt_mark (m := p.2) (L := L) (d := d)).2 b p hp rfl hdb
        have hml : (markR L p.2 d).length = L.length := by unfold markR; simp [hl]
        have hnn := rem_nonneg (L := L) (d := markR L p.2 d) h.amt
        refine ih _ _ _ (by omega) hml ?_ (by omega)
        intro i q hq hqd j r hr hrq
        -- a load that is still open: its merit is another one
        have hmi : (markR L p.2 d)[i]? = (d[i]?).map fun b => if q.2 = p.2 then true else b := by
          unfold markR; rw [List.getElem?_zipWith, hq]; cases d[i]? <;> rfl
        rw [hmi] at hqd
        have hqm : ¬ q.2 = p.2 := by
          intro e
          cases hdi : d[i]? with
          | none => rw [hdi] at hqd; simp at hqd
          | some c => rw [hdi] at hqd; simp [e] at hqd
        have hdi : d[i]? = some false := by
          cases hdi : d[i]? with
          | none => rw [hdi] at hqd; simp at hqd
          | some c => rw [hdi] at hqd; simp [hqm] at hqd; rw [hqd]
        have := ho i q hq hdi j r hr hrq
        have hmj : (markR L p.2 d)[j]? = (d[j]?).map fun b => if r.2 = p.2 then true else b := by
          unfold markR; rw [List.getElem?_zipWith, hr]; cases d[j]? <;> rfl
        rw [hmj, this]
        simp [show ¬ r.2 = p.2 by rw [hrq]; exact hqm]

theorem cntF_le : ∀ d : List Bool, cntF d ≤ d.length
  | [] => Nat.le_refl _
  | b :: d => by
    have := cntF_le d
    simp only [cntF, List.length_cons]
    split <;> omega

theorem rem_start : ∀ L : List (Int × Int), rem L (List.replicate L.length false) = totalL L
  | [] => rfl
  | p :: L => by
    have ih := rem_start L
    rw [List.length_cons, List.replicate_succ]
    simp only [rem, ih]
    unfold totalL
    rw [List.map_cons, isum_cons]
    simp

/-- The reference always has an answer. -/
theorem curLoop_ex {L : List (Int × Int)} (h : GoodL L) {need : Int} (hn : need ≤ totalL L) : ∃ o, curLoop L L.length (List.replicate L.length false) need (List.replicate L.length 0) = some o := by
  refine curLoop_some h _ _ _ _ (by have := cntF_le (List.replicate L.length false); simpa using this) (by simp) ?_ (by rw [rem_start]; exact hn)
  intro i p hp _ j q hq _
  have hj : j < L.length := (List.getElem?_eq_some_iff.1 hq).1
  exact List.getElem?_replicate.trans (if_pos hj)

/-- What the reference's Curtail does, at every input. -/
theorem RCurtail (L : List (Int × Int)) (need : Int) : ∃ res, RefCur L need res ∧ PRun Try.prog 9 [loadsV L, .int .i64 need] (fun r => r = .tup [intsV res.1, .int .i64 res.2]) := by
  by_cases hl : 32 < L.length
  · exact ⟨_, .limit hl, RCurtail_limit L need hl⟩
  · by_cases hg : ∀ p ∈ L, goodAmt p
    · have h : GoodL L := ⟨by omega, hg⟩
      by_cases hn : 0 ≤ need ∧ need ≤ totalL L
      · obtain ⟨o, ho⟩ := curLoop_ex h hn.2
        exact ⟨_, .ok h hn.1 hn.2 ho, RCurtail_ok L need h hn.1 hn.2 _ h.len o ho⟩
      · exact ⟨_, .range h hn, RCurtail_range L need (by omega) fun hc => hn hc.2⟩
    · exact ⟨_, .amount (by omega) hg, RCurtail_range L need (by omega) fun hc => hg hc.1⟩

end Go.Proofs.Ytngbibpmaofamaa.Ab

/- cmp.Compare at int. -/
-- ExeA
namespace Go.Proofs.Ytngbibpmaofamaa.Ab
open Go Num

set_option maxRecDepth 100000 in
theorem isNaN_run (x : Int) : PRun Try.prog 98 [.int .i64 x] (fun r => r = .bool false) := by
  unfold PRun
  refine run_fn Try.func98 rfl (by simp) ?_
  simp
  exact .bool _

def cmpI64 (x y : Int) : Int := if x < y then -1 else if y < x then 1 else 0

set_option maxRecDepth 100000 in
theorem cmp_run (x y : Int) : PRun Try.prog 61 [.int .i64 x, .int .i64 y] (fun r => r = .int .i64 (cmpI64 x y)) := by
  unfold PRun
  refine run_fn Try.func61 rfl (by simp) ?_
  simp
  refine Run.pcall (isNaN_run x) (pure_one (.int _ _)) ?_
  simp
  refine Run.pcall (isNaN_run y) (pure_one (.int _ _)) ?_
  simp
  unfold cmpI64
  by_cases h1 : x < y
  · simp [h1]
    exact .int _ _
  · by_cases h2 : y < x
    · simp [h1, h2]
      exact .int _ _
    · simp [h1, h2]
      exact .int _ _

/-- The remainder that a load's cut leaves. -/
def keyOf (L : List (Int × Int)) (c S : Int) (i : Nat) : Int := (c * ((L[i]?).getD (0, 0)).1) % S

set_option maxRecDepth 100000 in
theorem closure_run (L : List (Int × Int)) (h : GoodL L) (c S : Int) (hc0 : 0 ≤ c) (hc1 : c ≤ 33554432) (hS0 : 0 < S) (hS1 : S ≤ 33554432) (σ : H) (b1 b2 b3 : Nat) (h1 : σ.get b1 = some (.rows 3 [[.int .i64 c]])) (h2 : σ.get b2 = some (.rows 22 [[loadsV L]]))
    (h3 : σ.get b3 = some (.rows 3 [[.int .i64 S]])) (x y : Nat) (hx : x < L.length) (hy : y < L.length) :
    Run Try.prog 60 [.int .i64 x, .int .i64 y, .ptr b1 0 0, .ptr b2 0 0, .ptr b3 0 0] σ fun r σ' => r = .int .i64 (cmpI64 (keyOf L c S y) (keyOf L c S x)) ∧ σ' = σ := by
  refine run_fn Try.func60 rfl (by simp) ?_
  obtain ⟨p, hp⟩ : ∃ p, L[x]? = some p := ⟨_, List.getElem?_eq_getElem hx⟩
  obtain ⟨q, hq⟩ : ∃ q, L[y]? = some q := ⟨_, List.getElem?_eq_getElem hy⟩
  have hgp := h.amt p (List.mem_of_getElem? hp)
  have hgq := h.amt q (List.mem_of_getElem? hq)
  have bnd : ∀ a : Int, 0 ≤ a → a ≤ 1048576 → 0 ≤ c * a ∧ c * a ≤ 35184372088832 := by
    intro a h0 h1
    refine ⟨Int.mul_nonneg hc0 h0, ?_⟩
    have := Int.mul_le_mul hc1 h1 h0 (by decide)
    omega
  have b1' := bnd p.1 hgp.1 hgp.2
  have b2' := bnd q.1 hgq.1 hgq.2
  have e1 : keyOf L c S x = (c * p.1) % S := by unfold keyOf; rw [hp]; rfl
  have e2 : keyOf L c S y = (c * q.1) % S := by unfold keyOf; rw [hq]; rfl
  have m1 := Int.emod_nonneg (c * p.1) (show S ≠ 0 by omega)
  have m2 := Int.emod_nonneg (c * q.1) (show S ≠ 0 by omega)
  have m3 := Int.emod_lt_of_pos (c * p.1) hS0
  have m4 := Int.emod_lt_of_pos (c * q.1) hS0
  have w1 : IntKind.i64.wrap (c * p.1) = c * p.1 := i64_id (by omega) (by omega)
  have w2 : IntKind.i64.wrap (c * q.1) = c * q.1 := i64_id (by omega) (by omega)
  have t1 : (c * p.1).tmod S = (c * p.1) % S := Int.tmod_eq_emod_of_nonneg b1'.1
  have t2 : (c * q.1).tmod S = (c * q.1) % S := Int.tmod_eq_emod_of_nonneg b2'.1
  have w3 : IntKind.i64.wrap ((c * p.1) % S) = (c * p.1) % S := i64_id (by omega) (by omega)
  have w4 : IntKind.i64.wrap ((c * q.1) % S) = (c * q.1) % S := i64_id (by omega) (by omega)
  have hS : ¬ S = 0 := by omega
  simp
  refine adraw' [] mixed (by kernel_rfl) (by kernel_rfl) ?_
  simp [h1, h2, h3, loadsV, hp, hq, lrow, w1, w2, t1, t2, w3, w4, hS]
  refine ⟨?_, .int _ _, .int _ _⟩
  rw [e1, e2]
  exact cmp_run _ _

end Go.Proofs.Ytngbibpmaofamaa.Ab

/- executive.share: what it puts is what the reference's Apportion gives. -/
-- ShA
namespace Go.Proofs.Ytngbibpmaofamaa.Ab
open Go Num

def am (L : List (Int × Int)) (x : Int) : Int := ((L[x.toNat]?).getD (0, 0)).1
def me (L : List (Int × Int)) (x : Int) : Int := ((L[x.toNat]?).getD (0, 0)).2
abbrev inG (L : List (Int × Int)) (m x : Int) : Prop := me L x = m ∧ 0 < am L x
def grp (L : List (Int × Int)) (m : Int) : Nat → List Int
  | 0 => []
  | n + 1 => grp L m n ++ if inG L m n then [(n : Int)] else []

theorem mem_grp {L : List (Int × Int)} {m x : Int} : ∀ {n : Nat}, x ∈ grp L m n ↔ 0 ≤ x ∧ x < n ∧ inG L m x
  | 0 => by
    simp only [grp, List.not_mem_nil, false_iff]
    omega
  | n + 1 => by
    rw [grp, List.mem_append, mem_grp]
    by_cases h : inG L m n
    · rw [if_pos h, List.mem_singleton]
      constructor
      · rintro (⟨h1, h2, h3⟩ | rfl)
        · exact ⟨h1, by omega, h3⟩
        · exact ⟨by omega, by omega, h⟩
      · rintro ⟨h1, h2, h3⟩
        by_cases e : x = n
        · exact .inr e
        · exact .inl ⟨h1, by omega, h3⟩
    · rw [if_neg h]
      constructor
      · rintro (⟨h1, h2, h3⟩ | h1)
        · exact ⟨h1, by omega, h3⟩
        · simp at h1
      · rintro ⟨h1, h2, h3⟩
        by_cases e : x = n
        · subst e; exact absurd h3 h
        · exact .inl ⟨h1, by omega, h3⟩

theorem grp_asc (L : List (Int × Int)) (m : Int) : ∀ n, (grp L m n).Pairwise (· < ·)
  | 0 => List.Pairwise.nil
  | n + 1 => by
    rw [grp, List.pairwise_append]
    refine ⟨grp_asc L m n, ?_, fun x hx y hy => ?_⟩
    · split <;> simp
    · have h1 := mem_grp.1 hx
      split at hy
      · rw [List.mem_singleton.1 hy]; exact h1.2.1
      · simp at hy

theorem grp_len (L : List (Int × Int)) (m : Int) : ∀ n, (grp L m n).length ≤ n
  | 0 => Nat.le_refl _
  | n + 1 => by
    have := grp_len L m n
    rw [grp, List.length_append]
    split <;> simp <;> omega

theorem nodup_of_asc {l : List Int} (h : l.Pairwise (· < ·)) : l.Nodup := h.imp fun h2 => by omega

theorem isum_append : ∀ (a b : List Int), isum (a ++ b) = isum a + isum b
  | [], b => by simp [isum]
  | x :: a, b => by rw [List.cons_append, isum_cons, isum_cons, isum_append a b]; omega

theorem isum_eq_sum : ∀ l : List Int, isum l = l.sum
  | [] => rfl
  | x :: l => by rw [isum_cons, List.sum_cons, isum_eq_sum l]

/-- The sum over the group is the sum over all loads. -/
theorem grp_sum {L : List (Int × Int)} (h : GoodL L) (m c : Int) (f : Int → Int) (f0 : f 0 = 0) : ∀ n, n ≤ L.length → isum ((grp L m n).map fun x => f (c * am L x)) = isum (((ns L m c).map f).take n)
  | 0, _ => by simp [grp, isum]
  | n + 1, hn => by
    obtain ⟨p, hp⟩ : ∃ p, L[n]? = some p := ⟨_, List.getElem?_eq_getElem (by omega)⟩
    have hg := h.amt p (List.mem_of_getElem? hp)
    have e1 : am L (n : Int) = p.1 := by unfold am; simp [hp]
    have e2 : me L (n : Int) = p.2 := by unfold me; simp [hp]
    have e3 : ((ns L m c).map f)[n]? = some (f (if p.2 = m then c * p.1 else 0)) := by simp [ns, hp]
    rw [isum_take e3, ← grp_sum h m c f f0 n (by omega), grp, List.map_append, isum_append]
    unfold inG
    rw [e1, e2]
    by_cases hm : p.2 = m
    · by_cases h0 : 0 < p.1
      · rw [if_pos ⟨hm, h0⟩, if_pos hm]; simp [isum, e1]
      · have : p.1 = 0 := by omega
        rw [if_neg (fun x => h0 x.2), if_pos hm, this, Int.mul_zero, f0]; simp [isum]
    · rw [if_neg (fun x => hm x.1), if_neg hm, f0]; simp [isum]

theorem grp_sum_all {L : List (Int × Int)} (h : GoodL L) (m c : Int) (f : Int → Int) (f0 : f 0 = 0) : isum ((grp L m L.length).map fun x => f (c * am L x)) = isum ((ns L m c).map f) := by
  rw [grp_sum h m c f f0 L.length (Nat.le_refl _), List.take_of_length_le (by simp [ns])]

theorem perm_sum {l l' : List Int} (h : l.Perm l') (f : Int → Int) : (l.map f).sum = (l'.map f).sum := by
  induction h with
  | nil => rfl
  | cons x _ ih => simp [ih]
  | swap x y l =>
    simp only [List.map_cons, List.sum_cons]
    omega
  | trans _ _ h1 h2 => exact h1.trans h2
theorem sum_le {f : Int → Int} {B : Int} : ∀ l : List Int, (∀ x ∈ l, f x ≤ B) → (l.map f).sum ≤ l.length * B
  | [], _ => by simp
  | x :: l, h => by
    have ih := sum_le l (fun y hy => h y (by simp [hy]))
    have hx := h x (by simp)
    rw [List.map_cons, List.sum_cons, List.length_cons, show ((l.length + 1 : Nat) : Int) = (l.length : Int) + 1 by omega, Int.add_mul]
    omega
theorem sum_ge0 {f : Int → Int} : ∀ l : List Int, (∀ x ∈ l, 0 ≤ f x) → 0 ≤ (l.map f).sum
  | [], _ => by simp
  | x :: l, h => by
    have ih := sum_ge0 l (fun y hy => h y (by simp [hy]))
    have hx := h x (by simp)
    rw [List.map_cons, List.sum_cons]
    omega

/-- The sum of what lies at the head of a list that descends, where the sum of all is s times as much as the head is long and each is less than s: nothing there is 0. -/
theorem head_pos {f : Int → Int} {s : Int} (hs : 0 < s) (D : List Int) (n : Nat) (hf : ∀ x ∈ D, 0 ≤ f x ∧ f x < s) (hd : D.Pairwise fun x y => f y ≤ f x) (hsum : (D.map f).sum = s * n) : ∀ x ∈ D.take n, 0 < f x := by
  intro x hx
  refine Int.not_le.1 fun h0 => ?_
  obtain ⟨A, B, e⟩ := List.append_of_mem hx
  have eD : D = A ++ x :: (B ++ D.drop n) := by
    conv => lhs; rw [← List.take_append_drop n D, e]
    simp
  have hn : n ≤ D.length ∨ D.length < n := by omega
  have hA : A.length + 1 ≤ n := by
    have h1 : (D.take n).length ≤ n := by rw [List.length_take]; exact Nat.min_le_left _ _
    rw [e, List.length_append, List.length_cons] at h1
    omega
  have hp := hd
  rw [eD] at hp
  have hp2 := (List.pairwise_append.1 hp).2.1
  have hp3 := (List.pairwise_cons.1 hp2).1
  have s1 : (A.map f).sum ≤ A.length * (s - 1) := sum_le A fun y hy => by
    have := (hf y (by rw [eD]; simp [hy])).2
    omega
  have s2 : ((x :: (B ++ D.drop n)).map f).sum ≤ ((x :: (B ++ D.drop n)).length : Nat) * (0 : Int) := sum_le _ fun y hy => by
    rcases List.mem_cons.1 hy with rfl | hy2
    · exact h0
    · exact Int.le_trans (hp3 y hy2) h0
  have s3 : (D.map f).sum = (A.map f).sum + ((x :: (B ++ D.drop n)).map f).sum := by
    conv => lhs; rw [eD]
    rw [List.map_append, List.sum_append]
  rw [Int.mul_zero] at s2
  have s4 : (A.length : Int) * (s - 1) ≤ ((n : Int) - 1) * (s - 1) := Int.mul_le_mul_of_nonneg_right (by omega) (by omega)
  have s5 : ((n : Int) - 1) * (s - 1) = s * n - n - s + 1 := by
    rw [Int.sub_mul, Int.mul_sub, Int.mul_comm s n]
    omega
  rw [hsum] at s3
  generalize (A.length : Int) * (s - 1) = p at *
  generalize ((n : Int) - 1) * (s - 1) = q at *
  generalize s * (n : Int) = z at *
  omega

theorem frac_divInt {n s : Int} (h : 0 < s) : Rat.divInt n s - ((Rat.divInt n s).floor : Rat) = Rat.divInt (n % s) s := by
  have hs := cast_pos h
  have hne : (s : Rat) ≠ 0 := fun e => by rw [e] at hs; exact absurd hs (by decide)
  rw [floor_divInt h, Rat.sub_eq_add_neg]
  have e : -((n / s : Int) : Rat) = Rat.divInt (-(s * (n / s))) s := by
    rw [divInt_mul, Rat.intCast_neg, Rat.intCast_mul, Rat.neg_mul, Rat.mul_comm (s : Rat), Rat.mul_assoc, Rat.mul_inv_cancel _ hne, Rat.mul_one]
  rw [e, divInt_add]
  congr 1
  have := Int.mul_ediv_add_emod n s
  omega

theorem divInt_le {a b s : Int} (h : 0 < s) : Rat.divInt a s ≤ Rat.divInt b s ↔ a ≤ b := by
  have hs := cast_pos h
  have hi : (0 : Rat) < (s : Rat)⁻¹ := Rat.inv_pos.2 hs
  have hne : (s : Rat) ≠ 0 := fun e => by rw [e] at hs; exact absurd hs (by decide)
  rw [divInt_mul, divInt_mul]
  constructor
  · intro hx
    have := Rat.mul_le_mul_of_nonneg_right hx (Rat.le_of_lt hs)
    rw [Rat.mul_assoc, Rat.mul_assoc, Rat.mul_comm ((s : Rat)⁻¹), Rat.mul_inv_cancel _ hne, Rat.mul_one, Rat.mul_one] at this
    exact Rat.intCast_le_intCast.1 this
  · intro hx
    exact Rat.mul_le_mul_of_nonneg_right (Rat.intCast_le_intCast.2 hx) (Rat.le_of_lt hi)

/-- The remainders, by place. -/
def kap (L : List (Int × Int)) (m c : Int) (i : Nat) : Int := ((ns L m c)[i]?.getD 0) % gS L m

def bef (L : List (Int × Int)) (m c : Int) (x y : Nat) : Prop := kap L m c y < kap L m c x ∨ (kap L m c x = kap L m c y ∧ x < y)

/-- What Apportion gives, place by place. -/
theorem apo_places {L : List (Int × Int)} {m c : Int} (h : GoodL L) (hc : 0 ≤ c) (hcS : c ≤ gS L m) (hS : 0 < gS L m) : ∃ P : List Nat, P.Nodup ∧ P.length = gT L m c ∧ (∀ x ∈ P, x < L.length) ∧
    (∀ x ∈ P, ∀ y, y < L.length → y ∉ P → bef L m c x y) ∧ ∀ (i : Nat) n, (ns L m c)[i]? = some n → (apo L m c)[i]? = some (n / gS L m + if i ∈ P then 1 else 0) := by
  have hl : (qs (parts L m c)).length = L.length := by rw [qs_len]; simp [parts]
  have hnl : (ns L m c).length = L.length := by simp [ns]
  obtain ⟨P, h1, h2, h3, h4, h5, h6⟩ := appLoop_picks (gT L m c) (floors (qs (parts L m c))) (fracs (qs (parts L m c))) (apo L m c) (by simp [floors, fracs]) (apo_spec h hc hcS).1
  have fr : ∀ (i : Nat) n, (ns L m c)[i]? = some n → (fracs (qs (parts L m c)))[i]? = some (Rat.divInt (n % gS L m) (gS L m)) := by
    intro i n hn
    unfold fracs
    rw [qs_parts, List.map_map, List.getElem?_map, hn]
    simp only [Option.map_some, Function.comp, frac_divInt hS]
  have at_ : ∀ i, i < L.length → ∃ n, (ns L m c)[i]? = some n ∧ kap L m c i = n % gS L m := by
    intro i hi
    refine ⟨_, List.getElem?_eq_getElem (by omega), ?_⟩
    unfold kap
    rw [List.getElem?_eq_getElem (show i < (ns L m c).length by omega)]
    rfl
  have inl : ∀ x ∈ P, x < L.length := by
    intro x hx
    obtain ⟨v, hv, _⟩ := h3 x hx
    have := (List.getElem?_eq_some_iff.1 hv).1
    simpa [fracs, hl] using this
  refine ⟨P, h1, h2, inl, ?_, ?_⟩
  · intro x hx y hy hyP
    obtain ⟨nx, hnx, ex⟩ := at_ x (inl x hx)
    obtain ⟨ny, hny, ey⟩ := at_ y hy
    have hy0 : 0 ≤ (Rat.divInt (ny % gS L m) (gS L m)).num := by
      rw [← frac_divInt hS]
      exact frac_nonneg _
    have key := h4 x hx y hyP _ _ (fr x nx hnx) (fr y ny hny) hy0
    have k1 := (divInt_le hS).1 key.1
    unfold bef
    rw [ex, ey]
    rcases Int.lt_or_eq_of_le k1 with h | h
    · exact .inl h
    · refine .inr ⟨h.symm, ?_⟩
      have hxy : x ≠ y := fun e => hyP (e ▸ hx)
      rcases Nat.lt_or_ge x y with h | h'
      · exact h
      · exfalso
        have := key.2 (by omega)
        rw [h] at this
        exact Rat.lt_irrefl this
  · intro i n hn
    refine h6 i (n / gS L m) ?_
    rw [floors_parts h, List.getElem?_map, hn]
    rfl

def rdI (c : List Int) (x : Int) : Int := (c[x.toNat]?).getD 0

theorem rd_set {c : List Int} {x i v : Int} (hx : 0 ≤ x) (hx2 : x < c.length) (hi : 0 ≤ i) : rdI (c.set x.toNat v) i = if i = x then v else rdI c i := by
  unfold rdI
  by_cases e : i = x
  · subst e
    rw [if_pos rfl, List.getElem?_set_self (by omega)]
    rfl
  · rw [if_neg e, List.getElem?_set_ne (by omega)]

theorem fold_set (q : Int → Int) : ∀ (G : List Int) (c : List Int), (∀ x ∈ G, 0 ≤ x ∧ x < c.length) →
    (G.foldl (fun c x => c.set x.toNat (q x)) c).length = c.length ∧ ∀ i, 0 ≤ i → rdI (G.foldl (fun c x => c.set x.toNat (q x)) c) i = if i ∈ G then q i else rdI c i
  | [], c, _ => ⟨rfl, fun i _ => by simp⟩
  | x :: G, c, h => by
    have hx := h x (by simp)
    obtain ⟨ih1, ih2⟩ := fold_set q G (c.set x.toNat (q x)) fun y hy => by rw [List.length_set]; exact h y (by simp [hy])
    rw [List.foldl_cons]
    refine ⟨by rw [ih1, List.length_set], fun i hi => ?_⟩
    rw [ih2 i hi, rd_set hx.1 hx.2 hi]
    by_cases e : i = x
    · subst e; simp
    · simp [e]

def inc (c : List Int) (x : Int) : List Int := c.set x.toNat (rdI c x + 1)
theorem fold_inc : ∀ (G : List Int) (c : List Int), G.Nodup → (∀ x ∈ G, 0 ≤ x ∧ x < c.length) →
    (G.foldl inc c).length = c.length ∧ ∀ i, 0 ≤ i → rdI (G.foldl inc c) i = rdI c i + if i ∈ G then 1 else 0
  | [], c, _, _ => ⟨rfl, fun i _ => by simp⟩
  | x :: G, c, hn, h => by
    have hx := h x (by simp)
    rw [List.nodup_cons] at hn
    obtain ⟨ih1, ih2⟩ := fold_inc G (inc c x) hn.2 fun y hy => by unfold inc; rw [List.length_set]; exact h y (by simp [hy])
    rw [List.foldl_cons]
    refine ⟨by rw [ih1]; unfold inc; rw [List.length_set], fun i hi => ?_⟩
    rw [ih2 i hi]
    unfold inc
    rw [rd_set hx.1 hx.2 hi]
    by_cases e : i = x
    · subst e; simp [hn.1]
    · simp [e]

/-- The places of one merit in the order in which they get one more. -/
structure Ordered (L : List (Int × Int)) (m c : Int) (D : List Int) : Prop where
  perm : D.Perm (grp L m L.length)
  ord : D.Pairwise fun x y => keyOf L c (gS L m) y.toNat < keyOf L c (gS L m) x.toNat ∨ (keyOf L c (gS L m) x.toNat = keyOf L c (gS L m) y.toNat ∧ x < y)

def leftOf (L : List (Int × Int)) (m c : Int) : Int := c - isum ((grp L m L.length).map fun x => c * am L x / gS L m)
/-- What share leaves in the cuts. -/
def shareOut (L : List (Int × Int)) (m c : Int) (D out : List Int) : List Int :=
  (D.take (leftOf L m c).toNat).foldl inc ((grp L m L.length).foldl (fun o x => o.set x.toNat (c * am L x / gS L m)) out)

theorem key_am (L : List (Int × Int)) (c S x : Int) : keyOf L c S x.toNat = (c * am L x) % S := rfl

theorem left_spec {L : List (Int × Int)} {m c : Int} (h : GoodL L) (hc : 0 ≤ c) (hcS : c ≤ gS L m) (hS : 0 < gS L m) : leftOf L m c = gT L m c ∧ gT L m c ≤ (grp L m L.length).length := by
  obtain ⟨t1, t2, t3⟩ := gT_spec h hc hcS
  have e1 := grp_sum_all h m c (fun n => n / gS L m) (by simp)
  have e2 := grp_sum_all h m c (fun n => n % gS L m) (by simp)
  refine ⟨by unfold leftOf; rw [e1]; omega, ?_⟩
  rw [t3, isum_eq_sum] at e2
  have hle := sum_le (f := fun x => c * am L x % gS L m) (B := gS L m - 1) (grp L m L.length) fun x _ => by
    have := Int.emod_lt_of_pos (c * am L x) hS
    omega
  rw [e2] at hle
  have h1 : gS L m * (gT L m c : Int) ≤ gS L m * ((grp L m L.length).length : Int) := by
    refine Int.le_trans hle ?_
    rw [Int.mul_sub, Int.mul_one, Int.mul_comm]
    omega
  have := Int.le_of_mul_le_mul_left h1 hS
  omega

/-- What share puts is what the reference's Apportion gives. -/
theorem shareOut_apo {L : List (Int × Int)} {m c : Int} (h : GoodL L) (hc : 0 < c) (hcS : c ≤ gS L m) {D : List Int} (hD : Ordered L m c D) {out : List Int} (hl : out.length = L.length) (hz : ∀ (i : Nat) p, L[i]? = some p → p.2 = m → out[i]? = some 0) :
    ((shareOut L m c D out).length = L.length ∧ ∀ (i : Nat) p, L[i]? = some p → (shareOut L m c D out)[i]? = if p.2 = m then (apo L m c)[i]? else out[i]?) ∧ ∀ (i : Nat) p, L[i]? = some p → p.2 ≠ m → (apo L m c)[i]? = some 0 := by
  have hS : 0 < gS L m := by omega
  have hS0 : gS L m ≠ 0 := by omega
  have hasc := grp_asc L m L.length
  have hnd := nodup_of_asc hasc
  have hDn : D.Nodup := hD.perm.nodup_iff.2 hnd
  have hDm : ∀ x, x ∈ D ↔ x ∈ grp L m L.length := fun x => hD.perm.mem_iff
  obtain ⟨hleft, hgl⟩ := left_spec h (by omega : (0 : Int) ≤ c) hcS hS
  have hrangeG : ∀ x ∈ grp L m L.length, 0 ≤ x ∧ x < out.length := fun x hx => by have := mem_grp.1 hx; omega
  obtain ⟨s1, s2⟩ := fold_set (fun x => c * am L x / gS L m) (grp L m L.length) out hrangeG
  have hT : ∀ x ∈ D.take (leftOf L m c).toNat, x ∈ grp L m L.length := fun x hx => (hDm x).1 (List.mem_of_mem_take hx)
  obtain ⟨i1, i2⟩ := fold_inc (D.take (leftOf L m c).toNat) _ (hDn.sublist (List.take_sublist _ _)) (fun x hx => by rw [s1]; exact hrangeG x (hT x hx))
  have hlen : (shareOut L m c D out).length = L.length := by unfold shareOut; rw [i1, s1, hl]
  obtain ⟨P, p1, p2, p3, p4, p5⟩ := apo_places h (by omega : (0 : Int) ≤ c) hcS hS
  -- the program's places
  have hlN : (leftOf L m c).toNat = gT L m c := by omega
  have kapG : ∀ x ∈ grp L m L.length, kap L m c x.toNat = keyOf L c (gS L m) x.toNat := by
    intro x hx
    obtain ⟨g1, g2, g3, g4⟩ := mem_grp.1 hx
    obtain ⟨p, hp⟩ : ∃ p, L[x.toNat]? = some p := ⟨_, List.getElem?_eq_getElem (by omega)⟩
    have e : p.2 = m := by rw [← g3]; unfold me; rw [hp]; rfl
    unfold kap ns keyOf
    rw [List.getElem?_map, hp]
    simp [e]
  have kap0 : ∀ y : Nat, (y : Int) ∉ grp L m L.length → kap L m c y = 0 := by
    intro y hy
    unfold kap ns
    rw [List.getElem?_map]
    cases hp : L[y]? with
    | none => simp
    | some p =>
      have hyl := (List.getElem?_eq_some_iff.1 hp).1
      have ha := h.amt p (List.mem_of_getElem? hp)
      simp only [Option.map_some, Option.getD_some]
      split
      · rename_i e
        have : ¬ 0 < p.1 := fun h0 => hy (mem_grp.2 ⟨by omega, by omega, by unfold me; simp [hp, e], by unfold am; simp [hp, h0]⟩)
        have : p.1 = 0 := by omega
        rw [this]; simp
      · simp
  have hpos : ∀ x ∈ D.take (leftOf L m c).toNat, 0 < keyOf L c (gS L m) x.toNat := by
    refine head_pos (f := fun x => keyOf L c (gS L m) x.toNat) hS D _ (fun x _ => ⟨Int.emod_nonneg _ hS0, Int.emod_lt_of_pos _ hS⟩) (hD.ord.imp fun {x y} hxy => by omega) ?_
    rw [perm_sum hD.perm, ← isum_eq_sum, hlN]
    have e2 := grp_sum_all h m c (fun n => n % gS L m) (by simp)
    rw [(gT_spec h (by omega : (0 : Int) ≤ c) hcS).2.2] at e2
    exact e2
  have hbef : ∀ x ∈ (D.take (leftOf L m c).toNat).map Int.toNat, ∀ y, y < L.length → y ∉ (D.take (leftOf L m c).toNat).map Int.toNat → bef L m c x y := by
    intro x hx y hy hny
    obtain ⟨x', hx', rfl⟩ := List.mem_map.1 hx
    have hxG := hT x' hx'
    have hx0 := (mem_grp.1 hxG).1
    by_cases hyG : (y : Int) ∈ grp L m L.length
    · have hyD := (hDm _).2 hyG
      have hyT : (y : Int) ∉ D.take (leftOf L m c).toNat := fun hh => hny (List.mem_map.2 ⟨_, hh, by simp⟩)
      have hyDr : (y : Int) ∈ D.drop (leftOf L m c).toNat := by
        rw [← List.take_append_drop (leftOf L m c).toNat D] at hyD
        rcases List.mem_append.1 hyD with hh | hh
        · exact absurd hh hyT
        · exact hh
      have ho := hD.ord
      rw [← List.take_append_drop (leftOf L m c).toNat D] at ho
      have := (List.pairwise_append.1 ho).2.2 x' hx' y hyDr
      unfold bef
      have ky := kapG y hyG
      rw [show ((y : Int)).toNat = y by simp] at ky
      rw [kapG x' hxG, ky]
      simp only [Int.toNat_natCast] at this
      rcases this with hh | ⟨hh, hh2⟩
      · exact .inl hh
      · exact .inr ⟨hh, by omega⟩
    · unfold bef
      rw [kap0 y hyG, kapG x' hxG]
      exact .inl (hpos x' hx')
  have hset := choice_unique (P := P) (P' := (D.take (leftOf L m c).toNat).map Int.toNat) (U := (· < L.length)) (before := bef L m c) p1 (by
      refine List.pairwise_map.2 (List.Pairwise.imp_of_mem (fun {x y} hx hy hne e => hne ?_) (hDn.sublist (List.take_sublist (leftOf L m c).toNat D)))
      have := (mem_grp.1 (hT x hx)).1
      have := (mem_grp.1 (hT y hy)).1
      omega) (by
      rw [List.length_map, List.length_take, p2, hD.perm.length_eq, hlN]
      omega) p3 (by
      intro x hx
      obtain ⟨x', hx', rfl⟩ := List.mem_map.1 hx
      have := mem_grp.1 (hT x' hx')
      omega) (by
      intro x y hxy hyx
      unfold bef at hxy hyx
      omega) p4 hbef
  refine ⟨⟨hlen, ?_⟩, fun i p hp hm => ?_⟩
  case refine_2 =>
    have hg : (i : Int) ∉ grp L m L.length := fun hh => hm (by have := (mem_grp.1 hh).2.2.1; rw [← this]; unfold me; simp [hp])
    have hiP : i ∉ P := fun hh => by
      obtain ⟨x', hx', e⟩ := List.mem_map.1 ((hset i).1 hh)
      have := (mem_grp.1 (hT x' hx')).1
      have : x' = (i : Int) := by omega
      exact hg (hT _ (this ▸ hx'))
    rw [p5 i 0 (by simp [ns, hp, hm]), if_neg hiP]
    simp
  intro i p hp
  have hil := (List.getElem?_eq_some_iff.1 hp).1
  have eS : (shareOut L m c D out)[i]? = some (rdI (shareOut L m c D out) (i : Int)) := by
    unfold rdI
    rw [Int.toNat_natCast, List.getElem?_eq_getElem (by omega)]
    rfl
  have eO : out[i]? = some (rdI out (i : Int)) := by
    unfold rdI
    rw [Int.toNat_natCast, List.getElem?_eq_getElem (by omega)]
    rfl
  have e3 : rdI (shareOut L m c D out) (i : Int) = (if (i : Int) ∈ grp L m L.length then c * am L i / gS L m else rdI out i) + if (i : Int) ∈ D.take (leftOf L m c).toNat then 1 else 0 := by
    unfold shareOut
    rw [i2 i (by omega), s2 i (by omega)]
  have emem : ((i : Int) ∈ D.take (leftOf L m c).toNat) ↔ i ∈ P := by
    rw [hset i]
    constructor
    · intro hh; exact List.mem_map.2 ⟨_, hh, by simp⟩
    · intro hh
      obtain ⟨x', hx', e⟩ := List.mem_map.1 hh
      have := (mem_grp.1 (hT x' hx')).1
      have : x' = (i : Int) := by omega
      exact this ▸ hx'
  rw [eS, e3]
  have ea : am L (i : Int) = p.1 := by unfold am; simp [hp]
  have eme : me L (i : Int) = p.2 := by unfold me; simp [hp]
  by_cases hm : p.2 = m
  · rw [if_pos hm, p5 i (c * p.1) (by simp [ns, hp, hm])]
    have e0 : rdI out i = 0 := by
      have := hz i p hp hm
      rw [eO] at this; injection this
    by_cases hg : (i : Int) ∈ grp L m L.length
    · rw [if_pos hg, ea]
      simp only [emem]
    · have hp0 : p.1 = 0 := by
        have ha := h.amt p (List.mem_of_getElem? hp)
        have : ¬ 0 < p.1 := fun h0 => hg (mem_grp.2 ⟨by omega, by omega, by rw [eme]; exact hm, by rw [ea]; exact h0⟩)
        omega
      rw [if_neg hg, e0, hp0]
      simp only [emem]
      simp
  · have hg : (i : Int) ∉ grp L m L.length := fun hh => hm (by rw [← eme]; exact (mem_grp.1 hh).2.2.1)
    rw [if_neg hm, if_neg hg, if_neg (fun hh => hg (hT _ hh)), eO]
    simp

end Go.Proofs.Ytngbibpmaofamaa.Ab

/- Curtail: what the rounds come to, in the program and in the reference. -/
-- ShB
namespace Go.Proofs.Ytngbibpmaofamaa.Ab
open Go Num

theorem ordered_ex (L : List (Int × Int)) (m c : Int) : ∃ D, Ordered L m c D := by
  let lt : Int → Int → Bool := fun x y => decide (keyOf L c (gS L m) y.toNat < keyOf L c (gS L m) x.toNat ∨ (keyOf L c (gS L m) x.toNat = keyOf L c (gS L m) y.toNat ∧ x ≤ y))
  refine ⟨(grp L m L.length).mergeSort lt, List.mergeSort_perm _ _, ?_⟩
  have hs := List.pairwise_mergeSort (le := lt) (fun a b c' h1 h2 => by
    simp only [lt, decide_eq_true_eq] at *
    omega) (fun a b => by
    simp only [lt, Bool.or_eq_true, decide_eq_true_eq]
    omega) (grp L m L.length)
  have hn : ((grp L m L.length).mergeSort lt).Nodup := (List.mergeSort_perm _ _).nodup_iff.2 (nodup_of_asc (grp_asc L m L.length))
  refine (hs.and hn).imp ?_
  rintro x y ⟨h1, h2⟩
  simp only [lt, decide_eq_true_eq] at h1
  omega

theorem apo_zero {L : List (Int × Int)} {m : Int} (h : GoodL L) {i : Nat} (hi : i < L.length) : (apo L m 0)[i]? = some 0 := by
  have hn : ns L m 0 = List.replicate L.length 0 := by
    apply List.ext_getElem?
    intro j
    unfold ns
    rw [List.getElem?_map, List.getElem?_replicate]
    by_cases hj : j < L.length
    · rw [List.getElem?_eq_getElem hj, if_pos hj]; simp
    · rw [List.getElem?_eq_none (by omega), if_neg hj]; rfl
  have hf : floors (qs (parts L m 0)) = List.replicate L.length 0 := by
    rw [floors_parts h, hn]; simp
  have hz : ∀ n : Nat, isum (List.replicate n (0 : Int)) = 0 := by
    intro n
    induction n with
    | zero => rfl
    | succ n ih => rw [List.replicate_succ, isum_cons, ih]; rfl
  have hg : gT L m 0 = 0 := by
    unfold gT
    rw [hn]
    simp [hz]
  unfold apo
  rw [hg, hf]
  simp [appLoop, hi]

theorem apo_out {L : List (Int × Int)} {m c : Int} (h : GoodL L) (hc : 0 ≤ c) (hcS : c ≤ gS L m) {i : Nat} {p : Int × Int} (hp : L[i]? = some p) (hm : p.2 ≠ m) : (apo L m c)[i]? = some 0 := by
  have hil := (List.getElem?_eq_some_iff.1 hp).1
  rcases Int.lt_or_eq_of_le hc with h0 | h0
  · obtain ⟨D, hD⟩ := ordered_ex L m c
    have hz : ∀ (j : Nat) q, L[j]? = some q → q.2 = m → (List.replicate L.length (0 : Int))[j]? = some 0 := fun j q hq _ => by
      have hjl := (List.getElem?_eq_some_iff.1 hq).1
      rw [List.getElem?_replicate, if_pos hjl]
    exact (shareOut_apo h h0 hcS hD (by simp) hz).2 i p hp hm
  · rw [← h0]; exact apo_zero h hil

/-- What a round leaves. -/
def RoundPost (L : List (Int × Int)) (m c : Int) (out out' : List Int) : Prop := out'.length = L.length ∧ ∀ (i : Nat) p, L[i]? = some p → out'[i]? = if p.2 = m then (apo L m c)[i]? else out[i]?

def below (L : List (Int × Int)) (m : Int) : Int := isum (L.map fun p => if p.2 < m then p.1 else 0)
def cutAt (L : List (Int × Int)) (n0 m : Int) : Int := if n0 ≤ below L m then 0 else if n0 - below L m ≤ gS L m then n0 - below L m else gS L m
def valAt (L : List (Int × Int)) (n0 : Int) (i : Nat) (p : Int × Int) : Int := ((apo L p.2 (cutAt L n0 p.2))[i]?).getD 0

structure Final (L : List (Int × Int)) (n0 : Int) (o : List Int) : Prop where
  len : o.length = L.length
  val : ∀ (i : Nat) p, L[i]? = some p → o[i]? = some (valAt L n0 i p)

theorem Final.unique {L : List (Int × Int)} {n0 : Int} {o o' : List Int} (h : Final L n0 o) (h' : Final L n0 o') : o = o' := by
  apply List.ext_getElem?
  intro i
  by_cases hi : i < L.length
  · have hp := List.getElem?_eq_getElem hi
    rw [h.val i _ hp, h'.val i _ hp]
  · rw [List.getElem?_eq_none (by rw [h.len]; omega), List.getElem?_eq_none (by rw [h'.len]; omega)]

structure CInv (L : List (Int × Int)) (n0 : Int) (d : List Bool) (need : Int) (out : List Int) : Prop where
  dl : d.length = L.length
  ol : out.length = L.length
  dc : ∀ (i j : Nat) (p q : Int × Int), L[i]? = some p → L[j]? = some q → d[i]? = some true → q.2 ≤ p.2 → d[j]? = some true
  nd : need = if n0 ≤ totalL L - rem L d then 0 else n0 - (totalL L - rem L d)
  val : ∀ (i : Nat) p, L[i]? = some p → out[i]? = some (if d[i]? = some true then valAt L n0 i p else 0)

theorem below_rem {m : Int} : ∀ {L : List (Int × Int)} {d : List Bool}, d.length = L.length → (∀ (i : Nat) p, L[i]? = some p → (d[i]? = some true ↔ p.2 < m)) → rem L d + below L m = totalL L
  | [], d, hl, _ => by cases d <;> simp [rem, below, totalL, isum]
  | p :: L, [], hl, _ => by simp at hl
  | p :: L, b :: d, hl, h => by
    have ih := below_rem (m := m) (L := L) (d := d) (by simpa using hl) fun i q hq => by simpa using h (i + 1) q (by simpa using hq)
    have h0 := h 0 p rfl
    unfold below totalL at *
    rw [List.map_cons, List.map_cons, isum_cons, isum_cons]
    simp only [rem]
    simp only [List.getElem?_cons_zero, Option.some.injEq] at h0
    by_cases hb : b = true
    · rw [if_pos hb, if_pos (h0.1 hb)]; omega
    · rw [if_neg hb, if_neg (fun x => hb (h0.2 x))]; omega

theorem below_rem_le {m : Int} : ∀ {L : List (Int × Int)} {d : List Bool}, d.length = L.length → (∀ p ∈ L, goodAmt p) → (∀ (i : Nat) p, L[i]? = some p → d[i]? = some true → p.2 < m) → totalL L ≤ rem L d + below L m
  | [], d, hl, _, _ => by cases d <;> simp [rem, below, totalL, isum]
  | p :: L, [], hl, _, _ => by simp at hl
  | p :: L, b :: d, hl, hg, h => by
    have ih := below_rem_le (m := m) (L := L) (d := d) (by simpa using hl) (fun q hq => hg q (List.mem_cons_of_mem _ hq)) fun i q hq hd => h (i + 1) q (by simpa using hq) (by simpa using hd)
    have h0 := h 0 p rfl
    have hp := (hg p (List.mem_cons_self ..)).1
    unfold below totalL at *
    rw [List.map_cons, List.map_cons, isum_cons, isum_cons]
    simp only [rem]
    simp only [List.getElem?_cons_zero, Option.some.injEq] at h0
    by_cases hb : b = true
    · rw [if_pos hb, if_pos (h0 hb)]; omega
    · rw [if_neg hb]
      split <;> omega

theorem mark_get {L : List (Int × Int)} {m : Int} {d : List Bool} (hl : d.length = L.length) {i : Nat} {p : Int × Int} (hp : L[i]? = some p) : (markR L m d)[i]? = some (if p.2 = m then true else (d[i]?).getD false) := by
  have hil := (List.getElem?_eq_some_iff.1 hp).1
  unfold markR
  rw [List.getElem?_zipWith, hp, List.getElem?_eq_getElem (show i < d.length by omega)]
  rfl

theorem cut_eq {L : List (Int × Int)} {n0 m need : Int} (hS : 0 ≤ gS L m) (hn : need = if n0 ≤ below L m then 0 else n0 - below L m) : min need (gS L m) = cutAt L n0 m := by
  unfold cutAt
  rw [Int.min_def]
  subst hn
  by_cases h1 : n0 ≤ below L m
  · simp only [if_pos h1, if_pos hS]
  · simp only [if_neg h1]

theorem CInv.step {L : List (Int × Int)} (hL : GoodL L) {n0 need : Int} {d : List Bool} {out out' : List Int} (h : CInv L n0 d need out) {m : Int} (hm : ∀ (i : Nat) p, L[i]? = some p → (d[i]? = some true ↔ p.2 < m)) (hp : RoundPost L m (min need (gS L m)) out out') :
    CInv L n0 (markR L m d) (need - min need (gS L m)) out' := by
  have hS := (gS_range (m := m) hL).1
  have hbr := below_rem h.dl hm
  have hnd := h.nd
  have hop : Open L d m := by
    intro i p hi he
    have hil := (List.getElem?_eq_some_iff.1 hi).1
    have := hm i p hi
    cases hd : d[i]? with
    | none => rw [List.getElem?_eq_getElem (show i < d.length by rw [h.dl]; exact hil)] at hd; simp at hd
    | some b => cases b with
      | false => rfl
      | true => have := this.1 hd; omega
  have hrm := rem_mark h.dl hop
  have hgS : isum (ns L m 1) = gS L m := rfl
  rw [hgS] at hrm
  have hnd2 : need = if n0 ≤ below L m then 0 else n0 - below L m := by
    rw [hnd]
    have : totalL L - rem L d = below L m := by omega
    rw [this]
  have hcut := cut_eq hS hnd2
  have mg : ∀ (i : Nat) p, L[i]? = some p → ((markR L m d)[i]? = some true ↔ p.2 ≤ m) := by
    intro i p hi
    rw [mark_get h.dl hi]
    have := hm i p hi
    have hil := (List.getElem?_eq_some_iff.1 hi).1
    cases hd : d[i]? with
    | none => rw [List.getElem?_eq_getElem (show i < d.length by rw [h.dl]; exact hil)] at hd; simp at hd
    | some b =>
      rw [hd] at this
      simp only [Option.some.injEq] at this
      simp only [Option.getD_some, Option.some.injEq]
      by_cases e : p.2 = m
      · simp [e]
      · rw [if_neg e, this]; omega
  refine ⟨by unfold markR; simp [h.dl], hp.1, ?_, ?_, ?_⟩
  · intro i j p q hi hj hdi hq
    rw [mg i p hi] at hdi
    rw [mg j q hj]; omega
  · rw [hrm]
    have e : totalL L - (rem L d - gS L m) = below L m + gS L m := by omega
    rw [e, hnd2, Int.min_def]
    split <;> split <;> (try split) <;> omega
  · intro i p hi
    rw [hp.2 i p hi]
    have e1 := mg i p hi
    by_cases e : p.2 = m
    · rw [if_pos e, if_pos (e1.2 (by omega)), hcut]
      unfold valAt
      rw [e]
      have hil := (List.getElem?_eq_some_iff.1 hi).1
      have hle : cutAt L n0 m ≤ gS L m := by rw [← hcut, Int.min_def]; split <;> omega
      have hge : 0 ≤ cutAt L n0 m := by unfold cutAt; split <;> (try split) <;> omega
      have := (apo_spec hL hge hle).2.1
      rw [List.getElem?_eq_getElem (show i < (apo L m (cutAt L n0 m)).length by omega)]
      rfl
    · rw [if_neg e, h.val i p hi]
      have e2 := hm i p hi
      by_cases e3 : p.2 < m
      · rw [if_pos (e2.2 e3), if_pos (e1.2 (by omega))]
      · rw [if_neg (fun x => e3 (e2.1 x)), if_neg (fun x => by have := e1.1 x; omega)]

theorem CInv.final {L : List (Int × Int)} (hL : GoodL L) {n0 need : Int} {d : List Bool} {out : List Int} (h : CInv L n0 d need out) (he : need ≤ 0 ∨ ∀ i, i < L.length → d[i]? = some true) : Final L n0 out := by
  refine ⟨h.ol, fun i p hi => ?_⟩
  have hil := (List.getElem?_eq_some_iff.1 hi).1
  rw [h.val i p hi]
  by_cases hd : d[i]? = some true
  · rw [if_pos hd]
  · rw [if_neg hd]
    rcases he with he | he
    · have hnd := h.nd
      have hle : n0 ≤ totalL L - rem L d := by
        rcases Int.lt_or_le (totalL L - rem L d) n0 with h1 | h1
        · rw [if_neg (by omega)] at hnd; omega
        · exact h1
      have hb := below_rem_le (m := p.2) h.dl hL.amt fun j q hj hdj => by
        rcases Int.lt_or_le q.2 p.2 with h1 | h1
        · exact h1
        · exact absurd (h.dc j i q p hj hi hdj h1) hd
      have : cutAt L n0 p.2 = 0 := by unfold cutAt; rw [if_pos (by omega)]
      unfold valAt
      rw [this, apo_zero hL hil]
      rfl
    · exact absurd (he i hil) hd

theorem CInv.start {L : List (Int × Int)} (n0 : Int) (h0 : 0 ≤ n0) : CInv L n0 (List.replicate L.length false) n0 (List.replicate L.length 0) := by
  have hf : ∀ i : Nat, (List.replicate L.length false)[i]? ≠ some true := by
    intro i hi
    rw [List.getElem?_replicate] at hi
    split at hi <;> simp at hi
  refine ⟨by simp, by simp, fun i j p q hi hj hd _ => absurd hd (hf i), ?_, fun i p hi => ?_⟩
  · rw [rem_start, Int.sub_self]
    split <;> omega
  · have hil := (List.getElem?_eq_some_iff.1 hi).1
    rw [if_neg (hf i), List.getElem?_replicate, if_pos hil]

theorem bestR_ne_none {L : List (Int × Int)} {d : List Bool} : ∀ {n j : Nat} {q : Int × Int}, bestR L d n = none → j < n → L[j]? = some q → d[j]? = some false → False
  | n + 1, j, q, h, hj, hq, hd => by
    unfold bestR at h
    by_cases e : j = n
    · subst e
      rw [hq, hd] at h
      simp only at h
      split at h
      · simp at h
      · split at h
        · split at h <;> simp at h
        · simp at h
    · cases hx : L[n]? with
      | none => rw [hx] at h; exact bestR_ne_none h (by omega) hq hd
      | some x =>
        cases hy : d[n]? with
        | none => rw [hx, hy] at h; exact bestR_ne_none h (by omega) hq hd
        | some y =>
          cases y with
          | true => rw [hx, hy] at h; exact bestR_ne_none h (by omega) hq hd
          | false =>
            rw [hx, hy] at h
            simp only at h
            cases hb : bestR L d n with
            | none => rw [hb] at h; simp at h
            | some b' =>
              rw [hb] at h
              simp only at h
              split at h
              · split at h <;> simp at h
              · simp at h

theorem bestR_min {L : List (Int × Int)} {d : List Bool} : ∀ {n b : Nat} {p : Int × Int}, bestR L d n = some b → L[b]? = some p → ∀ (j : Nat) (q : Int × Int), j < n → L[j]? = some q → d[j]? = some false → p.2 ≤ q.2
  | n + 1, b, p, h, hp, j, q, hj, hq, hd => by
    unfold bestR at h
    cases hx : L[n]? with
    | none =>
      rw [hx] at h
      have : j ≠ n := fun e => by subst e; rw [hq] at hx; simp at hx
      exact bestR_min h hp j q (by omega) hq hd
    | some x =>
      cases hy : d[n]? with
      | none =>
        rw [hx, hy] at h
        have : j ≠ n := fun e => by subst e; rw [hd] at hy; simp at hy
        exact bestR_min h hp j q (by omega) hq hd
      | some y =>
        cases y with
        | true =>
          rw [hx, hy] at h
          have : j ≠ n := fun e => by subst e; rw [hd] at hy; simp at hy
          exact bestR_min h hp j q (by omega) hq hd
        | false =>
          rw [hx, hy] at h
          simp only at h
          cases hb : bestR L d n with
          | none =>
            rw [hb] at h
            simp only at h
            injection h with h; subst h
            rw [hx] at hp; injection hp with hp; subst hp
            by_cases e : j = n
            · subst e; rw [hx] at hq; injection hq with hq; subst hq; exact Int.le_refl _
            · exfalso
              exact bestR_ne_none hb (by omega) hq hd
          | some b' =>
            rw [hb] at h
            simp only at h
            obtain ⟨hb1, ⟨p', hp'⟩, _⟩ := bestR_lt hb
            rw [hp'] at h
            simp only at h
            split at h
            · rename_i hlt
              injection h with h; subst h
              rw [hx] at hp; injection hp with hp; subst hp
              by_cases e : j = n
              · subst e; rw [hx] at hq; injection hq with hq; subst hq; exact Int.le_refl _
              · have := bestR_min hb hp' j q (by omega) hq hd
                omega
            · rename_i hlt
              injection h with h; subst h
              rw [hp'] at hp; injection hp with hp; subst hp
              by_cases e : j = n
              · subst e; rw [hx] at hq; injection hq with hq; subst hq; omega
              · exact bestR_min hb hp' j q (by omega) hq hd

theorem RoundPost.add {L : List (Int × Int)} (hL : GoodL L) {m c : Int} (hc : 0 ≤ c) (hcS : c ≤ gS L m) {out : List Int} (hl : out.length = L.length) (hz : ∀ (i : Nat) p, L[i]? = some p → p.2 = m → out[i]? = some 0) : RoundPost L m c out (addL out (apo L m c)) := by
  have hal := (apo_spec hL hc hcS).2.1
  refine ⟨by unfold addL; simp [hl, hal], fun i p hi => ?_⟩
  have hil := (List.getElem?_eq_some_iff.1 hi).1
  unfold addL
  rw [List.getElem?_zipWith, List.getElem?_eq_getElem (show i < out.length by omega), List.getElem?_eq_getElem (show i < (apo L m c).length by omega)]
  by_cases e : p.2 = m
  · rw [if_pos e]
    have := hz i p hi e
    rw [List.getElem?_eq_getElem (show i < out.length by omega)] at this
    injection this with this
    simp [this]
  · rw [if_neg e]
    have := apo_out hL hc hcS hi e
    rw [List.getElem?_eq_getElem (show i < (apo L m c).length by omega)] at this
    injection this with this
    simp [this]

theorem curLoop_final {L : List (Int × Int)} (hL : GoodL L) {n0 : Int} : ∀ (f : Nat) {d : List Bool} {need : Int} {out o : List Int}, CInv L n0 d need out → curLoop L f d need out = some o → Final L n0 o := by
  intro f
  induction f with
  | zero =>
    intro d need out o h hc
    unfold curLoop at hc
    split at hc
    · rename_i hn
      injection hc with hc; subst hc
      exact h.final hL (.inl hn)
    · simp at hc
  | succ f ih =>
    intro d need out o h hc
    unfold curLoop at hc
    split at hc
    · rename_i hn
      injection hc with hc; subst hc
      exact h.final hL (.inl hn)
    · rename_i hn
      simp only at hc
      cases hb : bestR L d L.length with
      | none => rw [hb] at hc; simp at hc
      | some b =>
        rw [hb] at hc
        obtain ⟨hbl, ⟨p, hp⟩, hdb⟩ := bestR_lt hb
        simp only [hp] at hc
        have hm : ∀ (i : Nat) q, L[i]? = some q → (d[i]? = some true ↔ q.2 < p.2) := by
          intro i q hq
          have hil := (List.getElem?_eq_some_iff.1 hq).1
          constructor
          · intro hd
            rcases Int.lt_or_le q.2 p.2 with h1 | h1
            · exact h1
            · have := h.dc i b q p hq hp hd h1
              rw [hdb] at this; simp at this
          · intro hlt
            cases hd : d[i]? with
            | none => rw [List.getElem?_eq_getElem (show i < d.length by rw [h.dl]; exact hil)] at hd; simp at hd
            | some x => cases x with
              | true => rfl
              | false => have := bestR_min hb hp i q hil hq hd; omega
        have hS := (gS_range (m := p.2) hL).1
        have hc0 : 0 ≤ min need (gS L p.2) := by rw [Int.min_def]; split <;> omega
        have hcS : min need (gS L p.2) ≤ gS L p.2 := by rw [Int.min_def]; split <;> omega
        exact ih (h.step hL hm (RoundPost.add hL hc0 hcS h.ol fun i q hq e => by
          rw [h.val i q hq, if_neg]
          intro hd
          have := (hm i q hq).1 hd
          omega)) hc

end Go.Proofs.Ytngbibpmaofamaa.Ab

/- What slices.SortStableFunc's text does to a row of numbers (swaps alone), and that it ends sorted, equals in the order in which they came: plain Lean, no program. -/
-- Stab
namespace Go.Proofs.Stab
open Go.Sort
variable {α : Type} [Inhabited α]

/-- The order that a stable sort of ascending numbers ends in: by the comparison, and where it says 'equal' by the numbers themselves. -/
def stl (num : α → Int) (cf : α → α → Int) (x y : α) : Bool := decide (cf x y < 0) || (decide (cf x y = 0) && decide (num x < num y))

/-- 'for i := ..; i < n; i++ { swap a+i, b+i }'. -/
def swapFrom (a b : Nat) : Nat → Nat → Array α → Array α
  | 0, _, d => d
  | k + 1, i, d => swapFrom a b k (i + 1) (swp d (a + i) (b + i))

theorem swapFrom_size (a b k : Nat) : ∀ (i : Nat) (d : Array α), (swapFrom a b k i d).size = d.size := by
  induction k with
  | zero => intro i d; rfl
  | succ k ih => intro i d; rw [swapFrom, ih, size_swp]

theorem swapFrom_get (a b n : Nat) (k : Nat) : ∀ (i : Nat) (d : Array α), i + k = n → (a + n ≤ b) → b + n ≤ d.size →
    ∀ q, (swapFrom a b k i d)[q]! = if a + i ≤ q ∧ q < a + n then d[b + (q - a)]! else if b + i ≤ q ∧ q < b + n then d[a + (q - b)]! else d[q]! := by
  induction k with
  | zero =>
    intro i d hi hab hs q
    rw [swapFrom, if_neg (by omega), if_neg (by omega)]
  | succ k ih =>
    intro i d hi hab hs q
    rw [swapFrom, ih (i + 1) _ (by omega) hab (by rw [size_swp]; exact hs) q]
    by_cases h1 : q = a + i
    · subst h1
      rw [if_neg (by omega), if_neg (by omega), if_pos (by omega), swp_left _ _ _ (by omega) (by omega)]
      congr 1; omega
    · by_cases h2 : q = b + i
      · subst h2
        rw [if_neg (by omega), if_neg (by omega), if_neg (by omega), if_pos (by omega), swp_right _ _ _ (by omega)]
        congr 1; omega
      · by_cases h3 : a + i ≤ q ∧ q < a + n
        · rw [if_pos (by omega), if_pos h3, swp_other _ _ _ _ (by omega) (by omega)]
        · by_cases h4 : b + i ≤ q ∧ q < b + n
          · rw [if_neg (by omega), if_pos (by omega), if_neg h3, if_pos h4, swp_other _ _ _ _ (by omega) (by omega)]
          · rw [if_neg (by omega), if_neg (by omega), if_neg h3, if_neg h4, swp_other _ _ _ _ (by omega) (by omega)]

theorem swapFrom_perm (a b : Nat) (lo hi k : Nat) : ∀ (i : Nat) (d : Array α), lo ≤ a → lo ≤ b → a + i + k ≤ hi → b + i + k ≤ hi → hi ≤ d.size → PermIn lo hi d (swapFrom a b k i d) := by
  induction k with
  | zero => intro i d _ _ _ _ _; exact permIn_refl _ _ _
  | succ k ih =>
    intro i d h1 h2 h3 h4 h5
    rw [swapFrom]
    exact permIn_trans _ _ _ _ _ (swp_permIn d lo hi (a + i) (b + i) (by omega) (by omega) (by omega) (by omega) h5) (ih (i + 1) _ h1 h2 (by omega) (by omega) (by rw [size_swp]; exact h5))

/-- rotate: 'for i != j { .. }; swapRange(data, m-i, m, i)', so many rounds at the most. -/
def rotLoop (m : Nat) : Nat → Nat → Nat → Array α → Array α
  | 0, _, _, d => d
  | k + 1, i, j, d =>
    if i = j then swapFrom (m - i) m i 0 d
    else if j < i then rotLoop m k (i - j) j (swapFrom (m - i) m j 0 d)
    else rotLoop m k i (j - i) (swapFrom (m - i) (m + j - i) i 0 d)

theorem rotLoop_size (m k : Nat) : ∀ (i j : Nat) (d : Array α), (rotLoop m k i j d).size = d.size := by
  induction k with
  | zero => intro i j d; rfl
  | succ k ih =>
    intro i j d
    rw [rotLoop]
    split
    · rw [swapFrom_size]
    · split
      · rw [ih, swapFrom_size]
      · rw [ih, swapFrom_size]

theorem rotLoop_get (m k : Nat) : ∀ (i j : Nat) (d : Array α), i + j ≤ k → 0 < i → 0 < j → i ≤ m → m + j ≤ d.size →
    ∀ q, (rotLoop m k i j d)[q]! = if m - i ≤ q ∧ q < m - i + j then d[q + i]! else if m - i + j ≤ q ∧ q < m + j then d[q - j]! else d[q]! := by
  induction k with
  | zero => intro i j d h1 h2 h3; omega
  | succ k ih =>
    intro i j d hk hi hj him hs q
    rw [rotLoop]
    by_cases hij : i = j
    · subst hij
      rw [if_pos rfl, swapFrom_get (m - i) m i i 0 d (by omega) (by omega) (by omega) q]
      by_cases h1 : m - i ≤ q ∧ q < m
      · rw [if_pos (by omega), if_pos (by omega)]; congr 1; omega
      · by_cases h2 : m ≤ q ∧ q < m + i
        · rw [if_neg (by omega), if_pos (by omega), if_neg (by omega), if_pos (by omega)]; congr 1; omega
        · rw [if_neg (by omega), if_neg (by omega), if_neg (by omega), if_neg (by omega)]
    · rw [if_neg hij]
      by_cases hlt : j < i
      · rw [if_pos hlt, ih (i - j) j _ (by omega) (by omega) hj (by omega) (by rw [swapFrom_size]; exact hs) q]
        have G := swapFrom_get (m - i) m j j 0 d (by omega) (by omega) (by omega)
        by_cases h1 : m - i ≤ q ∧ q < m - i + j
        · rw [if_neg (by omega), if_neg (by omega), G, if_pos (by omega), if_pos h1]; congr 1; omega
        · by_cases h2 : m - i + j ≤ q ∧ q < m + j
          · by_cases h3 : q < m - (i - j) + j
            · rw [if_pos (by omega), G]
              by_cases h4 : q + (i - j) < m
              · rw [if_neg (by omega), if_neg (by omega), if_neg h1, if_pos h2]; omega
              · rw [if_neg (by omega), if_pos (by omega), if_neg h1, if_pos h2]; congr 1; omega
            · rw [if_neg (by omega), if_pos (by omega), G, if_neg (by omega), if_neg (by omega), if_neg h1, if_pos h2]
          · rw [if_neg (by omega), if_neg (by omega), G, if_neg (by omega), if_neg (by omega), if_neg h1, if_neg h2]
      · rw [if_neg hlt, ih i (j - i) _ (by omega) hi (by omega) him (by rw [swapFrom_size]; omega) q]
        have G := swapFrom_get (m - i) (m + j - i) i i 0 d (by omega) (by omega) (by omega)
        by_cases h2 : m - i + j ≤ q ∧ q < m + j
        · rw [if_neg (by omega), if_neg (by omega), G, if_neg (by omega), if_pos (by omega), if_neg (by omega), if_pos h2]; congr 1; omega
        · by_cases h1 : m - i ≤ q ∧ q < m - i + j
          · by_cases h3 : q < m - i + (j - i)
            · rw [if_pos (by omega), G, if_neg (by omega), if_neg (by omega), if_pos h1]
            · rw [if_neg (by omega), if_pos (by omega), G, if_pos (by omega), if_pos h1]; congr 1; omega
          · rw [if_neg (by omega), if_neg (by omega), G, if_neg (by omega), if_neg (by omega), if_neg h1, if_neg h2]

theorem rotLoop_perm (m lo hi k : Nat) : ∀ (i j : Nat) (d : Array α), i + j ≤ k → 0 < i → 0 < j → lo + i ≤ m → m + j ≤ hi → hi ≤ d.size → PermIn lo hi d (rotLoop m k i j d) := by
  induction k with
  | zero => intro i j d h1 h2 h3; omega
  | succ k ih =>
    intro i j d hk hi' hj h1 h2 hs
    rw [rotLoop]
    split
    · exact swapFrom_perm _ _ _ _ _ _ _ (by omega) (by omega) (by omega) (by omega) hs
    · split
      · exact permIn_trans _ _ _ _ _ (swapFrom_perm (m - i) m lo hi j 0 d (by omega) (by omega) (by omega) (by omega) hs) (ih _ _ _ (by omega) (by omega) (by omega) (by omega) (by omega) (by rw [swapFrom_size]; exact hs))
      · exact permIn_trans _ _ _ _ _ (swapFrom_perm (m - i) (m + j - i) lo hi i 0 d (by omega) (by omega) (by omega) (by omega) hs) (ih _ _ _ (by omega) (by omega) (by omega) (by omega) (by omega) (by rw [swapFrom_size]; exact hs))

end Go.Proofs.Stab

/- The merge of slices.SortStableFunc's text, and the whole of it at fewer than 40 numbers: it ends sorted, equals in the order in which they came: plain Lean, no program. -/
-- StabB
namespace Go.Proofs.Stab
open Go.Sort
variable {α : Type} [Inhabited α]

/-- The code's own test. -/
def clt (cf : α → α → Int) (x y : α) : Bool := decide (cf x y < 0)

/-- The binary search: 'for i < j { h := (i+j)/2; if p(h) { i = h+1 } else { j = h } }'. -/
def bs (p : Nat → Bool) : Nat → Nat → Nat → Nat
  | 0, i, _ => i
  | k + 1, i, j => if i < j then (if p ((i + j) / 2) = true then bs p k ((i + j) / 2 + 1) j else bs p k i ((i + j) / 2)) else i

theorem bs_spec (p : Nat → Bool) (k : Nat) : ∀ i j, j - i ≤ k → i ≤ j → (∀ x y, i ≤ x → x ≤ y → y < j → p y = true → p x = true) →
    i ≤ bs p k i j ∧ bs p k i j ≤ j ∧ (∀ x, i ≤ x → x < bs p k i j → p x = true) ∧ (∀ x, bs p k i j ≤ x → x < j → p x = false) := by
  induction k with
  | zero =>
    intro i j h1 h2 _
    rw [bs]
    exact ⟨Nat.le_refl _, h2, fun x _ _ => by omega, fun x _ _ => by omega⟩
  | succ k ih =>
    intro i j h1 h2 hm
    rw [bs]
    by_cases h3 : i < j
    · rw [if_pos h3]
      cases hp : p ((i + j) / 2) with
      | true =>
        rw [if_pos rfl]
        obtain ⟨a1, a2, a3, a4⟩ := ih ((i + j) / 2 + 1) j (by omega) (by omega) (fun x y hx hxy hy => hm x y (by omega) hxy hy)
        refine ⟨by omega, a2, fun x hx hx2 => ?_, a4⟩
        by_cases h4 : x ≤ (i + j) / 2
        · exact hm x ((i + j) / 2) hx h4 (by omega) hp
        · exact a3 x (by omega) hx2
      | false =>
        rw [if_neg (by simp)]
        obtain ⟨a1, a2, a3, a4⟩ := ih i ((i + j) / 2) (by omega) (by omega) (fun x y hx hxy hy => hm x y hx hxy (by omega))
        refine ⟨a1, by omega, a3, fun x hx hx2 => ?_⟩
        by_cases h4 : x < (i + j) / 2
        · exact a4 x hx h4
        · cases hq : p x with
          | false => rfl
          | true => rw [hm ((i + j) / 2) x (by omega) (by omega) hx2 hq] at hp; cases hp
    · rw [if_neg h3]
      exact ⟨Nat.le_refl _, h2, fun x _ _ => by omega, fun x _ _ => by omega⟩

theorem bs_range (p : Nat → Bool) (k : Nat) : ∀ i j, i ≤ j → i ≤ bs p k i j ∧ bs p k i j ≤ j := by
  induction k with
  | zero => intro i j h; rw [bs]; omega
  | succ k ih =>
    intro i j h
    rw [bs]
    split
    · split
      · have := ih ((i + j) / 2 + 1) j (by omega); omega
      · have := ih i ((i + j) / 2) (by omega); omega
    · omega

/-- 'for k := a; ..; k++ { swap k, k+1 }', so many rounds. -/
def shR : Nat → Nat → Array α → Array α
  | 0, _, d => d
  | k + 1, a, d => shR k (a + 1) (swp d a (a + 1))
theorem shR_size (k : Nat) : ∀ (a : Nat) (d : Array α), (shR k a d).size = d.size := by
  induction k with
  | zero => intro a d; rfl
  | succ k ih => intro a d; rw [shR, ih, size_swp]
theorem shR_get (k : Nat) : ∀ (a : Nat) (d : Array α), a + k < d.size → ∀ q, (shR k a d)[q]! = if a ≤ q ∧ q < a + k then d[q + 1]! else if q = a + k then d[a]! else d[q]! := by
  induction k with
  | zero =>
    intro a d h q
    rw [shR, if_neg (by omega)]
    by_cases e : q = a
    · subst e; rw [if_pos (by omega)]
    · rw [if_neg (by omega)]
  | succ k ih =>
    intro a d h q
    rw [shR, ih (a + 1) _ (by rw [size_swp]; omega) q]
    by_cases h1 : q = a
    · subst h1
      rw [if_neg (by omega), if_neg (by omega), if_pos (by omega), swp_left _ _ _ (by omega) (by omega)]
    · by_cases h2 : q = a + (k + 1)
      · subst h2
        rw [if_neg (by omega), if_pos (by omega), if_neg (by omega), if_pos rfl, swp_right _ _ _ (by omega)]
      · by_cases h3 : a ≤ q ∧ q < a + (k + 1)
        · rw [if_pos (by omega), if_pos h3, swp_other _ _ _ _ (by omega) (by omega)]
        · rw [if_neg (by omega), if_neg (by omega), if_neg h3, if_neg h2, swp_other _ _ _ _ (by omega) (by omega)]
theorem shR_perm (lo hi k : Nat) : ∀ (a : Nat) (d : Array α), lo ≤ a → a + k < hi → hi ≤ d.size → PermIn lo hi d (shR k a d) := by
  induction k with
  | zero => intro a d _ _ _; exact permIn_refl _ _ _
  | succ k ih =>
    intro a d h1 h2 h3
    rw [shR]
    exact permIn_trans _ _ _ _ _ (swp_permIn d lo hi a (a + 1) h1 (by omega) (by omega) (by omega) h3) (ih (a + 1) _ (by omega) (by omega) (by rw [size_swp]; exact h3))

/-- 'for k := m; ..; k-- { swap k, k-1 }', so many rounds. -/
def shL : Nat → Nat → Array α → Array α
  | 0, _, d => d
  | k + 1, m, d => shL k (m - 1) (swp d m (m - 1))
theorem shL_size (k : Nat) : ∀ (a : Nat) (d : Array α), (shL k a d).size = d.size := by
  induction k with
  | zero => intro a d; rfl
  | succ k ih => intro a d; rw [shL, ih, size_swp]
theorem shL_get (k : Nat) : ∀ (m : Nat) (d : Array α), k ≤ m → m < d.size → ∀ q, (shL k m d)[q]! = if m - k < q ∧ q ≤ m then d[q - 1]! else if q = m - k then d[m]! else d[q]! := by
  induction k with
  | zero =>
    intro m d h1 h q
    rw [shL, if_neg (by omega)]
    by_cases e : q = m
    · subst e; rw [if_pos (by omega)]
    · rw [if_neg (by omega)]
  | succ k ih =>
    intro m d h1 h q
    rw [shL, ih (m - 1) _ (by omega) (by rw [size_swp]; omega) q]
    by_cases h2 : q = m
    · subst h2
      rw [if_neg (by omega), if_neg (by omega), if_pos (by omega), swp_left _ _ _ (by omega) (by omega)]
    · by_cases h3 : q = m - (k + 1)
      · subst h3
        rw [if_neg (by omega), if_pos (by omega), if_neg (by omega), if_pos rfl, swp_right _ _ _ (by omega)]
      · by_cases h4 : m - (k + 1) < q ∧ q ≤ m
        · rw [if_pos (by omega), if_pos h4, swp_other _ _ _ _ (by omega) (by omega)]
        · rw [if_neg (by omega), if_neg (by omega), if_neg h4, if_neg h3, swp_other _ _ _ _ (by omega) (by omega)]
theorem shL_perm (lo hi k : Nat) : ∀ (m : Nat) (d : Array α), lo + k ≤ m → m < hi → hi ≤ d.size → PermIn lo hi d (shL k m d) := by
  induction k with
  | zero => intro a d _ _ _; exact permIn_refl _ _ _
  | succ k ih =>
    intro m d h1 h2 h3
    rw [shL]
    exact permIn_trans _ _ _ _ _ (swp_permIn d lo hi m (m - 1) (by omega) (by omega) (by omega) (by omega) h3) (ih (m - 1) _ (by omega) (by omega) (by rw [size_swp]; exact h3))

/-- The three parts of symMerge's last case. -/
def mid (a b : Nat) : Nat := (a + b) / 2
def st0 (a m b : Nat) : Nat := if mid a b < m then mid a b + m - b else a
def en0 (a m b : Nat) : Nat := if mid a b < m then mid a b else m
def cut (cf : α → α → Int) (a m b : Nat) (d : Array α) : Nat := bs (fun c => !clt cf d[mid a b + m - 1 - c]! d[c]!) (en0 a m b - st0 a m b) (st0 a m b) (en0 a m b)
def rot (m s e : Nat) (d : Array α) : Array α := if s < m ∧ m < e then rotLoop m (e - s) (m - s) (e - m) d else d

def symMerge (cf : α → α → Int) : Nat → Nat → Nat → Nat → Array α → Array α
  | 0, _, _, _, d => d
  | k + 1, a, m, b, d =>
    if m - a = 1 then shR (bs (fun h => clt cf d[h]! d[a]!) (b - m) m b - 1 - a) a d
    else if b - m = 1 then shL (m - bs (fun h => !clt cf d[m]! d[h]!) (m - a) a m) m d
    else
      let s := cut cf a m b d
      let e := mid a b + m - s
      let d1 := rot m s e d
      let d2 := if a < s ∧ s < mid a b then symMerge cf k a s (mid a b) d1 else d1
      if mid a b < e ∧ e < b then symMerge cf k (mid a b) e b d2 else d2

theorem rot_size (m s e : Nat) (d : Array α) : (rot m s e d).size = d.size := by
  unfold rot; split
  · rw [rotLoop_size]
  · rfl
theorem symMerge_size (cf : α → α → Int) (k : Nat) : ∀ a m b d, (symMerge cf k a m b d).size = d.size := by
  induction k with
  | zero => intro a m b d; rfl
  | succ k ih =>
    intro a m b d
    rw [symMerge]
    split
    · rw [shR_size]
    · split
      · rw [shL_size]
      · dsimp only
        split
        · rw [ih]; split
          · rw [ih, rot_size]
          · rw [rot_size]
        · split
          · rw [ih, rot_size]
          · rw [rot_size]

theorem cut_range (cf : α → α → Int) (a m b : Nat) (d : Array α) (h1 : a < m) (h2 : m < b) : a ≤ cut cf a m b d ∧ cut cf a m b d ≤ m ∧ cut cf a m b d ≤ mid a b ∧ m ≤ mid a b + m - cut cf a m b d ∧ mid a b + m - cut cf a m b d ≤ b := by
  have h := bs_range (fun c => !clt cf d[mid a b + m - 1 - c]! d[c]!) (en0 a m b - st0 a m b) (st0 a m b) (en0 a m b) (by unfold st0 en0 mid; split <;> omega)
  have e : cut cf a m b d = bs (fun c => !clt cf d[mid a b + m - 1 - c]! d[c]!) (en0 a m b - st0 a m b) (st0 a m b) (en0 a m b) := rfl
  rw [← e] at h
  clear e
  revert h
  generalize cut cf a m b d = s
  unfold st0 en0 mid
  intro h
  split at h <;> omega

variable {cf : α → α → Int} {L : α → α → Bool}

theorem sorted_le (hS : SWO L) {a b i j : Nat} {d : Array α} (h : SortedIn L a b d) (h1 : a ≤ i) (h2 : i ≤ j) (h3 : j < b) : L d[j]! d[i]! = false := by
  by_cases e : i = j
  · subst e; exact hS.irrefl _
  · exact h i j h1 (by omega) h3

omit [Inhabited α] in
theorem asym (hS : SWO L) {x y : α} (h : L x y = true) : L y x = false := by
  cases e : L y x with
  | false => rfl
  | true => have := hS.trans _ _ _ h e; rw [hS.irrefl] at this; cases this

/-- symMerge merges, the left block's ahead of the right block's where they are equal. -/
theorem symMerge_spec (hS : SWO L) (k : Nat) : ∀ (a m b : Nat) (d : Array α), b - a ≤ k → a < m → m < b → b ≤ d.size → SortedIn L a m d → SortedIn L m b d →
    (∀ i j, a ≤ i → i < m → m ≤ j → j < b → clt cf d[j]! d[i]! = L d[j]! d[i]!) → PermIn a b d (symMerge cf k a m b d) ∧ SortedIn L a b (symMerge cf k a m b d) := by
  induction k with
  | zero => intro a m b d h1 h2 h3; omega
  | succ k ih =>
    intro a m b d hk ham hmb hb S1 S2 X
    rw [symMerge]
    by_cases c1 : m - a = 1
    · rw [if_pos c1]
      have hp : ∀ x, m ≤ x → x < b → clt cf d[x]! d[a]! = L d[x]! d[a]! := fun x hx hx2 => X a x (Nat.le_refl _) ham hx hx2
      obtain ⟨r1, r2, r3, r4⟩ := bs_spec (fun h => clt cf d[h]! d[a]!) (b - m) m b (Nat.le_refl _) (by omega) (fun x y hx hxy hy h => by
        rw [hp y (by omega) hy] at h
        rw [hp x hx (by omega)]
        cases e : L d[x]! d[a]! with
        | true => rfl
        | false => rw [hS.ntrans _ _ _ (sorted_le hS S2 hx hxy hy) e] at h; cases h)
      generalize bs (fun h => clt cf d[h]! d[a]!) (b - m) m b = i at r1 r2 r3 r4
      refine ⟨shR_perm a b _ a d (Nat.le_refl _) (by omega) hb, ?_⟩
      intro x y hx hxy hy
      rw [shR_get _ a d (by omega), shR_get _ a d (by omega)]
      have e1 : a + (i - 1 - a) = i - 1 := by omega
      rw [e1]
      by_cases hx1 : x < i - 1
      · rw [if_pos (show a ≤ x ∧ x < i - 1 from ⟨hx, hx1⟩)]
        have hL : L d[x + 1]! d[a]! = true := by rw [← hp (x + 1) (by omega) (by omega)]; exact r3 (x + 1) (by omega) (by omega)
        by_cases hy1 : y < i - 1
        · rw [if_pos (by omega)]; exact S2 (x + 1) (y + 1) (by omega) (by omega) (by omega)
        · rw [if_neg (by omega)]
          by_cases hy2 : y = i - 1
          · rw [if_pos hy2]; exact asym hS hL
          · rw [if_neg hy2]; exact S2 (x + 1) y (by omega) (by omega) hy
      · rw [if_neg (by omega)]
        by_cases hx2 : x = i - 1
        · rw [if_pos hx2, if_neg (by omega), if_neg (by omega), ← hp y (by omega) hy]
          exact r4 y (by omega) hy
        · rw [if_neg hx2, if_neg (by omega), if_neg (by omega)]; exact S2 x y (by omega) hxy hy
    · rw [if_neg c1]
      by_cases c2 : b - m = 1
      · rw [if_pos c2]
        have hp : ∀ x, a ≤ x → x < m → clt cf d[m]! d[x]! = L d[m]! d[x]! := fun x hx hx2 => X x m hx hx2 (Nat.le_refl _) (by omega)
        obtain ⟨r1, r2, r3, r4⟩ := bs_spec (fun h => !clt cf d[m]! d[h]!) (m - a) a m (Nat.le_refl _) (by omega) (fun x y hx hxy hy h => by
          simp only [Bool.not_eq_true'] at h ⊢
          rw [hp y (by omega) hy] at h
          rw [hp x hx (by omega)]
          exact hS.ntrans _ _ _ h (sorted_le hS S1 hx hxy hy))
        generalize bs (fun h => !clt cf d[m]! d[h]!) (m - a) a m = i at r1 r2 r3 r4
        refine ⟨shL_perm a b _ m d (by omega) hmb hb, ?_⟩
        intro x y hx hxy hy
        rw [shL_get _ m d (by omega) (by omega), shL_get _ m d (by omega) (by omega)]
        have e1 : m - (m - i) = i := by omega
        rw [e1]
        by_cases hy1 : i < y
        · rw [if_pos (show i < y ∧ y ≤ m by omega)]
          by_cases hx1 : i < x
          · rw [if_pos (by omega)]; exact S1 (x - 1) (y - 1) (by omega) (by omega) (by omega)
          · rw [if_neg (by omega)]
            by_cases hx2 : x = i
            · rw [if_pos hx2]
              have h := r4 (y - 1) (by omega) (by omega)
              simp only [Bool.not_eq_false'] at h
              rw [hp (y - 1) (by omega) (by omega)] at h
              exact asym hS h
            · rw [if_neg hx2]; exact S1 x (y - 1) hx (by omega) (by omega)
        · rw [if_neg (show ¬ (i < y ∧ y ≤ m) by omega), if_neg (show ¬ (i < x ∧ x ≤ m) by omega), if_neg (show ¬ x = i by omega)]
          by_cases hy2 : y = i
          · rw [if_pos hy2]
            have h := r3 x hx (by omega)
            simp only [Bool.not_eq_true'] at h
            rw [hp x hx (by omega)] at h
            exact h
          · rw [if_neg hy2]; exact S1 x y hx hxy (by omega)
      · rw [if_neg c2]
        dsimp only
        have hq : ∀ c, st0 a m b ≤ c → c < en0 a m b → a ≤ c ∧ c < m ∧ m ≤ mid a b + m - 1 - c ∧ mid a b + m - 1 - c < b := by
          unfold st0 en0 mid; intro c; split <;> omega
        have hp : ∀ c, st0 a m b ≤ c → c < en0 a m b → clt cf d[mid a b + m - 1 - c]! d[c]! = L d[mid a b + m - 1 - c]! d[c]! := fun c h1 h2 => by
          obtain ⟨q1, q2, q3, q4⟩ := hq c h1 h2
          exact X c _ q1 q2 q3 q4
        have hle : st0 a m b ≤ en0 a m b := by unfold st0 en0 mid; split <;> omega
        obtain ⟨r1, r2, r3, r4⟩ := bs_spec (fun c => !clt cf d[mid a b + m - 1 - c]! d[c]!) (en0 a m b - st0 a m b) (st0 a m b) (en0 a m b) (Nat.le_refl _) hle (fun x y hx hxy hy h => by
          simp only [Bool.not_eq_true'] at h ⊢
          rw [hp y (by omega) hy] at h
          rw [hp x hx (by omega)]
          obtain ⟨q1, q2, q3, q4⟩ := hq x hx (by omega)
          obtain ⟨q5, q6, q7, q8⟩ := hq y (by omega) hy
          exact hS.ntrans _ _ _ (sorted_le hS S2 q7 (by omega) q4) (hS.ntrans _ _ _ h (sorted_le hS S1 q1 hxy q6)))
        obtain ⟨t1, t2, t3, t4, t5⟩ := cut_range cf a m b d ham hmb
        have es : cut cf a m b d = bs (fun c => !clt cf d[mid a b + m - 1 - c]! d[c]!) (en0 a m b - st0 a m b) (st0 a m b) (en0 a m b) := rfl
        rw [← es] at r1 r2 r3 r4
        clear es
        generalize hs : cut cf a m b d = s at *
        have hs0 : s = st0 a m b → s = a ∨ mid a b + m - s = b := by unfold st0 mid; intro h; split at h <;> omega
        have hs1 : s = en0 a m b → s = m ∨ mid a b + m - s = m := by unfold en0 mid; intro h; split at h <;> omega
        have hM1 : a < mid a b := by unfold mid; omega
        have hM2 : mid a b < b := by unfold mid; omega
        -- what the cut says
        have K1 : ∀ i j, a ≤ i → i < s → mid a b + m - s ≤ j → j < b → L d[j]! d[i]! = false := by
          intro i j hi hi2 hj hj2
          by_cases h : s = st0 a m b
          · rcases hs0 h with e | e <;> omega
          · have h2 := r3 (s - 1) (by omega) (by omega)
            simp only [Bool.not_eq_true'] at h2
            rw [hp (s - 1) (by omega) (by omega)] at h2
            obtain ⟨q1, q2, q3, q4⟩ := hq (s - 1) (by omega) (by omega)
            have e : mid a b + m - 1 - (s - 1) = mid a b + m - s := by omega
            rw [e] at h2 q3 q4
            exact hS.ntrans _ _ _ (sorted_le hS S2 q3 hj hj2) (hS.ntrans _ _ _ h2 (sorted_le hS S1 hi (by omega) q2))
        have K2 : ∀ i j, s ≤ i → i < m → m ≤ j → j < mid a b + m - s → L d[i]! d[j]! = false := by
          intro i j hi hi2 hj hj2
          by_cases h : s = en0 a m b
          · rcases hs1 h with e | e <;> omega
          · have h2 := r4 s (Nat.le_refl _) (by omega)
            simp only [Bool.not_eq_false'] at h2
            rw [hp s (by omega) (by omega)] at h2
            obtain ⟨q1, q2, q3, q4⟩ := hq s (by omega) (by omega)
            exact hS.ntrans _ _ _ (sorted_le hS S1 q1 hi hi2) (hS.ntrans _ _ _ (asym hS h2) (sorted_le hS S2 hj (by omega) q4))
        clear hs0 hs1 r1 r2 r3 r4 hq hp hle
        generalize he : mid a b + m - s = e at *
        generalize hmd : mid a b = mi at *
        -- the rotation
        have G : ∀ q, (rot m s e d)[q]! = if s ≤ q ∧ q < mi then d[q + (m - s)]! else if mi ≤ q ∧ q < e then d[q - (e - m)]! else d[q]! := by
          intro q
          unfold rot
          by_cases hc : s < m ∧ m < e
          · rw [if_pos hc, rotLoop_get m _ (m - s) (e - m) d (by omega) (by omega) (by omega) (by omega) (by omega) q]
            have e1 : m - (m - s) = s := by omega
            have e2 : s + (e - m) = mi := by omega
            have e3 : m + (e - m) = e := by omega
            rw [e1, e2, e3]
          · rw [if_neg hc]
            by_cases h1 : s ≤ q ∧ q < mi
            · rw [if_pos h1]; congr 1; omega
            · rw [if_neg h1]
              by_cases h2 : mi ≤ q ∧ q < e
              · rw [if_pos h2]; congr 1; omega
              · rw [if_neg h2]
        have P1 : PermIn a b d (rot m s e d) := by
          unfold rot
          by_cases hc : s < m ∧ m < e
          · rw [if_pos hc]; exact rotLoop_perm m a b _ _ _ d (by omega) (by omega) (by omega) (by omega) (by omega) hb
          · rw [if_neg hc]; exact permIn_refl _ _ _
        have Z1 : (rot m s e d).size = d.size := rot_size m s e d
        generalize rot m s e d = d1 at G P1 Z1
        have GA1 : ∀ q, q < s → d1[q]! = d[q]! := fun q h => by rw [G, if_neg (by omega), if_neg (by omega)]
        have GB1 : ∀ q, s ≤ q → q < mi → d1[q]! = d[q + (m - s)]! := fun q h h2 => by rw [G, if_pos ⟨h, h2⟩]
        have GA2 : ∀ q, mi ≤ q → q < e → d1[q]! = d[q - (e - m)]! := fun q h h2 => by rw [G, if_neg (by omega), if_pos ⟨h, h2⟩]
        have GB2 : ∀ q, e ≤ q → d1[q]! = d[q]! := fun q h => by rw [G, if_neg (by omega), if_neg (by omega)]
        clear G
        -- all of the first half against all of the second
        have C1 : ∀ i j, a ≤ i → i < mi → mi ≤ j → j < b → L d1[j]! d1[i]! = false := by
          intro i j hi hi2 hj hj2
          by_cases hA : i < s
          · rw [GA1 i hA]
            by_cases hB : j < e
            · rw [GA2 j hj hB]; exact sorted_le hS S1 hi (by omega) (by omega)
            · rw [GB2 j (by omega)]; exact K1 i j hi hA (by omega) hj2
          · rw [GB1 i (by omega) hi2]
            by_cases hB : j < e
            · rw [GA2 j hj hB]; exact K2 _ _ (by omega) (by omega) (by omega) (by omega)
            · rw [GB2 j (by omega)]; exact sorted_le hS S2 (by omega) (by omega) hj2
        -- the first half
        obtain ⟨P2, Q2⟩ : PermIn a mi d1 (if a < s ∧ s < mi then symMerge cf k a s mi d1 else d1) ∧ SortedIn L a mi (if a < s ∧ s < mi then symMerge cf k a s mi d1 else d1) := by
          by_cases hc : a < s ∧ s < mi
          · rw [if_pos hc]
            refine ih a s mi d1 (by omega) hc.1 hc.2 (by omega) ?_ ?_ ?_
            · intro x y hx hxy hy; rw [GA1 x (by omega), GA1 y hy]; exact S1 x y hx hxy (by omega)
            · intro x y hx hxy hy; rw [GB1 x hx (by omega), GB1 y (by omega) hy]; exact S2 _ _ (by omega) (by omega) (by omega)
            · intro i j hi hi2 hj hj2; rw [GA1 i hi2, GB1 j hj hj2]; exact X i _ hi (by omega) (by omega) (by omega)
          · rw [if_neg hc]
            refine ⟨permIn_refl _ _ _, ?_⟩
            intro x y hx hxy hy
            by_cases h1 : s ≤ a
            · rw [GB1 x (by omega) (by omega), GB1 y (by omega) hy]; exact S2 _ _ (by omega) (by omega) (by omega)
            · rw [GA1 x (by omega), GA1 y (by omega)]; exact S1 x y hx hxy (by omega)
        have Z2 : (if a < s ∧ s < mi then symMerge cf k a s mi d1 else d1).size = d.size := by rw [P2.1, Z1]
        generalize (if a < s ∧ s < mi then symMerge cf k a s mi d1 else d1) = d2 at P2 Q2 Z2
        have E2 : ∀ q, mi ≤ q → d2[q]! = d1[q]! := fun q h => P2.2.1 q (.inr h)
        have C2 : ∀ i j, a ≤ i → i < mi → mi ≤ j → j < b → L d2[j]! d2[i]! = false := by
          intro i j hi hi2 hj hj2
          rw [E2 j hj]
          exact permIn_all d1 d2 a mi (fun z => L d1[j]! z = false) (by omega) P2 (fun i hi hi2 => C1 i j hi hi2 hj hj2) i hi hi2
        -- the second half
        obtain ⟨P3, Q3⟩ : PermIn mi b d2 (if mi < e ∧ e < b then symMerge cf k mi e b d2 else d2) ∧ SortedIn L mi b (if mi < e ∧ e < b then symMerge cf k mi e b d2 else d2) := by
          by_cases hc : mi < e ∧ e < b
          · rw [if_pos hc]
            refine ih mi e b d2 (by omega) hc.1 hc.2 (by omega) ?_ ?_ ?_
            · intro x y hx hxy hy; rw [E2 x hx, E2 y (by omega), GA2 x hx (by omega), GA2 y (by omega) hy]; exact S1 _ _ (by omega) (by omega) (by omega)
            · intro x y hx hxy hy; rw [E2 x (by omega), E2 y (by omega), GB2 x hx, GB2 y (by omega)]; exact S2 x y (by omega) hxy hy
            · intro i j hi hi2 hj hj2; rw [E2 i hi, E2 j (by omega), GA2 i hi hi2, GB2 j hj]; exact X _ j (by omega) (by omega) (by omega) hj2
          · rw [if_neg hc]
            refine ⟨permIn_refl _ _ _, ?_⟩
            intro x y hx hxy hy
            rw [E2 x hx, E2 y (by omega)]
            by_cases h1 : e ≤ mi
            · rw [GB2 x (by omega), GB2 y (by omega)]; exact S2 x y (by omega) hxy hy
            · rw [GA2 x hx (by omega), GA2 y (by omega) (by omega)]; exact S1 _ _ (by omega) (by omega) (by omega)
        have Z3 : (if mi < e ∧ e < b then symMerge cf k mi e b d2 else d2).size = d.size := by rw [P3.1, Z2]
        generalize (if mi < e ∧ e < b then symMerge cf k mi e b d2 else d2) = d3 at P3 Q3 Z3
        refine ⟨permIn_trans _ _ _ _ _ P1 (permIn_trans _ _ _ _ _ (permIn_mono _ _ a mi a b (Nat.le_refl _) (by omega) (by omega) P2) (permIn_mono _ _ mi b a b (by omega) (Nat.le_refl _) (by omega) P3)), ?_⟩
        intro x y hx hxy hy
        have E3 : ∀ q, q < mi → d3[q]! = d2[q]! := fun q h => P3.2.1 q (.inl h)
        by_cases h1 : y < mi
        · rw [E3 x (by omega), E3 y h1]; exact Q2 x y hx hxy h1
        · by_cases h2 : x < mi
          · rw [E3 x h2]
            exact permIn_all d2 d3 mi b (fun z => L z d2[x]! = false) (by omega) P3 (fun j hj hj2 => C2 x j hx h2 hj hj2) y (by omega) hy
          · exact Q3 x y (by omega) hxy hy
end Go.Proofs.Stab

/- slices.SortStableFunc at fewer than 40 ascending numbers: a permutation, in the order of 'stl': plain Lean, no program. -/
-- StabC
namespace Go.Proofs.Stab
open Go.Sort
variable {α : Type} [Inhabited α]

theorem insInner_congr {lt1 lt2 : α → α → Bool} (a : Nat) : ∀ (j : Nat) (d : Array α), j < d.size → (∀ p, a ≤ p → p < j → lt1 d[j]! d[p]! = lt2 d[j]! d[p]!) → insInner lt1 a j d = insInner lt2 a j d
  | 0, d, _, _ => by rw [insInner, insInner]
  | j + 1, d, hs, h => by
    rw [insInner, insInner]
    by_cases hj : j + 1 > a
    · rw [h j (by omega) (by omega)]
      split
      · refine insInner_congr a j _ (by rw [size_swp]; omega) (fun p hp hp2 => ?_)
        rw [swp_right _ _ _ (by omega), swp_other _ _ _ _ (by omega) (by omega)]
        exact h p hp (by omega)
      · rfl
    · simp [hj]

theorem insInner_perm (lt : α → α → Bool) (a : Nat) : ∀ (j : Nat) (d : Array α), j < d.size → a ≤ j → PermIn a (j + 1) d (insInner lt a j d)
  | 0, d, _, _ => by rw [insInner]; exact permIn_refl _ _ _
  | j + 1, d, hs, ha => by
    rw [insInner]
    split
    · rename_i hc
      have hc' : j + 1 > a := by simp at hc; exact hc.1
      exact permIn_trans _ _ _ _ _ (swp_permIn d a (j + 1 + 1) (j + 1) j (by omega) (by omega) (by omega) (by omega) (by omega)) (permIn_mono _ _ a (j + 1) a (j + 1 + 1) (Nat.le_refl _) (by omega) (by rw [size_swp]; omega) (insInner_perm lt a j _ (by rw [size_swp]; omega) (by omega)))
    · exact permIn_refl _ _ _

/-- Each is greater than all ahead of it: kept while the places ahead are permuted. -/
theorem insOuter_congr {lt1 lt2 : α → α → Bool} (num : α → Int) (hl : ∀ x y : α, num y < num x → lt1 x y = lt2 x y) (a b : Nat) : ∀ (n i : Nat) (d : Array α), b - i ≤ n → b ≤ d.size → a < i → (∀ p q, a ≤ p → p < q → i ≤ q → q < b → num d[p]! < num d[q]!) → insOuter lt1 a b i d = insOuter lt2 a b i d := by
  intro n
  induction n with
  | zero =>
    intro i d h1 _ _ _
    conv => lhs; rw [insOuter]
    conv => rhs; rw [insOuter]
    rw [if_neg (by omega), if_neg (by omega)]
  | succ n ih =>
    intro i d h1 hb ha h
    conv => lhs; rw [insOuter]
    conv => rhs; rw [insOuter]
    by_cases hi : i < b
    · rw [if_pos hi, if_pos hi, insInner_congr (lt1 := lt1) (lt2 := lt2) a i d (by omega) (fun p hp hp2 => hl _ _ (h p i hp hp2 (Nat.le_refl _) hi))]
      have P := insInner_perm lt2 a i d (by omega) (by omega)
      refine ih (i + 1) _ (by omega) (by rw [P.1]; exact hb) (by omega) (fun p q hp hpq hq hq2 => ?_)
      rw [P.2.1 q (.inr hq)]
      by_cases hp2 : p < i + 1
      · exact permIn_all d _ a (i + 1) (fun z => num z < num d[q]!) (by omega) P (fun r hr hr2 => h r q hr (by omega) (by omega) hq2) p hp hp2
      · rw [P.2.1 p (.inr (by omega))]
        exact h p q hp hpq (by omega) hq2
    · rw [if_neg hi, if_neg hi]

theorem insertion_congr {lt1 lt2 : α → α → Bool} (num : α → Int) (hl : ∀ x y : α, num y < num x → lt1 x y = lt2 x y) (a b : Nat) (d : Array α) (hb : b ≤ d.size) (h : ∀ p q, a ≤ p → p < q → q < b → num d[p]! < num d[q]!) : insertionSort lt1 d a b = insertionSort lt2 d a b := by
  unfold insertionSort
  exact insOuter_congr num hl a b (b - (a + 1)) (a + 1) d (by omega) hb (by omega) (fun p q hp hpq _ hq2 => h p q hp hpq hq2)

omit [Inhabited α] in
theorem clt_stl (num : α → Int) (cf : α → α → Int) (x y : α) (h : num y < num x) : clt cf x y = stl num cf x y := by
  unfold clt stl
  rw [decide_eq_false (show ¬ num x < num y by omega)]
  simp

/-- The whole, at fewer than 40 numbers. -/
def stable40 (cf : α → α → Int) (d : Array α) (n : Nat) : Array α :=
  let d1 := if 20 ≤ n then insertionSort (clt cf) (insertionSort (clt cf) d 0 20) 20 n else insertionSort (clt cf) d 0 n
  if 20 < n then symMerge cf n 0 20 n d1 else d1

theorem stable40_spec (num : α → Int) (cf : α → α → Int) (hS : SWO (stl num cf)) (d : Array α) (n : Nat) (hn : n < 40) (hs : d.size = n) (hA : ∀ p q, p < q → q < n → num d[p]! < num d[q]!) :
    PermIn 0 n d (stable40 cf d n) ∧ SortedIn (stl num cf) 0 n (stable40 cf d n) := by
  unfold stable40
  dsimp only
  by_cases h20 : 20 ≤ n
  · rw [if_pos h20]
    have e1 : insertionSort (clt cf) d 0 20 = insertionSort (stl num cf) d 0 20 := insertion_congr num (clt_stl num cf) 0 20 d (by omega) (fun p q _ h1 h2 => hA p q h1 (by omega))
    obtain ⟨P1, Q1⟩ := insertionSort_holds (lt := stl num cf) hS d 0 20 (by omega) (by omega)
    rw [e1]
    generalize insertionSort (stl num cf) d 0 20 = d1 at P1 Q1
    have z1 : d1.size = n := by rw [P1.1, hs]
    have e2 : insertionSort (clt cf) d1 20 n = insertionSort (stl num cf) d1 20 n := insertion_congr num (clt_stl num cf) 20 n d1 (by omega) (fun p q h0 h1 h2 => by rw [P1.2.1 p (.inr h0), P1.2.1 q (.inr (by omega))]; exact hA p q h1 h2)
    obtain ⟨P2, Q2⟩ := insertionSort_holds (lt := stl num cf) hS d1 20 n (by omega) (by omega)
    rw [e2]
    generalize insertionSort (stl num cf) d1 20 n = d2 at P2 Q2
    have z2 : d2.size = n := by rw [P2.1, z1]
    by_cases h21 : 20 < n
    · rw [if_pos h21]
      have Q1' : SortedIn (stl num cf) 0 20 d2 := fun x y hx hxy hy => by rw [P2.2.1 x (.inl (by omega)), P2.2.1 y (.inl hy)]; exact Q1 x y hx hxy hy
      have A2 : ∀ i j, i < 20 → 20 ≤ j → j < n → num d2[i]! < num d2[j]! := fun i j hi hj hj2 => by
        rw [P2.2.1 i (.inl hi)]
        refine permIn_all d1 d2 20 n (fun z => num d1[i]! < num z) (by omega) P2 (fun q hq hq2 => ?_) j hj hj2
        rw [P1.2.1 q (.inr hq)]
        exact permIn_all d d1 0 20 (fun z => num z < num d[q]!) (by omega) P1 (fun p _ hp => hA p q (by omega) hq2) i (by omega) hi
      obtain ⟨P3, Q3⟩ := symMerge_spec (cf := cf) hS n 0 20 n d2 (by omega) (by omega) h21 (by omega) Q1' Q2 (fun i j _ hi hj hj2 => clt_stl num cf _ _ (A2 i j hi hj hj2))
      exact ⟨permIn_trans _ _ _ _ _ (permIn_mono _ _ 0 20 0 n (Nat.le_refl _) (by omega) (by omega) P1) (permIn_trans _ _ _ _ _ (permIn_mono _ _ 20 n 0 n (by omega) (Nat.le_refl _) (by omega) P2) P3), Q3⟩
    · rw [if_neg h21]
      have en : n = 20 := by omega
      subst en
      exact ⟨permIn_trans _ _ _ _ _ P1 (permIn_mono _ _ 20 20 0 20 (by omega) (Nat.le_refl _) (by omega) P2), fun x y hx hxy hy => by rw [P2.2.1 x (.inl (by omega)), P2.2.1 y (.inl hy)]; exact Q1 x y hx hxy hy⟩
  · rw [if_neg h20, if_neg (by omega), insertion_congr num (clt_stl num cf) 0 n d (by omega) (fun p q _ h1 h2 => hA p q h1 h2)]
    exact insertionSort_holds (lt := stl num cf) hS d 0 n (by omega) (by omega)

omit [Inhabited α] in
/-- A comparison by a number for each, descending: 'cmp.Compare(key b, key a)'. -/
theorem swo_desc (num key : α → Int) (cf : α → α → Int) (h1 : ∀ x y, cf x y < 0 ↔ key y < key x) (h0 : ∀ x y, cf x y = 0 ↔ key x = key y) : SWO (stl num cf) := by
  have e : ∀ x y, stl num cf x y = decide (key y < key x ∨ (key x = key y ∧ num x < num y)) := by
    intro x y
    unfold stl
    simp only [h1, h0]
    by_cases a : key y < key x <;> by_cases b : key x = key y <;> by_cases c : num x < num y <;> simp [a, b, c]
  refine ⟨fun x => ?_, fun x y z => ?_, fun x y z => ?_⟩
  · rw [e]; simp
  · rw [e, e, e]; simp only [decide_eq_true_eq]; omega
  · rw [e, e, e]; simp only [decide_eq_false_iff_not]; omega
end Go.Proofs.Stab

/- The abstract calculus: what of a heap stays; rows that grow by append. -/
-- AbL
namespace Go.Proofs.Ytngbibpmaofamaa.Ab
open Go

variable {P : Program}

/-- The blocks below a number are as they were, but for some. -/
structure Same (lo : Nat) (S : Nat → Prop) (σ σ' : H) : Prop where
  le : lo ≤ σ'.nx
  get : ∀ x, x < lo → ¬ S x → σ'.get x = σ.get x

theorem Same.refl {lo : Nat} {S : Nat → Prop} {σ : H} (h : lo ≤ σ.nx) : Same lo S σ σ := ⟨h, fun _ _ _ => rfl⟩
theorem Same.trans {lo : Nat} {S : Nat → Prop} {σ σ' σ'' : H} (h : Same lo S σ σ') (h' : Same lo S σ' σ'') : Same lo S σ σ'' := ⟨h'.le, fun x hx hs => (h'.get x hx hs).trans (h.get x hx hs)⟩
theorem Same.mono {lo lo' : Nat} {S S' : Nat → Prop} {σ σ' : H} (h : Same lo S σ σ') (hl : lo' ≤ lo) (hs : ∀ x, x < lo' → S x → S' x) : Same lo' S' σ σ' := ⟨Nat.le_trans hl h.le, fun x hx hn => h.get x (Nat.lt_of_lt_of_le hx hl) fun s => hn (hs x hx s)⟩
theorem Same.alloc {lo : Nat} {S : Nat → Prop} {σ σ' : H} (h : Same lo S σ σ') (X : Blk) : Same lo S σ (σ'.alloc X) :=
  ⟨by simp; have := h.le; omega, fun x hx hs => by rw [H.get_alloc, if_neg (by have := h.le; omega)]; exact h.get x hx hs⟩
theorem Same.set {lo : Nat} {S : Nat → Prop} {σ σ' : H} (h : Same lo S σ σ') {b : Nat} (hb : lo ≤ b ∨ S b) (X : Blk) : Same lo S σ (σ'.set b X) :=
  ⟨h.le, fun x hx hs => by
    rw [H.get_set_ne (fun e => ?_)]
    · exact h.get x hx hs
    · subst e; rcases hb with hb | hb
      · omega
      · exact hs hb⟩
theorem Same.kill {lo : Nat} {S : Nat → Prop} {σ σ' : H} (h : Same lo S σ σ') {b : Nat} (hb : lo ≤ b ∨ S b) : Same lo S σ (σ'.kill b) :=
  ⟨h.le, fun x hx hs => by
    rw [H.get_kill_ne (fun e => ?_)]
    · exact h.get x hx hs
    · subst e; rcases hb with hb | hb
      · omega
      · exact hs hb⟩
theorem Same.of_get {lo : Nat} {S : Nat → Prop} {σ σ' : H} (h : Same lo S σ σ') {x : Nat} {B : Blk} (hg : σ.get x = some B) (hx : x < lo) (hs : ¬ S x) : σ'.get x = some B := (h.get x hx hs).trans hg

/-- A row of the call's own, laid out since; empty or not. -/
def RowAt (P : Program) (σ : H) (lo : Nat) (e : TypeId) (v : V) (xs : List (List V)) : Prop :=
  xs = [] ∧ v = .nils ∨ xs ≠ [] ∧ ∃ b, lo ≤ b ∧ v = .sl (P.cellsOf e) b 0 xs.length false ∧ σ.get b = some (.rows e xs)

theorem RowAt.nil {σ : H} {lo : Nat} {e : TypeId} : RowAt P σ lo e .nils [] := .inl ⟨rfl, rfl⟩

theorem RowAt.keep {σ σ' : H} {lo : Nat} {e : TypeId} {v : V} {xs : List (List V)} (h : RowAt P σ lo e v xs) (hk : ∀ b B, lo ≤ b → σ.get b = some B → σ'.get b = some B) : RowAt P σ' lo e v xs := by
  rcases h with h | ⟨h, b, h1, h2, h3⟩
  · exact .inl h
  · exact .inr ⟨h, b, h1, h2, hk b _ h1 h3⟩

theorem RowAt.alloc {σ : H} {lo : Nat} {e : TypeId} {v : V} {xs : List (List V)} (h : RowAt P σ lo e v xs) (X : Blk) : RowAt P (σ.alloc X) lo e v xs := h.keep fun _ _ _ g => H.get_alloc_old g

theorem RowAt.set {σ : H} {lo : Nat} {e : TypeId} {v : V} {xs : List (List V)} (h : RowAt P σ lo e v xs) {q : Nat} (hq : q < lo ∨ σ.get q = none) (X : Blk) : RowAt P (σ.set q X) lo e v xs := h.keep fun b B hb g => by
  rw [H.get_set_ne (fun e => ?_)]
  · exact g
  · subst e; rcases hq with hq | hq
    · omega
    · rw [hq] at g; simp at g

theorem RowAt.set_new {σ : H} {lo : Nat} {e : TypeId} {v : V} {xs : List (List V)} (h : RowAt P σ lo e v xs) (X Y : Blk) : RowAt P ((σ.alloc X).set σ.nx Y) lo e v xs := h.keep fun b B hb g => by
  rw [H.get_set_ne (H.ne_nx g)]
  exact H.get_alloc_old g

/-- An append to such a row. -/
theorem append_rowAt {σ : H} {lo : Nat} {e : TypeId} {v : V} {xs new : List (List V)} (h : RowAt P σ lo e v xs) (hn : new ≠ []) (hok : rowsOk P e new) (hf : fitsMem P e (xs.length + new.length)) (hlo : lo ≤ σ.nx) :
    ∃ v' σ', aappendTo P σ e v new = some (v', σ') ∧ RowAt P σ' lo e v' (xs ++ new) ∧ (∀ S, Same lo S σ σ') ∧ v' = .sl (P.cellsOf e) σ.nx 0 (xs ++ new).length false ∧ σ'.nx = σ.nx + 1 ∧ ∀ b B, σ.get b = some B → (∀ n ex, v ≠ .sl (P.cellsOf e) b 0 n ex) → σ'.get b = some B := by
  rcases h with ⟨rfl, rfl⟩ | ⟨h, b, h1, rfl, h3⟩
  · refine ⟨.sl (P.cellsOf e) σ.nx 0 ([] ++ new).length false, σ.alloc (.rows e new), ?_, .inr ⟨by simpa using hn, σ.nx, hlo, rfl, ?_⟩, fun S => (Same.refl hlo).alloc _, rfl, by simp, fun b B g _ => H.get_alloc_old g⟩
    · rw [append_nils, if_neg hn, if_pos ⟨hok, by simpa using hf⟩]; rfl
    · simp
  · have hb := H.get_lt h3
    refine ⟨.sl (P.cellsOf e) σ.nx 0 (xs ++ new).length false, (σ.kill b).alloc (.rows e (xs ++ new)), ?_, .inr ⟨by simp [h], σ.nx, hlo, rfl, ?_⟩, fun S => ((Same.refl hlo).kill (.inl h1)).alloc _, rfl, by simp, fun b' B g hv => ?_⟩
    · rw [append_sl, if_neg hn, h3]
      simp only
      rw [if_pos ⟨trivial, hok, hf, by omega⟩, if_neg (by simp), if_pos (by omega)]
      rfl
    · exact H.get_alloc_new (σ.kill b) _
    · show ((σ.kill b).alloc _).get b' = some B
      have hne : b' ≠ b := fun e => hv _ _ (by rw [e])
      rw [H.get_alloc, if_neg (show b' ≠ (σ.kill b).nx from (H.ne_nx g : b' ≠ σ.nx)), H.get_kill_ne hne]
      exact g

theorem RowAt.ne {σ : H} {lo : Nat} {e : TypeId} {v : V} {xs : List (List V)} (h : RowAt P σ lo e v xs) {q : Nat} (hq : σ.get q = none ∨ q < lo) (sz n : Nat) (ex : Bool) : v ≠ .sl sz q 0 n ex := by
  rcases h with ⟨_, rfl⟩ | ⟨_, b, h1, rfl, h3⟩
  · simp
  · intro e
    injection e with _ e
    subst e
    rcases hq with hq | hq
    · rw [hq] at h3; simp at h3
    · omega

theorem get_nx (σ : H) : σ.get σ.nx = none := by
  cases h : σ.get σ.nx with
  | none => rfl
  | some x => exact absurd rfl (H.ne_nx h)

theorem bindO_append {σ : H} {lo : Nat} {e : TypeId} {v : V} {xs new : List (List V)} {k : V → H → Prop} (h : RowAt P σ lo e v xs) (hn : new ≠ []) (hok : rowsOk P e new) (hf : fitsMem P e (xs.length + new.length)) (hlo : lo ≤ σ.nx)
    (hk : ∀ v' σ', RowAt P σ' lo e v' (xs ++ new) → (∀ S, Same lo S σ σ') → (∀ b B, σ.get b = some B → (∀ n ex, v ≠ .sl (P.cellsOf e) b 0 n ex) → σ'.get b = some B) → k v' σ') : bindO (aappendTo P σ e v new) k := by
  obtain ⟨v', σ', h1, h2, h3, _, _, h4⟩ := append_rowAt h hn hok hf hlo
  rw [h1]
  exact hk v' σ' h2 h3 h4

/-- A cut between two codes: behind it slots may be frozen. -/
theorem ac_cut {N : Nat} {x y : Code} {t : Env} {σ : H} {Q : Exit → Env → H → Prop} (h : AC P N x t σ (seqQ P N y Q)) : ACode P N (.seq x y) t σ Q := a_seq (ac_sound _ _ _ _ h)
section
variable {N : Nat} (y : Code) (Q : Exit → Env → H → Prop) (t : Env) (σ : H)
@[simp] theorem seqQ_normal : seqQ P N y Q .normal t σ = ACode P N y t σ Q := (rfl)
@[simp] theorem seqQ_exit (i : Nat) : seqQ P N y Q (.exit i) t σ = Q (.exit i) t σ := (rfl)
@[simp] theorem seqQ_ret : seqQ P N y Q .ret t σ = Q .ret t σ := (rfl)
end

theorem Same.none {lo : Nat} {σ σ' : H} (h : ∀ S, Same lo S σ σ') {x : Nat} {B : Option Blk} (hg : σ.get x = B) (hx : x < lo) : σ'.get x = B := ((h fun _ => False).get x hx (fun h => h)).trans hg

end Go.Proofs.Ytngbibpmaofamaa.Ab

/- The abstract calculus: the arguments of a law, of any types without pointers, maps and functions, told as abstract values; from a pure call to the machine's own. -/
-- AbO
namespace Go.Proofs.Ytngbibpmaofamaa.Ab
open Go Go.ChangeShapes Go.WideShapes

/-- Cells that belong to types, one after another. -/
def WTs (R : TypeId → List V → Prop) : List TypeId → List V → Prop
  | [], cs => cs = []
  | t :: ts, cs => ∃ a b, cs = a ++ b ∧ R t a ∧ WTs R ts b

/-- Cells that belong to a type. -/
def WT (P : Program) : Nat → TypeId → List V → Prop
  | 0, _, _ => False
  | k + 1, t, cs => match P.underlying t with
    | some .bool => ∃ b, cs = [.bool b]
    | some (.int q) => ∃ n, cs = [.int q n] ∧ q.min ≤ n ∧ n ≤ q.max
    | some .string => ∃ s, cs = [.str s] ∧ s.size ≤ maxLen
    | some (.slice e) => ∃ xs, cs = [.imm xs false] ∧ xs.length ≤ maxLen ∧ ∀ row ∈ xs, WT P k e row
    | some (.struct fs) => WTs (WT P k) (fs.toList.map (·.type)) cs
    | some (.array n e) => WTs (WT P k) (List.replicate n e) cs
    | _ => False

section
variable {P : Program} {k : Nat} {t : TypeId} {cs : List V}
theorem WT.bool (hu : P.underlying t = some .bool) (h : WT P (k + 1) t cs) : ∃ b, cs = [.bool b] := by unfold WT at h; rw [hu] at h; exact h
theorem WT.int {q : IntKind} (hu : P.underlying t = some (.int q)) (h : WT P (k + 1) t cs) : ∃ n, cs = [.int q n] ∧ q.min ≤ n ∧ n ≤ q.max := by unfold WT at h; rw [hu] at h; exact h
theorem WT.string (hu : P.underlying t = some .string) (h : WT P (k + 1) t cs) : ∃ s, cs = [.str s] ∧ s.size ≤ maxLen := by unfold WT at h; rw [hu] at h; exact h
theorem WT.slice {e : TypeId} (hu : P.underlying t = some (.slice e)) (h : WT P (k + 1) t cs) : ∃ xs, cs = [.imm xs false] ∧ xs.length ≤ maxLen ∧ ∀ row ∈ xs, WT P k e row := by unfold WT at h; rw [hu] at h; exact h
theorem WT.struct {fs : Array Field} (hu : P.underlying t = some (.struct fs)) (h : WT P (k + 1) t cs) : WTs (WT P k) (fs.toList.map (·.type)) cs := by unfold WT at h; rw [hu] at h; exact h
theorem WT.array {n : Nat} {e : TypeId} (hu : P.underlying t = some (.array n e)) (h : WT P (k + 1) t cs) : WTs (WT P k) (List.replicate n e) cs := by unfold WT at h; rw [hu] at h; exact h
end

def laidF (P : Program) : List Field → Nat → Option Nat
  | [], o => some o
  | f :: fs, o => if f.offset = o then laidF P fs (o + P.cellsOf f.type) else none

/-- The types that are told. -/
def okT (P : Program) : Nat → TypeId → Bool
  | 0, _ => false
  | k + 1, t => match P.underlying t with
    | some .bool | some (.int _) | some .string => true
    | some (.slice e) => okT P k e && P.cellsOf e != 0
    | some (.struct fs) => fs.toList.all (fun f => okT P k f.type) && laidF P fs.toList 0 == some (P.cellsOf t)
    | some (.array n e) => okT P k e && P.cellsOf t == n * P.cellsOf e
    | _ => false

/-- Cells, told. -/
def CV (F : Part) (vs : List V) (cs : List Value) : Prop := vs.length = cs.length ∧ ∀ (i : Nat) v c, vs[i]? = some v → cs[i]? = some c → VR F (fun _ => none) v c

theorem CV.nil {F : Part} : CV F [] [] := ⟨rfl, fun i v c h => by simp at h⟩
theorem CV.one {F : Part} {v : V} {c : Value} (h : VR F (fun _ => none) v c) : CV F [v] [c] := ⟨rfl, fun i v' c' h1 h2 => by
  cases i with
  | zero => simp at h1 h2; subst h1; subst h2; exact h
  | succ i => simp at h1⟩
theorem CV.append {F : Part} {vs vs' : List V} {cs cs' : List Value} (h : CV F vs cs) (h' : CV F vs' cs') : CV F (vs ++ vs') (cs ++ cs') := by
  refine ⟨by simp [h.1, h'.1], fun i v c h1 h2 => ?_⟩
  by_cases hi : i < vs.length
  · rw [List.getElem?_append_left hi] at h1
    rw [List.getElem?_append_left (by rw [← h.1]; exact hi)] at h2
    exact h.2 i v c h1 h2
  · rw [List.getElem?_append_right (by omega)] at h1
    rw [List.getElem?_append_right (by rw [← h.1]; omega), ← h.1] at h2
    exact h'.2 _ v c h1 h2

abbrev full (W : World) : Part := fun k => W.heap[k]?

section
variable {Dt : Type} {enc : TypeId × Value → Dt} {P : Program} {W : World} {sp : Nat → Bool} {held : Bool}

theorem fields_told {R : TypeId → List V → Prop} {F : Part} {cs : List Value} : ∀ (fs : List Field) (o tot : Nat), laidF P fs o = some tot → cs.length = tot →
    (∀ f ∈ fs, ∃ vs, CV F vs ((cs.drop f.offset).take (P.cellsOf f.type)) ∧ R f.type vs) → ∃ vs, CV F vs (cs.drop o) ∧ WTs R (fs.map (·.type)) vs
  | [], o, tot, hl, hc, _ => by
    injection hl with hl
    subst hl
    rw [← hc, List.drop_length]
    exact ⟨[], CV.nil, rfl⟩
  | f :: fs, o, tot, hl, hc, h => by
    unfold laidF at hl
    split at hl
    · rename_i ho
      obtain ⟨v1, a1, a2⟩ := h f (List.mem_cons_self ..)
      obtain ⟨v2, b1, b2⟩ := fields_told fs _ tot hl hc fun g hg => h g (List.mem_cons_of_mem _ hg)
      refine ⟨v1 ++ v2, ?_, v1, v2, rfl, a2, b2⟩
      rw [ho] at a1
      have e : cs.drop o = (cs.drop o).take (P.cellsOf f.type) ++ cs.drop (o + P.cellsOf f.type) := by
        rw [← List.drop_drop, List.take_append_drop]
      rw [e]
      exact a1.append b1
    · simp at hl

theorem array_told {R : TypeId → List V → Prop} {F : Part} {cs : List Value} {c : Nat} {e : TypeId} : ∀ (j n : Nat), j ≤ n → cs.length = n * c → (∀ i, i < n → ∃ vs, CV F vs ((cs.drop (i * c)).take c) ∧ R e vs) →
    ∃ vs, CV F vs (cs.drop ((n - j) * c)) ∧ WTs R (List.replicate j e) vs
  | 0, n, _, hl, _ => by
    rw [Nat.sub_zero, ← hl, List.drop_length]
    exact ⟨[], CV.nil, rfl⟩
  | j + 1, n, hj, hl, h => by
    obtain ⟨v1, a1, a2⟩ := h (n - (j + 1)) (by omega)
    obtain ⟨v2, b1, b2⟩ := array_told j n (by omega) hl h
    refine ⟨v1 ++ v2, ?_, v1, v2, rfl, a2, b2⟩
    have e : cs.drop ((n - (j + 1)) * c) = (cs.drop ((n - (j + 1)) * c)).take c ++ cs.drop ((n - j) * c) := by
      have e2 : (n - j) * c = (n - (j + 1)) * c + c := by
        rw [show n - j = (n - (j + 1)) + 1 by omega, Nat.add_mul, Nat.one_mul]
      rw [e2, ← List.drop_drop, List.take_append_drop]
    rw [e]
    exact a1.append b1

theorem open_cells : ∀ (k : Nat) {t : TypeId} {fuel : Nat} {cs : List Value} {x : DataW Dt × List MemPlace}, okT P k t = true → DataW.trod enc P W 0 sp held fuel t cs = some x → ∃ vs, CV (full W) vs cs ∧ WT P k t vs
  | 0, _, _, _, _, h, _ => by simp [okT] at h
  | k + 1, t, fuel, cs, x, hok, h => by
    unfold okT at hok
    unfold WT
    split at hok
    · rename_i hu
      obtain ⟨b, rfl, _⟩ := DataW.trod_bool hu h
      try rw [hu]
      exact ⟨_, CV.one (.bool b), b, rfl⟩
    · rename_i q hu
      obtain ⟨n, rfl, _, hw⟩ := DataW.trod_int hu h
      try rw [hu]
      simp only [Lit.wf, Bool.and_eq_true, decide_eq_true_eq] at hw
      exact ⟨_, CV.one (.int q n), n, rfl, hw⟩
    · rename_i hu
      obtain ⟨s, rfl, _, hw⟩ := DataW.trod_string hu h
      try rw [hu]
      exact ⟨_, CV.one (.str s), s, rfl, hw⟩
    · rename_i e hu
      try rw [hu]
      simp only [Bool.and_eq_true, bne_iff_ne, ne_eq] at hok
      obtain ⟨ok, hne⟩ := hok
      rcases DataW.trod_slice hu h with ⟨rfl, _⟩ | ⟨a, len, cap, elems, rest, n, _, rfl, _, _, hl, hm, hlen, hel, _, _⟩
      · exact ⟨_, CV.one .imm0, [], rfl, by simp, by simp⟩
      · have each : ∀ i : Nat, ∃ vs : List V, i < len → ∃ csi, W.cells? 0 (a.add (i * P.cellsOf e)) (P.cellsOf e) = some csi ∧ CV (full W) vs csi ∧ WT P k e vs := by
          intro i
          by_cases hi : i < len
          · have h1 := hel i hi
            rw [List.getElem?_eq_getElem (by omega)] at h1
            obtain ⟨csi, h2, h3⟩ := Option.bind_eq_some_iff.1 h1
            obtain ⟨vs, v1, v2⟩ := open_cells k ok h3
            exact ⟨vs, fun _ => ⟨csi, h2, v1, v2⟩⟩
          · exact ⟨[], fun h => absurd h hi⟩
        obtain ⟨f, hf⟩ := Classical.axiomOfChoice each
        have hxl : ((List.range len).map f).length = len := by simp
        have hget : ∀ (i : Nat) row, ((List.range len).map f)[i]? = some row → i < len ∧ row = f i := by
          intro i row hi
          have hil := (List.getElem?_eq_some_iff.1 hi).1
          rw [hxl] at hil
          rw [List.getElem?_map, List.getElem?_range hil] at hi
          injection hi with hi
          exact ⟨hil, hi.symm⟩
        have hz : 0 < P.cellsOf e := Nat.pos_of_ne_zero hne
        -- the block
        have hblk : 0 < len → a.spot = none ∧ ∃ cc el fr, W.heap[a.block]? = some (.cells cc el fr) ∧ ∀ i, i < len → ∀ (j : Nat) v, (f i)[j]? = some v → ∃ y, cc[a.off + i * P.cellsOf e + j]? = some y ∧ VR (full W) (fun _ => none) v y := by
          intro hpos
          have cellAt : ∀ i, i < len → ∀ (j : Nat) v, (f i)[j]? = some v → ∃ y, W.cell? ((a.add (i * P.cellsOf e)).add j) = some y ∧ VR (full W) (fun _ => none) v y := by
            intro i hi j v hv
            obtain ⟨csi, h2, h3, h4⟩ := hf i hi
            obtain ⟨_, c1, c2⟩ := World.cells?_some h2
            have hj := (List.getElem?_eq_some_iff.1 hv).1
            have hjl : j < csi.length := by rw [← h3.1]; exact hj
            have h5 := List.getElem?_eq_getElem hjl
            exact ⟨csi[j], by rw [c2 j (by omega), h5], h3.2 j v _ hv h5⟩
          have flen : ∀ i, i < len → (f i).length = P.cellsOf e := by
            intro i hi
            obtain ⟨csi, h2, h3, h4⟩ := hf i hi
            rw [h3.1, (World.cells?_some h2).2.1]
          obtain ⟨y0, hy0, _⟩ := cellAt 0 hpos 0 _ (List.getElem?_eq_getElem (by rw [flen 0 hpos]; exact hz))
          have e0 : (a.add (0 * P.cellsOf e)).add 0 = a := by simp [Addr.add]
          rw [e0] at hy0
          unfold World.cell? at hy0
          cases hh : W.heap[a.block]? with
          | none => rw [hh] at hy0; simp at hy0
          | some o =>
            rw [hh] at hy0
            cases o with
            | cells cc el fr =>
              simp only at hy0
              have hspot : a.spot = none := by
                cases hs : a.spot with
                | none => rfl
                | some s => rw [hs] at hy0; simp at hy0
              refine ⟨hspot, cc, el, fr, rfl, fun i hi j v hv => ?_⟩
              obtain ⟨y, hy, hvr⟩ := cellAt i hi j v hv
              have e1 : (a.add (i * P.cellsOf e)).add j = ⟨a.block, a.off + i * P.cellsOf e + j, none⟩ := by
                rw [add_eq hspot, add_eq (by rfl)]
              rw [e1] at hy
              unfold World.cell? at hy
              rw [hh] at hy
              exact ⟨y, by simpa using hy, hvr⟩
            | _ => simp at hy0
        refine ⟨[.imm ((List.range len).map f) false], CV.one ?_, _, rfl, by rw [hxl]; omega, ?_⟩
        · by_cases hpos : 0 < len
          · obtain ⟨hspot, cc, el, fr, hh, hc⟩ := hblk hpos
            have := VR.imm (F := full W) (ρ := fun _ => none) (xs := (List.range len).map f) (ex := false) (a := a) (cap := cap) (P.cellsOf e) cc el fr (fun i j => (cc[a.off + i * P.cellsOf e + j]?).getD undef) (by rw [hxl]; exact hl) (by simp) (fun _ => hspot) (fun _ => hh)
              (fun row hrow => by
                obtain ⟨i, hi⟩ := List.getElem?_of_mem hrow
                obtain ⟨g1, rfl⟩ := hget i row hi
                obtain ⟨csi, h2, h3, h4⟩ := hf i g1
                rw [h3.1, (World.cells?_some h2).2.1])
              (fun i row hi j v hv => by
                obtain ⟨g1, rfl⟩ := hget i row hi
                obtain ⟨y, hy, _⟩ := hc i g1 j v hv
                rw [hy]; rfl)
              (fun i row hi j v hv => by
                obtain ⟨g1, rfl⟩ := hget i row hi
                obtain ⟨y, hy, hvr⟩ := hc i g1 j v hv
                rw [hy]; exact hvr)
            rwa [hxl] at this
          · have hl0 : len = 0 := by omega
            subst hl0
            exact VR.imm (F := full W) (ρ := fun _ => none) (xs := []) (ex := false) (a := a) (cap := cap) (P.cellsOf e) #[] 0 (0, 0) (fun _ _ => undef) (by simp) (by simp) (fun h => absurd rfl h) (fun h => absurd rfl h) (by simp) (fun i row hi => by simp at hi) (fun i row hi => by simp at hi)
        · intro row hrow
          obtain ⟨i, hi⟩ := List.getElem?_of_mem hrow
          obtain ⟨g1, rfl⟩ := hget i row hi
          obtain ⟨csi, h2, h3, h4⟩ := hf i g1
          exact h4
    · rename_i fs hu
      try rw [hu]
      simp only [Bool.and_eq_true, beq_iff_eq] at hok
      obtain ⟨hall, hlaid⟩ := hok
      obtain ⟨xs, n, rfl, _, hcl, hxl, hf⟩ := DataW.trod_struct hu h
      obtain ⟨vs, h1, h2⟩ := fields_told (R := WT P k) (F := full W) (cs := cs) fs.toList 0 _ hlaid hcl fun f hfm => by
        obtain ⟨i, hi⟩ := List.getElem?_of_mem hfm
        have hi' : fs[i]? = some f := by simpa using hi
        have h3 := hf i f hi'
        have hil := (Array.getElem?_eq_some_iff.1 hi').1
        rw [List.getElem?_eq_getElem (by omega)] at h3
        exact open_cells k (List.all_eq_true.1 hall f hfm) h3
      exact ⟨vs, by simpa using h1, h2⟩
    · rename_i n e hu
      try rw [hu]
      simp only [Bool.and_eq_true, beq_iff_eq] at hok
      obtain ⟨ok, hcn⟩ := hok
      obtain ⟨xs, m, rfl, _, hcl, hxl, hf⟩ := DataW.trod_array hu h
      obtain ⟨vs, h1, h2⟩ := array_told (R := WT P k) (F := full W) (cs := cs) (c := P.cellsOf e) (e := e) n n (Nat.le_refl _) (by rw [hcl, hcn]) fun i hi => by
        have h3 := hf i hi
        rw [List.getElem?_eq_getElem (by omega)] at h3
        exact open_cells k ok h3
      exact ⟨vs, by simpa using h1, h2⟩
    · simp at hok

/-- An argument of a type. -/
def argV (P : Program) (t : TypeId) (vs : List V) : V := match P.underlying t with
  | some (.struct _) | some (.array _ _) => .agg vs
  | _ => vs.headD .junk

theorem CV.head {F : Part} {v : V} {c : Value} (h : CV F [v] [c]) : VR F (fun _ => none) v c := h.2 0 v c rfl rfl

theorem open_arg {k : Nat} {r : Reach} {base : Nat} {t : TypeId} {v : Value} {d : DataW Dt} {p : List MemPlace} (hok : okT P k t = true) (hval : Value.okWide P W r base t v) (h : DataW.Trod enc P W 0 sp held t v d p) :
    ∃ vs, WT P k t vs ∧ VR (full W) (fun _ => none) (argV P t vs) v := by
  obtain ⟨fuel, hf⟩ := h
  obtain ⟨vs, h1, h2⟩ := open_cells k hok hf
  refine ⟨vs, h2, ?_⟩
  cases k with
  | zero => simp [okT] at hok
  | succ k =>
    unfold okT at hok
    unfold WT at h2
    unfold argV
    split at hok
    · rename_i hu
      try rw [hu] at h2
      try rw [hu]
      obtain ⟨b, rfl⟩ := okWide_bool hu hval
      obtain ⟨b', rfl⟩ := h2
      exact h1.head
    · rename_i q hu
      try rw [hu] at h2
      try rw [hu]
      obtain ⟨n', rfl⟩ := okWide_int hu hval
      obtain ⟨n, rfl, _⟩ := h2
      exact h1.head
    · rename_i hu
      try rw [hu] at h2
      try rw [hu]
      obtain ⟨s', rfl⟩ := okWide_string hu hval
      obtain ⟨s, rfl, _⟩ := h2
      exact h1.head
    · rename_i e hu
      try rw [hu] at h2
      try rw [hu]
      obtain ⟨a, len, cap, rfl⟩ := okWide_slice hu hval
      obtain ⟨xs, rfl, _⟩ := h2
      exact h1.head
    · rename_i fs hu
      try rw [hu]
      obtain ⟨cs, rfl, _⟩ := okWide_struct hu hval
      have := VR.agg (F := full W) (ρ := fun _ => none) (cs := vs) cs.toList (by rw [h1.1]; rfl) (fun i x y hx hy => h1.2 i x y hx hy)
      simpa using this
    · rename_i n e hu
      try rw [hu]
      unfold Value.okWide at hval
      rw [hu] at hval
      obtain ⟨cs, rfl, _⟩ := hval
      have := VR.agg (F := full W) (ρ := fun _ => none) (cs := vs) cs.toList (by rw [h1.1]; rfl) (fun i x y hx hy => h1.2 i x y hx hy)
      simpa using this
    · simp at hok

/-- The arguments of a law. -/
def ArgsT (P : Program) (k : Nat) : List TypeId → List V → Prop
  | [], av => av = []
  | t :: ts, av => ∃ vs rest, av = argV P t vs :: rest ∧ WT P k t vs ∧ ArgsT P k ts rest

theorem open_args {k : Nat} {r : Reach} {base : Nat} : ∀ (ts : List TypeId) (vs : List Value) (ds : List (DataW Dt)) (ps : List MemPlace), (∀ t ∈ ts, okT P k t = true) → DataW.TrodAll enc P W 0 sp held ts vs ds ps →
    (∀ (j : Nat) t v, ts[j]? = some t → vs[j]? = some v → Value.okWide P W r base t v) → ∃ av, VRL (full W) (fun _ => none) av vs ∧ ArgsT P k ts av
  | [], vs, ds, ps, _, h, _ => by
    obtain ⟨rfl, rfl, rfl⟩ := trodAll_nil h
    exact ⟨[], ⟨rfl, fun i x y hx => by simp at hx⟩, rfl⟩
  | t :: ts, vs, ds, ps, hok, h, hval => by
    obtain ⟨v, vs', d, ds', p, q, rfl, rfl, rfl, h1, h2⟩ := trodAll_cons h
    obtain ⟨av, a1, a2⟩ := open_args ts vs' ds' q (fun t' ht => hok t' (List.mem_cons_of_mem _ ht)) h2 (fun j t' v' hj hv => hval (j + 1) t' v' (by simpa using hj) (by simpa using hv))
    obtain ⟨us, b1, b2⟩ := open_arg (hok t (List.mem_cons_self ..)) (hval 0 t v rfl rfl) h1
    refine ⟨argV P t us :: av, ⟨by simp [a1.1], fun i x y hx hy => ?_⟩, us, av, rfl, b1, a2⟩
    cases i with
    | zero => simp at hx hy; subst hx; subst hy; exact b2
    | succ i => exact a1.2 i x y (by simpa using hx) (by simpa using hy)

/-- From a pure call to the machine's own. -/
theorem law_calls {k : Nat} {r : Reach} {base : Nat} {f : FuncId} {ts : List TypeId} {vs : List Value} {ds : List (DataW Dt)} {ps : List MemPlace} (hok : ∀ t ∈ ts, okT P k t = true) (h : DataW.TrodAll enc P W 0 sp held ts vs ds ps)
    (hval : ∀ (j : Nat) t v, ts[j]? = some t → vs[j]? = some v → Value.okWide P W r base t v) (hrun : ∀ av, ArgsT P k ts av → PRun P f av (fun r => r = .bool true)) :
    Calls P f vs.toArray W fun e W' => e = .returned (.bool true) ∧ Go.RowKit.Below W.heap.size W W' := by
  obtain ⟨av, a1, a2⟩ := open_args ts vs ds ps hok h hval
  have rel : Rel P W H.empty (fun _ => none) (full W) (fun _ => none) W :=
    ⟨rfl, rfl, ⟨rfl, Nat.le_refl _⟩, fun k o h => h, fun k o h => by simp at h, fun k o h => rfl, fun b x h => by simp at h, fun b b' x x' l l' h => by simp at h, fun _ _ => rfl⟩
  refine (hrun av a2 W _ _ _ W vs rel a1).mono ?_
  rintro e W' ⟨v, r, σ', ρ', F', he, ⟨_, hq⟩, h1, h2, h3, h4⟩
  subst hq
  rw [vr_bool h4] at he
  have hb : ∀ k o, W.heap[k]? = some o → W'.heap[k]? = some o := fun k o hk => h3.frz k o (h2 k o hk)
  refine ⟨he, h3.os, h3.tape, h3.out.1, ?_, fun k hk => ?_⟩
  · rcases Nat.lt_or_ge W'.heap.size W.heap.size with h | h
    · have := hb W'.heap.size W.heap[W'.heap.size] (by simp [h])
      have := (Array.getElem?_eq_some_iff.1 this).1
      omega
    · exact h
  · have e := Array.getElem?_eq_getElem hk
    rw [e, hb k _ e]

theorem trodAll_below (hl : laidOutB P = true) {W' : World} (hb : Go.RowKit.Below W.heap.size W W') : ∀ (ts : List TypeId) (vs : List Value) (ds : List (DataW Dt)) (ps : List MemPlace), (∀ t ∈ ts, P.readableRec t = true ∧ t < P.types.size) →
    DataW.TrodAll enc P W 0 (fun _ => true) true ts vs ds ps → DataW.TrodAll enc P W' 0 (fun b => decide (b < W.heap.size)) true ts vs ds ps
  | [], vs, ds, ps, _, h => by
    obtain ⟨rfl, rfl, rfl⟩ := trodAll_nil h
    exact trodAll_mk0
  | t :: ts, vs, ds, ps, hok, h => by
    obtain ⟨v, vs', d, ds', p, q, rfl, rfl, rfl, h1, h2⟩ := trodAll_cons h
    have h3 := trodAll_below hl hb ts vs' ds' q (fun t' ht => hok t' (List.mem_cons_of_mem _ ht)) h2
    have hlt : ∀ x ∈ p, x.block < W.heap.size := by
      obtain ⟨m, hm⟩ := h1
      exact DataW.trod_lt m _ _ _ hm
    obtain ⟨o1, o2⟩ := hok t (List.mem_cons_self ..)
    exact trodAll_cons_mk (Go.RowKit.Below.trod hl o1 o2 h1 hb hlt) h3

/-- Rows that are each of a kind are a list of that kind. -/
theorem rows_map {α : Type} {f : α → List V} {Q : α → Prop} : ∀ {xs : List (List V)}, (∀ row ∈ xs, ∃ x, row = f x ∧ Q x) → ∃ L : List α, xs = L.map f ∧ ∀ x ∈ L, Q x
  | [], _ => ⟨[], rfl, by simp⟩
  | row :: xs, h => by
    obtain ⟨x, rfl, hx⟩ := h row (List.mem_cons_self ..)
    obtain ⟨L, rfl, hL⟩ := rows_map (xs := xs) fun r hr => h r (List.mem_cons_of_mem _ hr)
    exact ⟨x :: L, rfl, fun y hy => by
      rcases List.mem_cons.1 hy with e | e
      · subst e; exact hx
      · exact hL y e⟩

end
end Go.Proofs.Ytngbibpmaofamaa.Ab
