/- slices.symMergeCmpFunc at []int: what it does to the row. -/
import Derived.Test.YtngbibpmaofamaaSta3
import Derived.Test.YtngbibpmaofamaaSta4
import Derived.Deep.DeepCutAuto
namespace Go.Proofs.StabW
open Go.Shelf Go.RowKit Go.Lib Go.Sort Go.Proofs.Stab
variable {α : Type} [Inhabited α]

/-- What the calls inside ask of symMerge itself. -/
def SymAt (enc : α → Value) (cf : α → α → Int) (g : Nat) (cb : Array Value) (blk off cap : Nat) (d0 : Array α) (w0 : World) (k : Nat) : Prop :=
  ∀ (a m b : Nat) (d : Array α) (w : World), b - a ≤ k → a < m → m < b → b ≤ d0.size → d.size = d0.size → SW enc w0 blk off d w →
    Calls Try.prog 139 #[.slice (some ⟨blk, off, none⟩) d0.size cap, .int .i64 a, .int .i64 m, .int .i64 b, .func (.func g) #[] cb] w fun e w' => e = .returned (.tuple #[]) ∧ SW enc w0 blk off (symMerge cf k a m b d) w'

set_option maxHeartbeats 32000000 in
set_option maxRecDepth 1000000 in
theorem symMain (enc : α → Value) (cf : α → α → Int) (g : Nat) (cb : Array Value) (blk off cap a m b k : Nat) (d0 d : Array α) (w0 w : World)
    (eg : ∀ args w, (callFunc g args).run Try.prog w = .ok (.enter g args) w) (hcmp : CmpLays1 Try.prog g cb enc cf blk off d0.size w0) (R : Row1 enc w0 blk off d0) (hs : d.size = d0.size) (S : SW enc w0 blk off d w) (ham : a + 1 < m) (hmb : m + 1 < b) (hb : b ≤ d0.size) (hsz : d0.size < 4611686018427387904)
    (hk : b - a ≤ k + 1) (ih : SymAt enc cf g cb blk off cap d0 w0 k) :
    Calls Try.prog 139 #[.slice (some ⟨blk, off, none⟩) d0.size cap, .int .i64 a, .int .i64 m, .int .i64 b, .func (.func g) #[] cb] w fun e w' => e = .returned (.tuple #[]) ∧ SW enc w0 blk off (symMerge cf (k + 1) a m b d) w' := by
  have mixed := mixed
  have hcl0 := R.hO.cells
  simp only [Value.cells] at hcl0
  have hst := R.hO.store Try.prog
  have HC : Aside _ := hcmp
  have S0 : Aside (SW enc w0 blk off d w) := S
  clear S
  clear hcmp
  have hd1 : ((m : Int) - (a : Int) == 1) = false := by rw [beq_eq_false_iff_ne]; omega
  have hd2 : ((b : Int) - (m : Int) == 1) = false := by rw [beq_eq_false_iff_ne]; omega
  go_enter Try.func139, Try.ntmps139
  go_upto_if 140 with fail
  obtain ⟨mi, emi⟩ : ∃ mi : Nat, mi = mid a b := ⟨_, rfl⟩
  have hm1 : a < mi := by unfold mid at emi; omega
  have hm2 : mi < b := by unfold mid at emi; omega
  have ez : ((a : Int) + (b : Int)) / 2 = (mi : Int) := by unfold mid at emi; omega
  obtain ⟨s0, es0⟩ : ∃ s : Nat, s = st0 a m b := ⟨_, rfl⟩
  obtain ⟨r0, er0⟩ : ∃ s : Nat, s = en0 a m b := ⟨_, rfl⟩
  have g1 : a ≤ s0 ∧ s0 ≤ r0 ∧ r0 ≤ m ∧ r0 ≤ mi ∧ mi + m ≤ b + s0 := by subst es0 er0 emi; unfold st0 en0 mid; split <;> omega
  obtain ⟨g1, g2, g3, g4, g5⟩ := g1
  have g6 : (mi < m → s0 + b = mi + m ∧ r0 = mi) ∧ (¬ mi < m → s0 = a ∧ r0 = m) := by
    constructor
    · intro h; subst es0 er0; unfold st0 en0; rw [← emi, if_pos h, if_pos h]; unfold mid at emi; omega
    · intro h; subst es0 er0; unfold st0 en0; rw [← emi, if_neg h, if_neg h]; omega
  have G6 := Lib.hid g6
  have EMI := Lib.hid emi
  have ES0 := Lib.hid es0
  have ER0 := Lib.hid er0
  clear g6 emi es0 er0
  rw [ez]
  clear ez
  go_cut [20, 21] (fun s20 s21 wx => s20 = .int .i64 (s0 : Int) ∧ s21 = .int .i64 (r0 : Int) ∧ wx = w)
  case first =>
    by_cases hc : mi < m
    · have hcz : (mi : Int) < (m : Int) := by omega
      have e1 : (s0 : Int) = (mi : Int) + (m : Int) - (b : Int) := by have := G6.out.1 hc; omega
      have e2 : (r0 : Int) = (mi : Int) := by have := G6.out.1 hc; omega
      have E1 := Lib.hid e1
      have E2 := Lib.hid e2
      clear e1 e2
      go_wp2_with fail
      go_meet
      case rel => exact ⟨by rw [E1.out], by rw [E2.out], rfl⟩
    · have hcz : ¬ (mi : Int) < (m : Int) := by omega
      have e1 : (s0 : Int) = (a : Int) := by have := G6.out.2 hc; omega
      have e2 : (r0 : Int) = (m : Int) := by have := G6.out.2 hc; omega
      have E1 := Lib.hid e1
      have E2 := Lib.hid e2
      clear e1 e2
      go_wp2_with fail
      go_meet
      case rel => exact ⟨by rw [E1.out], by rw [E2.out], rfl⟩
  case rest =>
    obtain ⟨rfl, rfl, rfl⟩ := hcut
    obtain ⟨P, hP⟩ : ∃ P : Nat → Bool, P = fun c => !clt cf d[mid a b + m - 1 - c]! d[c]! := ⟨_, rfl⟩
    have HP := Lib.hid hP
    clear hP
    have g0 : b ≤ d0.size := hb
    have CUT : Hid (cut cf a m b d = bs P (r0 - s0) s0 r0) := by unfold cut; rw [← HP.out, ← ES0.out, ← ER0.out]; exact rfl
    obtain ⟨pp, hpp⟩ : ∃ q, q = mi + m - 1 := ⟨_, rfl⟩
    have epp : (mi : Int) + (m : Int) - 1 = (pp : Int) := by omega
    have hp1 : m ≤ pp := by omega
    have hp2 : pp < b + s0 := by omega
    have HPP := Lib.hid hpp
    clear hpp
    go_wp2_with fail
    (try rw [epp])
    clear epp
    go_loopg [20, 21, 23] (r0 - s0) (fun kx s20 s21 s23 wr => ∃ (i j : Nat), s20 = .int .i64 i ∧ s21 = .int .i64 j ∧ s0 ≤ i ∧ i ≤ j ∧ j ≤ r0 ∧ j - i ≤ kx ∧ Aside (SW enc w0 blk off d wr) ∧ Hid (bs P kx i j = bs P (r0 - s0) s0 r0))
    case atStart => exact ⟨s0, r0, rfl, rfl, by omega, by omega, by omega, by omega, S0, rfl⟩
    case round =>
      clear S0
      obtain ⟨i, j, rfl, rfl, hi, hij, hj, hkx, S1, HO⟩ := hrel
      by_cases hlt : i < j
      · have hltz : (i : Int) < (j : Int) := by omega
        obtain ⟨gg, rfl⟩ : ∃ q, gk = q + 1 := ⟨gk - 1, by omega⟩
        obtain ⟨h, eh⟩ : ∃ h : Nat, h = (i + j) / 2 := ⟨_, rfl⟩
        have hh1 : i ≤ h := by omega
        have hh2 : h < j := by omega
        have HQ : Hid ((if P h = true then bs P gg (h + 1) j else bs P gg i h) = bs P (r0 - s0) s0 r0) := by
          rw [← HO.out, bs, if_pos hlt, eh]; exact rfl
        clear HO
        have EH : Hid (h = (i + j) / 2) := eh
        clear eh
        go_wp2_with fail
        have ez : ((i : Int) + (j : Int)) / 2 = (h : Int) := by have := EH.out; omega
        rw [ez]
        clear ez
        obtain ⟨q, hq⟩ : ∃ q, q = pp - h := ⟨_, rfl⟩
        have pa : (0 : Int) ≤ (h : Int) := by omega
        have ba : (h : Int) < (d0.size : Int) := by omega
        have ec : ((pp : Int) - (h : Int)).toNat = q := by omega
        have pc : (0 : Int) ≤ (pp : Int) - (h : Int) := by omega
        have bc : (pp : Int) - (h : Int) < (d0.size : Int) := by omega
        have pd : (h : Int) ≤ (pp : Int) := by omega
        have rc : IntKind.i64.wrap ((pp : Int) - (h : Int)) = (pp : Int) - (h : Int) := by rw [IntKind.wrap_i64]; omega
        obtain ⟨x, hx⟩ : ∃ x, x = d[q]! := ⟨_, rfl⟩
        obtain ⟨y, hy⟩ : ∃ x, x = d[h]! := ⟨_, rfl⟩
        have la := S1.out.cl R (by omega) q (by omega)
        have lb := S1.out.cl R (by omega) h (by omega)
        rw [← hx] at la
        rw [← hy] at lb
        have hc := S1.out.cmp HC.out (by omega) x y
        have hPh : P h = !decide (cf x y < 0) := by rw [HP.out, hx, hy, hq, HPP.out, EMI.out]; rfl
        clear hq hx hy
        cases hv : decide (cf x y < 0) with
        | false =>
          have HQ2 : Hid (bs P gg (h + 1) j = bs P (r0 - s0) s0 r0) := by rw [← HQ.out, if_pos (by rw [hPh, hv]; rfl)]; exact rfl
          have hv2 : ¬ cf x y < 0 := of_decide_eq_false hv
          clear hPh HQ
          go_quiet_grown (first | (go_at_fn g; refine Calls.grown_of (hc _ _)))
          have S2 : Aside (SW enc w0 blk off d (grow (wr.drewN nq) osq)) := S1.out.grown nq osq
          clear la lb hc S1
          generalize grow (wr.drewN nq) osq = w2 at S2 ⊢
          clear nq osq ec
          go_wp2
          go_roundg gg
          case measure => omega
          case rel => exact ⟨h + 1, j, by go_num, rfl, by omega, by omega, hj, by omega, S2, HQ2⟩
        | true =>
          have HQ2 : Hid (bs P gg i h = bs P (r0 - s0) s0 r0) := by rw [← HQ.out, if_neg (by rw [hPh, hv]; simp)]; exact rfl
          have hv2 : cf x y < 0 := of_decide_eq_true hv
          clear hPh HQ
          go_quiet_grown (first | (go_at_fn g; refine Calls.grown_of (hc _ _)))
          have S2 : Aside (SW enc w0 blk off d (grow (wr.drewN nq) osq)) := S1.out.grown nq osq
          clear la lb hc S1
          generalize grow (wr.drewN nq) osq = w2 at S2 ⊢
          clear nq osq ec
          go_wp2
          go_roundg gg
          case measure => omega
          case rel => exact ⟨i, h, rfl, rfl, hi, by omega, by omega, by omega, S2, HQ2⟩
      · have hltz : ¬ (i : Int) < (j : Int) := by omega
        have HQ : Hid (bs P (r0 - s0) s0 r0 = i) := by
          rw [← HO.out]
          cases gk with
          | zero => exact rfl
          | succ gg => rw [bs, if_neg hlt]; exact rfl
        clear HO
        have CI : Hid (cut cf a m b d = i) := by rw [CUT.out, HQ.out]; exact rfl
        obtain ⟨e, ee⟩ : ∃ e : Nat, e = mi + m - i := ⟨_, rfl⟩
        have he1 : m ≤ e := by omega
        have he2 : e ≤ b := by omega
        have ez : (mi : Int) + (m : Int) - (i : Int) = (e : Int) := by omega
        have hem : m < e ↔ i < mi := by omega
        have hem2 : mi < e ↔ i < m := by omega
        have HEM := Lib.hid hem
        have HEM2 := Lib.hid hem2
        have EE := Lib.hid ee
        clear ee hem hem2
        have him : i ≤ m := by omega
        have himi : i ≤ mi := by omega
        have hai : a ≤ i := by omega
        clear hlt HQ CUT HP HPP hkx hij hi hj hp1 hp2 g1 g2 g3 g4 g5 G6 ES0 ER0
        -- what the rest comes to
        have FIN : Hid (symMerge cf (k + 1) a m b d = (if mi < e ∧ e < b then symMerge cf k mi e b (if a < i ∧ i < mi then symMerge cf k a i mi (rot m i e d) else rot m i e d) else (if a < i ∧ i < mi then symMerge cf k a i mi (rot m i e d) else rot m i e d))) := by
          rw [symMerge, if_neg (by omega), if_neg (by omega)]
          dsimp only
          rw [CI.out, ← EMI.out, ← EE.out]
          exact rfl
        clear CI
        have HR : ∀ W, SW enc w0 blk off d W → i < m → m < e → Calls Try.prog 155 #[.slice (some ⟨blk, off, none⟩) d0.size cap, .int .i64 i, .int .i64 m, .int .i64 e, .func (.func g) #[] cb] W fun x w' => x = .returned (.tuple #[]) ∧ SW enc w0 blk off (rot m i e d) w' := fun W hW h1 h2 => by
          rw [rot, if_pos ⟨h1, h2⟩, ← hs]
          exact rotate_s enc _ blk off cap i m e d0 d w0 W R hs.symm hW h1 h2 (by omega) (by omega)
        have HR2 := Lib.hid HR
        clear HR
        have RZ : (rot m i e d).size = d0.size := by rw [rot_size, hs]
        have RN : ¬ (i < m ∧ m < e) → rot m i e d = d := fun h => by rw [rot, if_neg h]
        generalize rot m i e d = d1 at *
        have HI1 : ∀ W, SW enc w0 blk off d1 W → a < i → i < mi → Calls Try.prog 139 #[.slice (some ⟨blk, off, none⟩) d0.size cap, .int .i64 a, .int .i64 i, .int .i64 mi, .func (.func g) #[] cb] W fun x w' => x = .returned (.tuple #[]) ∧ SW enc w0 blk off (symMerge cf k a i mi d1) w' := fun W hW h1 h2 =>
          ih a i mi d1 W (by omega) h1 h2 (by omega) RZ hW
        obtain ⟨d2, ed2⟩ : ∃ d2, d2 = (if a < i ∧ i < mi then symMerge cf k a i mi d1 else d1) := ⟨_, rfl⟩
        have DZ : d2.size = d0.size := by rw [ed2]; split <;> simp [symMerge_size, RZ]
        have HI2 : ∀ W, SW enc w0 blk off d2 W → mi < e → e < b → Calls Try.prog 139 #[.slice (some ⟨blk, off, none⟩) d0.size cap, .int .i64 mi, .int .i64 e, .int .i64 b, .func (.func g) #[] cb] W fun x w' => x = .returned (.tuple #[]) ∧ SW enc w0 blk off (symMerge cf k mi e b d2) w' := fun W hW h1 h2 =>
          ih mi e b d2 W (by omega) h1 h2 (by omega) DZ hW
        rw [← ed2] at FIN
        have ED2 := Lib.hid ed2
        have HJ1 := Lib.hid HI1
        have HJ2 := Lib.hid HI2
        have RN2 := Lib.hid RN
        have RZ2 := Lib.hid RZ
        have DZ2 := Lib.hid DZ
        clear ed2 HI1 HI2 RN RZ DZ
        go_upto_region 39 with fail
        (try rw [ez])
        clear ez
        by_cases c1 : i < m
        · skip
          by_cases c2 : i < mi
          · skip
            by_cases c3 : a < i
            · skip
              by_cases c4 : e < b
              · skip
                have z1 : ((i : Int) < (m : Int)) := by omega
                have z2 : ((m : Int) < (e : Int)) := by have := HEM.out; omega
                have z3 : ((a : Int) < (i : Int)) := by omega
                have z4 : ((i : Int) < (mi : Int)) := by omega
                have z5 : ((mi : Int) < (e : Int)) := by have := HEM2.out; omega
                have z6 : ((e : Int) < (b : Int)) := by omega
                go_wp2_with fail
                refine (HR2.out _ S1.out c1 (HEM.out.2 c2)).mono ?_
                rintro x wA ⟨rfl, SA⟩
                have S2 : Aside (SW enc w0 blk off d1 wA) := SA
                clear SA S1
                go_wp2_with fail
                refine (HJ1.out _ S2.out c3 c2).mono ?_
                rintro x wB ⟨rfl, SB⟩
                have S3 : Aside (SW enc w0 blk off d2 wB) := by rw [ED2.out, if_pos ⟨c3, c2⟩]; exact SB
                clear SB S2
                go_wp2_with fail
                refine (HJ2.out _ S3.out (HEM2.out.2 c1) c4).mono ?_
                rintro x wC ⟨rfl, SC⟩
                have S4 : Aside (SW enc w0 blk off (symMerge cf k mi e b d2) wC) := SC
                clear SC S3
                go_wp2
                go_end0
                refine ⟨rfl, ?_⟩
                rw [FIN.out, if_pos ⟨HEM2.out.2 c1, c4⟩]
                exact S4.out
              · skip
                have z1 : ((i : Int) < (m : Int)) := by omega
                have z2 : ((m : Int) < (e : Int)) := by have := HEM.out; omega
                have z3 : ((a : Int) < (i : Int)) := by omega
                have z4 : ((i : Int) < (mi : Int)) := by omega
                have z5 : ((mi : Int) < (e : Int)) := by have := HEM2.out; omega
                have z6 : ¬ ((e : Int) < (b : Int)) := by omega
                go_wp2_with fail
                refine (HR2.out _ S1.out c1 (HEM.out.2 c2)).mono ?_
                rintro x wA ⟨rfl, SA⟩
                have S2 : Aside (SW enc w0 blk off d1 wA) := SA
                clear SA S1
                go_wp2_with fail
                refine (HJ1.out _ S2.out c3 c2).mono ?_
                rintro x wB ⟨rfl, SB⟩
                have S3 : Aside (SW enc w0 blk off d2 wB) := by rw [ED2.out, if_pos ⟨c3, c2⟩]; exact SB
                clear SB S2
                go_wp2
                go_end0
                refine ⟨rfl, ?_⟩
                rw [FIN.out, if_neg (by rw [HEM2.out]; omega)]
                exact S3.out
            · skip
              by_cases c4 : e < b
              · skip
                have z1 : ((i : Int) < (m : Int)) := by omega
                have z2 : ((m : Int) < (e : Int)) := by have := HEM.out; omega
                have z3 : ¬ ((a : Int) < (i : Int)) := by omega
                have z4 : ((i : Int) < (mi : Int)) := by omega
                have z5 : ((mi : Int) < (e : Int)) := by have := HEM2.out; omega
                have z6 : ((e : Int) < (b : Int)) := by omega
                go_wp2_with fail
                refine (HR2.out _ S1.out c1 (HEM.out.2 c2)).mono ?_
                rintro x wA ⟨rfl, SA⟩
                have S2 : Aside (SW enc w0 blk off d1 wA) := SA
                clear SA S1
                have S3 : Aside (SW enc w0 blk off d2 wA) := by rw [ED2.out, if_neg (by omega)]; exact S2.out
                clear S2
                go_wp2_with fail
                refine (HJ2.out _ S3.out (HEM2.out.2 c1) c4).mono ?_
                rintro x wC ⟨rfl, SC⟩
                have S4 : Aside (SW enc w0 blk off (symMerge cf k mi e b d2) wC) := SC
                clear SC S3
                go_wp2
                go_end0
                refine ⟨rfl, ?_⟩
                rw [FIN.out, if_pos ⟨HEM2.out.2 c1, c4⟩]
                exact S4.out
              · skip
                have z1 : ((i : Int) < (m : Int)) := by omega
                have z2 : ((m : Int) < (e : Int)) := by have := HEM.out; omega
                have z3 : ¬ ((a : Int) < (i : Int)) := by omega
                have z4 : ((i : Int) < (mi : Int)) := by omega
                have z5 : ((mi : Int) < (e : Int)) := by have := HEM2.out; omega
                have z6 : ¬ ((e : Int) < (b : Int)) := by omega
                go_wp2_with fail
                refine (HR2.out _ S1.out c1 (HEM.out.2 c2)).mono ?_
                rintro x wA ⟨rfl, SA⟩
                have S2 : Aside (SW enc w0 blk off d1 wA) := SA
                clear SA S1
                have S3 : Aside (SW enc w0 blk off d2 wA) := by rw [ED2.out, if_neg (by omega)]; exact S2.out
                clear S2
                go_wp2
                go_end0
                refine ⟨rfl, ?_⟩
                rw [FIN.out, if_neg (by rw [HEM2.out]; omega)]
                exact S3.out
          · skip
            by_cases c3 : a < i
            · skip
              by_cases c4 : e < b
              · skip
                have z1 : ((i : Int) < (m : Int)) := by omega
                have z2 : ¬ ((m : Int) < (e : Int)) := by have := HEM.out; omega
                have z3 : ((a : Int) < (i : Int)) := by omega
                have z4 : ¬ ((i : Int) < (mi : Int)) := by omega
                have z5 : ((mi : Int) < (e : Int)) := by have := HEM2.out; omega
                have z6 : ((e : Int) < (b : Int)) := by omega
                have S2 : Aside (SW enc w0 blk off d1 wr) := by rw [RN2.out (by rw [HEM.out]; omega)]; exact S1.out
                clear S1
                have S3 : Aside (SW enc w0 blk off d2 wr) := by rw [ED2.out, if_neg (by omega)]; exact S2.out
                clear S2
                go_wp2_with fail
                refine (HJ2.out _ S3.out (HEM2.out.2 c1) c4).mono ?_
                rintro x wC ⟨rfl, SC⟩
                have S4 : Aside (SW enc w0 blk off (symMerge cf k mi e b d2) wC) := SC
                clear SC S3
                go_wp2
                go_end0
                refine ⟨rfl, ?_⟩
                rw [FIN.out, if_pos ⟨HEM2.out.2 c1, c4⟩]
                exact S4.out
              · skip
                exfalso; have := HEM.out; have := HEM2.out; omega
            · skip
              by_cases c4 : e < b
              · skip
                exfalso; omega
              · skip
                exfalso; omega
        · skip
          by_cases c2 : i < mi
          · skip
            by_cases c3 : a < i
            · skip
              by_cases c4 : e < b
              · skip
                have z1 : ¬ ((i : Int) < (m : Int)) := by omega
                have z2 : ((m : Int) < (e : Int)) := by have := HEM.out; omega
                have z3 : ((a : Int) < (i : Int)) := by omega
                have z4 : ((i : Int) < (mi : Int)) := by omega
                have z5 : ¬ ((mi : Int) < (e : Int)) := by have := HEM2.out; omega
                have z6 : ((e : Int) < (b : Int)) := by omega
                have S2 : Aside (SW enc w0 blk off d1 wr) := by rw [RN2.out (by rw [HEM.out]; omega)]; exact S1.out
                clear S1
                go_wp2_with fail
                refine (HJ1.out _ S2.out c3 c2).mono ?_
                rintro x wB ⟨rfl, SB⟩
                have S3 : Aside (SW enc w0 blk off d2 wB) := by rw [ED2.out, if_pos ⟨c3, c2⟩]; exact SB
                clear SB S2
                go_wp2
                go_end0
                refine ⟨rfl, ?_⟩
                rw [FIN.out, if_neg (by rw [HEM2.out]; omega)]
                exact S3.out
              · skip
                exfalso; have := HEM.out; have := HEM2.out; omega
            · skip
              by_cases c4 : e < b
              · skip
                exfalso; omega
              · skip
                exfalso; omega
          · skip
            by_cases c3 : a < i
            · skip
              by_cases c4 : e < b
              · skip
                have z1 : ¬ ((i : Int) < (m : Int)) := by omega
                have z2 : ¬ ((m : Int) < (e : Int)) := by have := HEM.out; omega
                have z3 : ((a : Int) < (i : Int)) := by omega
                have z4 : ¬ ((i : Int) < (mi : Int)) := by omega
                have z5 : ¬ ((mi : Int) < (e : Int)) := by have := HEM2.out; omega
                have z6 : ((e : Int) < (b : Int)) := by omega
                have S2 : Aside (SW enc w0 blk off d1 wr) := by rw [RN2.out (by rw [HEM.out]; omega)]; exact S1.out
                clear S1
                have S3 : Aside (SW enc w0 blk off d2 wr) := by rw [ED2.out, if_neg (by omega)]; exact S2.out
                clear S2
                go_wp2
                go_end0
                refine ⟨rfl, ?_⟩
                rw [FIN.out, if_neg (by rw [HEM2.out]; omega)]
                exact S3.out
              · skip
                exfalso; have := HEM.out; have := HEM2.out; omega
            · skip
              by_cases c4 : e < b
              · skip
                exfalso; omega
              · skip
                exfalso; omega
end Go.Proofs.StabW
