/- ExecutiveFair, the plain law, part 5: share's answer, its loops and its sort together. -/
import Derived.Test.YtngbibpmaofamaaFairD
namespace Go.Proofs.Fair
open Go.RowKit Go.Proofs.Ytngbibpmaofamaa.QTest Go.Proofs.YtngbibpmaofamaaW.PrintWords Go.Proofs.YtngbibpmaofamaaW.PrintMore

theorem mn_bound {a b : Int} (ha : 0 ≤ a) (hb : 0 ≤ b) : 0 ≤ mn a b ∧ mn a b ≤ a ∧ mn a b ≤ b := by
  unfold mn
  split <;> omega

theorem share_pos {L : List S25} (hs : Small L) {m c : Int} {cuts : List Int} (hc : cuts.length = L.length) (h0 : 0 < c) (hcs : c ≤ ssum L m L.length) :
    ∃ cuts', Ev (fun k => executive_share.l1 k cuts (grp L m L.length) c (grp L m L.length) ((grp L m L.length).length : Int) 0 L (ssum L m L.length) c) (c, cuts') ∧ Post L m c cuts cuts' := by
  obtain ⟨S, hS⟩ : ∃ S, S = ssum L m L.length := ⟨_, rfl⟩
  obtain ⟨G, hG⟩ : ∃ G, G = grp L m L.length := ⟨_, rfl⟩
  have hSb := (ssum_bound hs m L.length (Nat.le_refl _)).2
  have hl := hs.len
  rw [← hS] at hSb hcs ⊢
  have hS0 : 0 < S := by omega
  have hc0 : 0 ≤ c := by omega
  have hc1 : c ≤ 960 := by omega
  have hin : ∀ x ∈ G, 0 ≤ x ∧ x < L.length := fun x hx => by
    rw [hG] at hx
    have := mem_grp.1 hx
    exact ⟨this.1, this.2.1⟩
  have hasc : G.Pairwise (· < ·) := by rw [hG]; exact grp_asc L m L.length
  have hlen : G.length ≤ L.length := by rw [hG]; exact grp_len L m L.length
  have hnd := nodup_of_asc hasc
  have hsumS : (G.map (am L)).sum = S := by rw [hG, hS]; exact grp_sum L m (am L) L.length
  have hpos : 0 < G.length := by
    rcases Nat.eq_zero_or_pos G.length with e | e
    · have : G = [] := List.eq_nil_of_length_eq_zero e
      rw [this] at hsumS
      simp at hsumS
      omega
    · exact e
  rw [← hG]
  obtain ⟨D, hD⟩ : ∃ D, D = Shc.sortG L.length (fun i => (rd_T25 L i).f0) c S G := ⟨_, rfl⟩
  have hperm : D.Perm G := by rw [hD]; exact List.mergeSort_perm _ _
  have hdesc := sort_desc (s := S) hs hc0 hc1 G hin
  rw [← hD] at hdesc
  obtain ⟨rr, hrr⟩ : ∃ rr : Int → Int, rr = fun x => c * am L x % S := ⟨_, rfl⟩
  have hrb : ∀ x, 0 ≤ rr x ∧ rr x < S := fun x => by
    rw [hrr]
    exact ⟨Int.emod_nonneg _ (by omega), Int.emod_lt_of_pos _ hS0⟩
  have hlin : (G.map fun x => c * am L x).sum = S * (G.map (qq L c S)).sum + (G.map rr).sum := sum_lin G fun x _ => by
    rw [hrr]
    exact (Int.mul_ediv_add_emod _ _).symm
  rw [sum_mulc, hsumS] at hlin
  have hqs : (G.map (qq L c S)).sum = qsum L c S G := rfl
  rw [hqs] at hlin
  have hR0 : 0 ≤ (G.map rr).sum := sum_ge0 G fun x _ => (hrb x).1
  have hR1 : (G.map rr).sum ≤ G.length * S := sum_le G fun x _ => Int.le_of_lt (hrb x).2
  have hleft : S * (c - qsum L c S G) = (G.map rr).sum := by rw [Int.mul_sub, Int.mul_comm S c]; omega
  have hl0 : 0 ≤ c - qsum L c S G := by
    refine Int.not_lt.1 fun h => ?_
    have := Int.mul_lt_mul_of_pos_left h hS0
    rw [Int.mul_zero] at this
    omega
  have hl1 : c - qsum L c S G ≤ G.length := by
    refine Int.le_of_mul_le_mul_left (a := S) ?_ hS0
    rw [hleft, Int.mul_comm S]
    exact hR1
  obtain ⟨n, hn⟩ : ∃ n : Nat, c - qsum L c S G = (n : Int) := ⟨(c - qsum L c S G).toNat, by omega⟩
  have hnG : n ≤ G.length := by omega
  have hDl : D.length = G.length := hperm.length_eq
  have hTpos := head_pos hS0 D n (fun x _ => hrb x) (by rw [hrr]; exact hdesc) (by rw [perm_sum hperm, ← hleft, hn])
  have hDn : D.Nodup := hperm.nodup_iff.2 hnd
  have hDin : ∀ x ∈ D, x ∈ G := fun x hx => hperm.mem_iff.1 hx
  obtain ⟨T, hT⟩ : ∃ T, T = D.take n := ⟨_, rfl⟩
  have hTn : T.Nodup := by rw [hT]; exact hDn.sublist (List.take_sublist _ _)
  have hTin : ∀ x ∈ T, x ∈ G := fun x hx => by rw [hT] at hx; exact hDin x (List.mem_of_mem_take hx)
  have hTl : T.length = n := by rw [hT, List.length_take]; omega
  obtain ⟨c1, hc1d⟩ : ∃ c1, c1 = G.foldl (setq L c S) cuts := ⟨_, rfl⟩
  have fs := fold_set (qq L c S) G cuts (fun x hx => by rw [hc]; exact hin x hx)
  have hf1 : c1.length = cuts.length := by rw [hc1d]; exact fs.1
  have hf2 : ∀ i, 0 ≤ i → rd c1 i = if i ∈ G then qq L c S i else rd cuts i := by rw [hc1d]; exact fs.2
  have fi := fold_inc T c1 hTn (fun x hx => by
    have hx2 := hin x (hTin x hx)
    have hq := qq_bound hs hc0 hc1 hS0 hx2.1 hx2.2
    rw [hf1, hc, hf2 x hx2.1, if_pos (hTin x hx)]
    refine ⟨hx2.1, hx2.2, hq.1, Int.le_trans hq.2.1 (by decide)⟩)
  have hcell : ∀ i, 0 ≤ i → rd (T.foldl inc c1) i = (if i ∈ G then qq L c S i else rd cuts i) + if i ∈ T then 1 else 0 := fun i hi => by rw [fi.2 i hi, hf2 i hi]
  have hmem : ∀ i : Nat, i < L.length → ((i : Int) ∈ G ↔ inG L m i) := fun i hi => by
    rw [hG, mem_grp]
    constructor
    · exact fun h => h.2.2
    · exact fun h => ⟨by omega, by omega, h⟩
  have hpart : ∀ i : Nat, i < L.length → inG L m i → 0 ≤ rd (T.foldl inc c1) i ∧ rd (T.foldl inc c1) i ≤ am L i ∧ rd (T.foldl inc c1) i * S - c * am L i < S ∧ -S < rd (T.foldl inc c1) i * S - c * am L i := fun i hi hg => by
    rw [hcell i (by omega), if_pos ((hmem i hi).2 hg)]
    refine part hc0 hcs hS0 (hs.amt i hi).1 rfl rfl ?_
    by_cases ht : (i : Int) ∈ T
    · refine .inr ⟨if_pos ht, ?_⟩
      have := hTpos i (by rw [← hT]; exact ht)
      rw [hrr] at this
      exact this
    · exact .inl (if_neg ht)
  refine ⟨T.foldl inc c1, ?_, ⟨by rw [fi.1, hf1], fun i hi hg => ?_, fun i hi hg => ⟨(hpart i hi hg).1, (hpart i hi hg).2.1⟩, fun i hi hg => by rw [← hS]; exact (hpart i hi hg).2.2, ?_⟩⟩
  · have hstart := share_l1 hs hc0 hc1 hS0 G (by omega) cuts hc hin (c, T.foldl inc c1) ?_ G.length 0 (by omega)
    · have e1 : qsum L c S (G.take 0) = 0 := rfl
      rw [e1, Int.sub_zero] at hstart
      exact hstart
    · have hsort : slices_SortStableFunc_share.f G c L S = some D := by
        unfold slices_SortStableFunc_share.f
        rw [if_pos ⟨hpos, by omega, hin, hasc, by omega⟩, hD]
      refine Ev.congr (g := fun k => executive_share.l2 k c1 T (T.length : Int) 0 c) (fun k => ?_) ?_
      · show (slices_SortStableFunc_share.f G c L S).bind _ = _
        rw [hsort]
        show (if 0 ≤ c - qsum L c S G then (if c - qsum L c S G ≤ (G.length : Int) then executive_share.l2 k (G.foldl (setq L c S) cuts) (D.take (c - qsum L c S G).toNat) ((D.take (c - qsum L c S G).toNat).length : Int) 0 c else none) else none) = _
        rw [if_pos hl0, if_pos hl1, hn, Int.toNat_natCast, ← hT, hc1d]
      · exact share_l2 c c1 (by rw [hf1, hc]; exact hl) T (by rw [hTl]; omega) (fun x hx => by rw [hf1, hc]; exact hin x (hTin x hx)) T.length 0 (by omega)
  · have hng : ¬ (i : Int) ∈ G := fun h => hg ((hmem i hi).1 h)
    rw [hcell i (by omega), if_neg hng, if_neg (fun h => hng (hTin _ h)), Int.add_zero]
  · rw [← grp_sum L m (fun i => rd (T.foldl inc c1) i) L.length, ← hG]
    have e1 : (G.map fun i => rd (T.foldl inc c1) i).sum = (G.map fun x => qq L c S x + if x ∈ T then (1 : Int) else 0).sum := sum_congr fun x hx => by rw [hcell x (hin x hx).1, if_pos hx]
    rw [e1, sum_addf, ← perm_sum hperm (fun x => if x ∈ T then (1 : Int) else 0)]
    have e2 : (D.map fun x => if x ∈ T then (1 : Int) else 0).sum = n := by
      have e3 : D = D.take n ++ D.drop n := (List.take_append_drop n D).symm
      have hdis : ∀ x ∈ D.drop n, ¬ x ∈ T := fun x hx ht => by
        rw [e3] at hDn
        rw [hT] at ht
        exact (List.nodup_append.1 hDn).2.2 x ht x hx rfl
      have e4 : (D.map fun x => if x ∈ T then (1 : Int) else 0).sum = ((D.take n).map fun x => if x ∈ T then (1 : Int) else 0).sum + ((D.drop n).map fun x => if x ∈ T then (1 : Int) else 0).sum := by
        conv => lhs; rw [e3]
        rw [List.map_append, List.sum_append]
      rw [e4, sum_out T _ hdis, sum_mem T _ (fun x hx => by rw [hT]; exact hx), ← hT, hTl]
      omega
    rw [e2, hqs]
    omega

theorem share_ev {L : List S25} (hs : Small L) {m need : Int} (hn0 : 0 ≤ need) {cuts : List Int} (hc : cuts.length = L.length) (hz : ∀ i : Nat, i < L.length → inG L m i → rd cuts i = 0) :
    ∃ cuts', Ev (fun k => executive_share.f k L m need cuts) (mn need (ssum L m L.length), cuts') ∧ Post L m (mn need (ssum L m L.length)) cuts cuts' := by
  have hSb := ssum_bound hs m L.length (Nat.le_refl _)
  have hb := mn_bound hn0 hSb.1
  by_cases h0 : mn need (ssum L m L.length) = 0
  · refine ⟨cuts, ?_, ⟨rfl, fun _ _ _ => rfl, fun i hi hg => ?_, fun i hi hg => ?_, ?_⟩⟩
    · exact share_l0 hs m need cuts _ (Ev.congr (fun k => by rw [if_pos h0]) (by rw [h0]; exact Ev.ret)) L.length 0 (by omega)
    · have := (hs.amt i hi).1
      rw [hz i hi hg]
      omega
    · have := S_pos hs hi hg
      rw [hz i hi hg, h0, Int.zero_mul, Int.zero_mul]
      omega
    · rw [h0]
      refine (sm_congr _ fun i hi => ?_).trans (sm_zero L.length)
      show (if inG L m i then rd cuts i else 0) = 0
      split
      · next hg => exact hz i hi hg
      · rfl
  · obtain ⟨cuts', h1, h2⟩ := share_pos hs (m := m) (c := mn need (ssum L m L.length)) hc (by omega) hb.2.2
    exact ⟨cuts', share_l0 hs m need cuts _ (Ev.congr (fun k => by rw [if_neg h0]) h1) L.length 0 (by omega), h2⟩
end Go.Proofs.Fair
