/-
  What the functions compute that the law of this claim reaches. By an AI agent.
-/
import Derived.Test.YtdaffodmpoadgaaG2
set_option linter.unusedSimpArgs false
set_option linter.unusedVariables false

set_option linter.unusedSimpArgs false
namespace Go.Proofs.Ytdaffodmpoadgaa
open Go.Tn
set_option maxHeartbeats 8000000
set_option maxRecDepth 100000
def keyS (s : St6) : Int × Int := (s.j, s.q)
def keyA (s : St6) : Int × Int := (s.i, s.p)
def ltS (x y : St6) : Prop := ordF x y < 0
theorem ltS_iff (x y : St6) : ltS x y ↔ x.j < y.j ∨ (x.j = y.j ∧ x.q < y.q) := ordF_lt x y
structure OkS (d : Dl) : Prop where
  mem : ∀ x ∈ d.sets, ((x.i, x.j) ∈ d.rows ∧ (x.p, x.q) ∈ d.cols) ∧ x.o ≠ x.n
  up : d.sets.Pairwise ltS
theorem okS_iff (d : Dl) : (¬ ∃ i, i < d.sets.length ∧ okS d i = false) ↔ OkS d := by
  have ats : ∀ {i : Nat} (hi : i < d.sets.length), setAt6 d i = d.sets[i] := fun {i} hi => by
    unfold setAt6
    rw [List.getD_eq_getElem?_getD, List.getElem?_eq_getElem hi]; rfl
  constructor
  · intro h
    have all : ∀ i, i < d.sets.length → okS d i = true := fun i hi => by
      cases hb : okS d i with
      | true => rfl
      | false => exact absurd ⟨i, hi, hb⟩ h
    refine ⟨fun x hx => ?_, ?_⟩
    · obtain ⟨i, hi, rfl⟩ := List.getElem_of_mem hx
      have := all i hi
      simp only [okS, ats hi, Bool.and_eq_true, decide_eq_true_eq] at this
      exact ⟨⟨this.1.1.1, this.1.1.2⟩, this.1.2⟩
    · have adj : ∀ i (hi : i + 1 < d.sets.length), ltS d.sets[i] d.sets[i + 1] := fun i hi => by
        have := all (i + 1) hi
        simp only [okS, ats hi, Bool.and_eq_true, Bool.or_eq_true, decide_eq_true_eq, Nat.add_sub_cancel, ats (show i < d.sets.length by omega)] at this
        exact this.2.resolve_left (by omega)
      rw [List.pairwise_iff_getElem]
      intro i j hi hj hij
      obtain ⟨k, rfl⟩ : ∃ k, j = i + 1 + k := ⟨j - (i + 1), by omega⟩
      induction k with
      | zero => exact adj i hj
      | succ k ih =>
        have h1 := ih (by omega) (by omega)
        have h2 := adj (i + 1 + k) (by omega)
        rw [ltS_iff] at *
        have e : d.sets[i + 1 + (k + 1)] = d.sets[i + 1 + k + 1] := rfl
        rw [e]
        omega
  · rintro g ⟨i, hi, hb⟩
    have h1 := g.mem _ (List.getElem_mem hi)
    have : okS d i = true := by
      simp only [okS, ats hi, Bool.and_eq_true, Bool.or_eq_true, decide_eq_true_eq]
      refine ⟨⟨⟨h1.1.1, h1.1.2⟩, h1.2⟩, ?_⟩
      by_cases h0 : i = 0
      · exact .inl h0
      · rw [ats (show i - 1 < d.sets.length by omega)]
        exact .inr (List.pairwise_iff_getElem.1 g.up (i - 1) i (by omega) hi (by omega))
    rw [this] at hb; cases hb
structure OkD (d : Dl) : Prop where
  ne : 0 < d.A.length ∧ 0 < d.B.length
  once : onceF d.A = true ∧ onceF d.B = true
  big : (d.A.length ≤ 40 ∧ d.B.length ≤ 40) ∧ d.na ≤ 400 ∧ d.nb ≤ 400
  cols : Good d.cols d.A.length d.B.length
  rows : Good d.rows d.na d.nb
  lines : mtF (isL d.A.length) d.dels (goneR d) = true ∧ mtF (isL d.B.length) d.inss (newR' d) = true
  spots : mtF isS d.lost (crF (wiF (goneR d) d.na.toNat) (goneC d)) = true ∧ mtF isS d.gain (crF (wiF (newR' d) d.nb.toNat) (newC d)) = true
  sets : OkS d
  short : ¬ ∃ s ∈ txF d, 1000 < s.length
theorem chkD_zero (d : Dl) : chkD d = 0 ↔ OkD d := by
  unfold chkD
  constructor
  · intro h
    by_cases p1 : 0 < d.A.length ∧ 0 < d.B.length
    · rw [if_neg (fun h => h p1)] at h
      by_cases p2 : onceF d.A = true ∧ onceF d.B = true
      · rw [if_neg (fun h => h p2)] at h
        by_cases p3 : (d.A.length ≤ 40 ∧ d.B.length ≤ 40) ∧ d.na ≤ 400 ∧ d.nb ≤ 400
        · rw [if_neg (fun h => h p3)] at h
          by_cases p4 : chk d.cols d.A.length d.B.length = 0
          · rw [if_neg (fun h => h p4)] at h
            by_cases p5 : chk d.rows d.na d.nb = 0
            · rw [if_neg (fun h => h p5)] at h
              by_cases p6 : mtF (isL d.A.length) d.dels (goneR d) = true ∧ mtF (isL d.B.length) d.inss (newR' d) = true
              · rw [if_neg (fun h => h p6)] at h
                by_cases p7 : mtF isS d.lost (crF (wiF (goneR d) d.na.toNat) (goneC d)) = true ∧ mtF isS d.gain (crF (wiF (newR' d) d.nb.toNat) (newC d)) = true
                · rw [if_neg (fun h => h p7)] at h
                  by_cases p8 : ∃ i, i < d.sets.length ∧ okS d i = false
                  · rw [if_pos p8] at h; omega
                  · rw [if_neg p8] at h
                    by_cases p9 : ∃ s ∈ txF d, 1000 < s.length
                    · rw [if_pos p9] at h; omega
                    · exact ⟨p1, p2, p3, (chk_zero _ _ _).1 p4, (chk_zero _ _ _).1 p5, p6, p7, (okS_iff d).1 p8, p9⟩
                · rw [if_pos p7] at h; omega
              · rw [if_pos p6] at h; omega
            · rw [if_pos p5] at h; exact absurd h p5
          · rw [if_pos p4] at h; exact absurd h p4
        · rw [if_pos p3] at h; omega
      · rw [if_pos p2] at h; omega
    · rw [if_pos p1] at h; omega
  · rintro ⟨p1, p2, p3, p4, p5, p6, p7, p8, p9⟩
    rw [if_neg (fun h => h p1), if_neg (fun h => h p2), if_neg (fun h => h p3), if_neg (fun h => h ((chk_zero _ _ _).2 p4)), if_neg (fun h => h ((chk_zero _ _ _).2 p5)), if_neg (fun h => h p6), if_neg (fun h => h p7), if_neg ((okS_iff d).2 p8), if_neg p9]
theorem perm_turnSs (l : List St6) : (turnSs l).Perm (l.map turnS) := List.mergeSort_perm _ _
theorem mem_turnSs {l : List St6} {x : St6} : x ∈ turnSs l ↔ turnS x ∈ l := by
  rw [(perm_turnSs l).mem_iff, List.mem_map]
  constructor
  · rintro ⟨q, hq, rfl⟩; exact hq
  · intro h; exact ⟨_, h, rfl⟩
theorem OkD.keys {d : Dl} (g : OkD d) : (d.sets.map keyS).Nodup ∧ (d.sets.map keyA).Nodup := by
  constructor
  · rw [List.nodup_iff_pairwise_ne, List.pairwise_map]
    refine g.sets.up.imp fun h e => ?_
    rw [ltS_iff] at h
    simp only [keyS, Prod.mk.injEq] at e
    omega
  · rw [List.nodup_iff_pairwise_ne, List.pairwise_map]
    refine List.Pairwise.imp_of_mem (R := ltS) (fun {x y} hx hy h e => ?_) g.sets.up
    rw [ltS_iff] at h
    simp only [keyA, Prod.mk.injEq] at e
    have h1 := g.sets.mem x hx
    have h2 := g.sets.mem y hy
    have e1 := congrArg Prod.snd (inj_at g.rows.na h1.1.1 h2.1.1 e.1)
    have e2 := congrArg Prod.snd (inj_at g.cols.na h1.1.2 h2.1.2 e.2)
    simp only at e1 e2
    omega
theorem OkD.tsets {d : Dl} (g : OkD d) : OkS (turnD d) := by
  refine ⟨fun x hx => ?_, ?_⟩
  · have h := g.sets.mem _ (mem_turnSs.1 hx)
    exact ⟨⟨mem_turnP.2 h.1.1, mem_turnP.2 h.1.2⟩, fun e => h.2 e.symm⟩
  · have h1 := Ps.srt_sorted pre_leJ (d.sets.map turnS)
    have h2 : ((turnSs d.sets).map keyS).Nodup := by
      have := (perm_turnSs d.sets).map keyS
      rw [List.map_map] at this
      exact this.nodup_iff.2 g.keys.2
    rw [List.nodup_iff_pairwise_ne, List.pairwise_map] at h2
    refine (List.Pairwise.and h1 h2).imp fun h => ?_
    obtain ⟨h3, h4⟩ := h
    rw [leJ_iff] at h3
    rw [ltS_iff]
    simp only [keyS, ne_eq, Prod.mk.injEq] at h4
    omega
theorem OkD.bsets {d : Dl} (g : OkD d) : turnSs (turnSs d.sets) = d.sets := by
  have p : (turnSs (turnSs d.sets)).Perm d.sets := by
    refine (perm_turnSs _).trans ?_
    have := (perm_turnSs d.sets).map turnS
    rw [List.map_map] at this
    refine this.trans ?_
    have e : d.sets.map (turnS ∘ turnS) = d.sets := by
      rw [show (turnS ∘ turnS) = id from rfl]; exact List.map_id _
    rw [e]
  refine List.Perm.eq_of_pairwise (le := fun x y => leJ x y = true) (fun a b ha hb h1 h2 => ?_) (Ps.srt_sorted pre_leJ _) (g.sets.up.imp fun h => ?_) p
  · rw [leJ_iff] at h1 h2
    refine inj_at g.keys.1 (p.mem_iff.1 ha) hb ?_
    simp only [keyS, Prod.mk.injEq]
    omega
  · rw [ltS_iff] at h; rw [leJ_iff]; omega
theorem OkD.back {d : Dl} (g : OkD d) : turnD (turnD d) = d := by
  have e1 := g.cols.back
  have e2 := g.rows.back
  have e3 := g.bsets
  cases d
  simp only [turnD] at *
  rw [e1, e2, e3]
theorem goneR_t (d : Dl) : goneR (turnD d) = newR' d := rsL_congr (fun x => (turnP_fst d.rows).mem_iff) _
theorem newR_t (d : Dl) : newR' (turnD d) = goneR d := rsL_congr (fun x => (turnP_snd d.rows).mem_iff) _
theorem goneC_t (d : Dl) : goneC (turnD d) = newC d := rsL_congr (fun x => (turnP_fst d.cols).mem_iff) _
theorem newC_t (d : Dl) : newC (turnD d) = goneC d := rsL_congr (fun x => (turnP_snd d.cols).mem_iff) _
theorem tx_turn {d : Dl} {s : Str} (h : s ∈ txF (turnD d)) : s ∈ txF d := by
  have e1 : ∀ a b : List Ln, txL (a ++ b) = txL a ++ txL b := fun a b => by unfold txL; simp
  have e2 : ∀ a b : List Sp, txP (a ++ b) = txP a ++ txP b := fun a b => by unfold txP; simp
  have e3 : s ∈ txS (turnSs d.sets) → s ∈ txS d.sets := fun h => by
    obtain ⟨x, hx, hs⟩ := List.mem_flatMap.1 h
    refine List.mem_flatMap.2 ⟨_, mem_turnSs.1 hx, ?_⟩
    simp only [turnS, List.mem_cons, List.not_mem_nil, or_false] at hs ⊢
    exact hs.symm
  unfold txF at h ⊢
  simp only [turnD] at h
  rw [e1, e2] at h ⊢
  simp only [List.mem_append] at h ⊢
  rcases h with (((h | h) | h | h) | h) | h | h
  · exact .inl (.inl (.inl (.inr h)))
  · exact .inl (.inl (.inl (.inl h)))
  · exact .inl (.inl (.inr (.inr h)))
  · exact .inl (.inl (.inr (.inl h)))
  · exact .inl (.inr (e3 h))
  · exact .inr (.inr h)
  · exact .inr (.inl h)
theorem OkD.turn {d : Dl} (g : OkD d) : OkD (turnD d) := by
  refine ⟨⟨g.ne.2, g.ne.1⟩, ⟨g.once.2, g.once.1⟩, ⟨⟨g.big.1.2, g.big.1.1⟩, g.big.2.2, g.big.2.1⟩, g.cols.turn, g.rows.turn, ?_, ?_, g.tsets, fun ⟨s, hs, h⟩ => g.short ⟨s, tx_turn hs, h⟩⟩
  · rw [goneR_t, newR_t]; exact ⟨g.lines.2, g.lines.1⟩
  · rw [goneR_t, newR_t, goneC_t, newC_t]; exact ⟨g.spots.2, g.spots.1⟩
theorem own_iff (l : List (Int × Int)) (n : Int) : ownF l n = true ↔ (l.length : Int) = n ∧ l = (List.range l.length).map fun i : Nat => ((i : Int), (i : Int)) := by
  unfold ownF
  rw [Bool.and_eq_true, decide_eq_true_eq, List.all_eq_true]
  constructor
  · rintro ⟨h1, h2⟩
    refine ⟨h2, List.ext_getElem (by simp) fun i hi _ => ?_⟩
    have := h1 i (List.mem_range.2 hi)
    rw [decide_eq_true_eq, List.getD_eq_getElem?_getD, List.getElem?_eq_getElem hi] at this
    simpa using this
  · rintro ⟨h1, h2⟩
    refine ⟨fun j hj => ?_, h1⟩
    have hj := List.mem_range.1 hj
    rw [decide_eq_true_eq, List.getD_eq_getElem?_getD, List.getElem?_eq_getElem hj, Option.getD_some]
    have := List.getElem_of_eq h2 hj
    rw [this]; simp
theorem own_turn {l : List (Int × Int)} {n : Int} (h : ownF l n = true) : turnP l = l := by
  obtain ⟨_, h⟩ := (own_iff l n).1 h
  have e : l.map sw = l := by rw [h, List.map_map]; rfl
  unfold turnP
  rw [e]
  refine Ps.srt_id ?_
  rw [h, List.pairwise_map]
  refine (List.pairwise_lt_range).imp fun h => ?_
  simp only [leB, decide_eq_true_eq]; omega
theorem own_same {l : List (Int × Int)} {na nb n : Int} (g : Good l na nb) : ownF (turnP l) n = ownF l n := by
  cases h : ownF l n with
  | true => rw [own_turn h]; exact h
  | false =>
    cases h2 : ownF (turnP l) n with
    | false => rfl
    | true =>
      have := own_turn h2
      rw [g.back] at this
      rw [← this] at h2
      rw [h2] at h; cases h
theorem OkD.none {d : Dl} (g : OkD d) : noneF (turnD d) = noneF d := by
  unfold noneF
  simp only [turnD, turnSs_len]
  rw [own_same g.cols, own_same g.rows]
  have e1 : (d.inss.length + d.dels.length + d.sets.length + d.gain.length + d.lost.length = 0) = (d.dels.length + d.inss.length + d.sets.length + d.lost.length + d.gain.length = 0) := propext (by omega)
  simp only [e1]
  by_cases a : d.A = d.B
  · by_cases b : d.na = d.nb
    · have a' := a.symm
      have b' := b.symm
      simp only [a, b, decide_true, Bool.true_and]
    · have b' : ¬ d.nb = d.na := fun e => b e.symm
      simp [b, b']
  · have a' : ¬ d.B = d.A := fun e => a e.symm
    simp [a, a']
theorem fc_Back (d : Dl) (ht : okT d) : FC Try.prog 4 [] [.agg (eDl d)] (.ret (.bool true)) := by
  have hd1 := dDl_eDl d
  refine fc_M (fn := Try.f4) (C := (tab [(6, c_works), (7, c_fewD), (11, c_DChk), (9, c_DTrn), (12, c_DNone), (8, c_rSm)] [] [])) (rs := [2]) mixed (by kernel_rfl) (by kernel_rfl) rfl rfl (by kernel_rfl) (by intro ys h; cases h) ?_
  cases hf : fewF d with
  | false =>
    rw [eDl_lit] at hd1 ⊢
    simp +contextual (maxSteps := 5000000) only [go_sem, ↓reduceIte, c_works, st_works, c_fewD, st_fewD, hd1, ht, hf]
    exact wkL_self (eDl d)
  | true =>
    obtain ⟨hok, ha, hn, hna, hnb⟩ := few_ok hf
    by_cases hc : chkD d = 0
    · have g := (chkD_zero d).1 hc
      have hct := (chkD_zero (turnD d)).2 g.turn
      have hback := g.back
      have hnone := g.none
      have hs : rSameF d d = true := by rw [rSameF_iff]
      have hat : okArg (eDl (turnD d)) := by
        have hlen : (turnD d).cols.length = d.cols.length ∧ (turnD d).rows.length = d.rows.length ∧ (turnD d).sets.length = d.sets.length := ⟨turnP_len _, turnP_len _, turnSs_len _⟩
        refine okArg_eDl ⟨hok.B, hok.A, ?_, ?_, hok.inss, hok.dels, ?_, hok.gain, hok.lost, ?_⟩ (show d.nb < 1000000000 by omega) (show d.na < 1000000000 by omega) (fun x hx => ?_)
        · rw [hlen.1]; exact hok.cols
        · rw [hlen.2.1]; exact hok.rows
        · rw [hlen.2.2]; exact hok.sets
        · have := hok.cells
          unfold txL at this ⊢
          simp only [turnD, List.flatMap_append, List.length_append] at this ⊢
          omega
        · have h1 := ha.cs
          rw [dDl_eDl] at h1
          refine h1 x ?_
          simp only [turnD, List.mem_append] at hx ⊢
          exact hx.symm
      have hd2 := dDl_eDl (turnD d)
      generalize hT : turnD d = t at hct hback hnone hat hd2
      have ht2 := eDl_lit t
      rw [ht2] at hd2 hat
      have hd0 := eDl_lit d
      rw [hd0] at hd1 ha ⊢
      simp +contextual (maxSteps := 5000000) only [go_sem, ↓reduceIte, c_works, st_works, c_fewD, st_fewD, hd1, ht, hf, ha, hc, c_DChk, st_DChk, c_DTrn, st_DTrn, c_rSm, st_rSm, c_DNone, st_DNone, hd2, hat, ht2, hd0, hct, hback, hnone, hs, hT, Int.reduceEq, Int.reduceNe, Int.reduceLT, Int.reduceLE, Int.reduceToNat, Int.cast_ofNat_Int]
    · rw [eDl_lit] at hd1 ha ⊢
      simp +contextual (maxSteps := 5000000) only [go_sem, ↓reduceIte, c_works, st_works, c_fewD, st_fewD, hd1, ht, hf, ha, c_DChk, st_DChk, hc, Int.reduceEq, Int.reduceNe, Int.reduceLT, Int.reduceLE, Int.reduceToNat, Int.cast_ofNat_Int]
      exact wkL_self (eDl d)
end Go.Proofs.Ytdaffodmpoadgaa

set_option linter.unusedSimpArgs false
namespace Go.Proofs.Ytdaffodmpoadgaa
open Go.Tn
set_option maxHeartbeats 8000000
set_option maxRecDepth 100000
theorem Good.restA {l : List (Int × Int)} {na nb : Int} (g : Good l na nb) : (rsL (l.map (·.1)) na.toNat).length + l.length = na.toNat := by
  have := rsL_cnt (n := na.toNat) g.na (fun x hx => by
    obtain ⟨p, hp, rfl⟩ := List.mem_map.1 hx
    have h := g.inn p hp
    have := g.a0
    exact ⟨h.1, by rw [Int.toNat_of_nonneg this]; exact h.2.1⟩)
  rwa [List.length_map] at this
theorem Good.restB {l : List (Int × Int)} {na nb : Int} (g : Good l na nb) : (rsL (l.map (·.2)) nb.toNat).length + l.length = nb.toNat := by
  have := rsL_cnt (n := nb.toNat) g.nb (fun x hx => by
    obtain ⟨p, hp, rfl⟩ := List.mem_map.1 hx
    have h := g.inn p hp
    have := g.b0
    exact ⟨h.2.2.1, by rw [Int.toNat_of_nonneg this]; exact h.2.2.2⟩)
  rwa [List.length_map] at this
theorem wi_cnt (l : List Int) (n : Nat) : (wiF (rsL l n) n).length + (rsL l n).length = n :=
  rsL_cnt (rsL_nodup l n) (fun _ hx => (mem_rsL.1 hx).1)
structure Counts (d : Dl) : Prop where
  gone : d.cols.length ≤ d.A.length
  fresh : d.cols.length ≤ d.B.length
  dels : (d.dels.length : Int) = d.na - d.rows.length
  inss : (d.inss.length : Int) = d.nb - d.rows.length
  lost : (d.lost.length : Int) = d.rows.length * ((d.A.length : Int) - d.cols.length)
  gain : (d.gain.length : Int) = d.rows.length * ((d.B.length : Int) - d.cols.length)
  sets : d.sets.length ≤ d.rows.length * d.cols.length
theorem OkD.counts {d : Dl} (g : OkD d) : Counts d := by
  have a1 := g.rows.restA
  have a2 := g.rows.restB
  have a3 := g.cols.restA
  have a4 := g.cols.restB
  have n0 := g.rows.a0
  have n1 := g.rows.b0
  have b1 := mtF_len g.lines.1
  have b2 := mtF_len g.lines.2
  have b3 := mtF_len g.spots.1
  have b4 := mtF_len g.spots.2
  rw [crF_len] at b3 b4
  have w1 := wi_cnt (d.rows.map (·.1)) d.na.toNat
  have w2 := wi_cnt (d.rows.map (·.2)) d.nb.toNat
  have e1 : (wiF (goneR d) d.na.toNat).length = d.rows.length := by unfold goneR; omega
  have e2 : (wiF (newR' d) d.nb.toNat).length = d.rows.length := by unfold newR'; omega
  rw [e1] at b3
  rw [e2] at b4
  unfold goneR at b1
  unfold newR' at b2
  unfold goneC at b3
  unfold newC at b4
  have t1 : (d.A.length : Int).toNat = d.A.length := by omega
  have t2 : (d.B.length : Int).toNat = d.B.length := by omega
  rw [t1] at a3
  rw [t2] at a4
  refine ⟨by omega, by omega, by omega, by omega, ?_, ?_, ?_⟩
  · have : (rsL (d.cols.map (·.1)) d.A.length).length = d.A.length - d.cols.length := by omega
    rw [this] at b3
    rw [b3, ← Int.ofNat_sub (by omega)]
    simp
  · have : (rsL (d.cols.map (·.2)) d.B.length).length = d.B.length - d.cols.length := by omega
    rw [this] at b4
    rw [b4, ← Int.ofNat_sub (by omega)]
    simp
  · have h := nodup_sub (l := d.sets.map keyS) (k := crF (d.rows.map (·.2)) (d.cols.map (·.2))) g.keys.1 (fun x hx => by
      obtain ⟨s, hs, rfl⟩ := List.mem_map.1 hx
      have h := g.sets.mem s hs
      unfold crF
      refine List.mem_flatMap.2 ⟨s.j, List.mem_map.2 ⟨_, h.1.1, rfl⟩, List.mem_map.2 ⟨s.q, List.mem_map.2 ⟨_, h.1.2, rfl⟩, rfl⟩⟩)
    rw [crF_len, List.length_map, List.length_map, List.length_map] at h
    exact h
theorem fc_Counts (d : Dl) (ht : okT d) : FC Try.prog 5 [] [.agg (eDl d)] (.ret (.bool true)) := by
  have hd1 := dDl_eDl d
  refine fc_M (fn := Try.f5) (C := (tab [(6, c_works), (7, c_fewD), (11, c_DChk)] [] [5007])) (rs := [2]) mixed (by kernel_rfl) (by kernel_rfl) rfl rfl (by kernel_rfl) (by intro ys h; cases h) ?_
  cases hf : fewF d with
  | false =>
    rw [eDl_lit] at hd1 ⊢
    simp +contextual (maxSteps := 5000000) only [go_sem, ↓reduceIte, c_works, st_works, c_fewD, st_fewD, hd1, ht, hf]
    exact wkL_self (eDl d)
  | true =>
    obtain ⟨hok, ha, hn, hna, hnb⟩ := few_ok hf
    by_cases hc : chkD d = 0
    · have g := ((chkD_zero d).1 hc).counts
      have n0 := ((chkD_zero d).1 hc).rows.a0
      have n1 := ((chkD_zero d).1 hc).rows.b0
      have hd0 := eDl_lit d
      rw [hd0] at hd1 ha ⊢
      unfold cntN at hn
      simp +contextual (maxSteps := 5000000) only [go_sem, ↓reduceIte, c_works, st_works, c_fewD, st_fewD, hd1, ht, hf, ha, hc, c_DChk, st_DChk, Int.reduceEq, Int.reduceNe, Int.reduceLT, Int.reduceLE, Int.reduceToNat, Int.cast_ofNat_Int]
      refine ⟨wkL_self (eDl d), ?_⟩
      refine M_join (fun _ : Unit => ⟨[(1, .loc 1 0), (3, .bool true), (5, .int .i64 ((d.A.length : Int) - d.cols.length)), (6, .int .i64 ((d.B.length : Int) - d.cols.length))], [(1, .blk (eDl d) false)]⟩) (fun _ => True) ?_ ?_
      · simp +contextual (maxSteps := 5000000) only [go_sem, ↓reduceIte, eDl]
        exact ⟨inR64 (by omega) (by omega), fun _ => ⟨inR64 (by omega) (by omega), fun _ => ⟨(), trivial⟩⟩⟩
      intro _ _
      obtain ⟨g1, g2, g3, g4, g5, g6, g7⟩ := g
      have g8 : (d.sets.length : Int) ≤ (d.rows.length : Int) * d.cols.length := by rw [← Int.natCast_mul]; omega
      have e3 := eq_true g3
      have e4 := eq_true g4
      have e5 := eq_true g5
      have e6 := eq_true g6
      unfold eDl
      have m1 : (d.rows.length : Int) * d.cols.length ≤ 90000 := by
        have := Nat.mul_le_mul (show d.rows.length ≤ 300 by omega) (show d.cols.length ≤ 300 by omega)
        rw [← Int.natCast_mul]; omega
      have m2 : (0 : Int) ≤ (d.rows.length : Int) * d.cols.length := by rw [← Int.natCast_mul]; omega
      simp +contextual (maxSteps := 5000000) only [go_sem, ↓reduceIte, e3, e4, e5, e6, g8]
      refine fun _ _ => ⟨inR64 (by omega) (by omega), fun _ _ => ⟨inR64 (by omega) (by omega), fun _ _ => ⟨?_, fun _ _ => ⟨?_, fun _ _ _ => inR64 (by omega) (by omega)⟩⟩⟩⟩
      · rw [← g5]; exact inR64 (by omega) (by omega)
      · rw [← g6]; exact inR64 (by omega) (by omega)
    · rw [eDl_lit] at hd1 ha ⊢
      simp +contextual (maxSteps := 5000000) only [go_sem, ↓reduceIte, c_works, st_works, c_fewD, st_fewD, hd1, ht, hf, ha, c_DChk, st_DChk, hc, Int.reduceEq, Int.reduceNe, Int.reduceLT, Int.reduceLE, Int.reduceToNat, Int.cast_ofNat_Int]
      exact wkL_self (eDl d)
end Go.Proofs.Ytdaffodmpoadgaa
