/-
  What the functions compute that the law of this claim reaches. By an AI agent.
-/
import Derived.Test.YtknkjakppikjeaaGreatG2
set_option linter.unusedSimpArgs false
set_option linter.unusedVariables false

set_option linter.unusedSimpArgs false
namespace Go.Proofs.YtknkjakppikjeaaGreat
open Go.Tn
set_option maxHeartbeats 8000000
set_option maxRecDepth 100000
def keyS (s : St6) : Int × Int := (s.j, s.q)
def keyA (s : St6) : Int × Int := (s.i, s.p)
def ltS (x y : St6) : Prop := ordF x y < 0
theorem ltS_iff (x y : St6) : ltS x y ↔ x.j < y.j ∨ (x.j = y.j ∧ x.q < y.q) := ordF_lt x y
structure OkS (d : Dl) : Prop where
  mem : ∀ x ∈ d.sets, ((x.i, x.j) ∈ d.rows ∧ (x.p, x.q) ∈ d.cols) ∧ x.o ≠ x.n
  up : d.sets.Pairwise ltS
theorem okS_iff (d : Dl) : (¬ ∃ i, i < d.sets.length ∧ okS d i = false) ↔ OkS d := by
  have ats : ∀ {i : Nat} (hi : i < d.sets.length), setAt6 d i = d.sets[i] := fun {i} hi => by
    unfold setAt6
    rw [List.getD_eq_getElem?_getD, List.getElem?_eq_getElem hi]; rfl
  constructor
  · intro h
    have all : ∀ i, i < d.sets.length → okS d i = true := fun i hi => by
      cases hb : okS d i with
      | true => rfl
      | false => exact absurd ⟨i, hi, hb⟩ h
    refine ⟨fun x hx => ?_, ?_⟩
    · obtain ⟨i, hi, rfl⟩ := List.getElem_of_mem hx
      have := all i hi
      simp only [okS, ats hi, Bool.and_eq_true, decide_eq_true_eq] at this
      exact ⟨⟨this.1.1.1, this.1.1.2⟩, this.1.2⟩
    · have adj : ∀ i (hi : i + 1 < d.sets.length), ltS d.sets[i] d.sets[i + 1] := fun i hi => by
        have := all (i + 1) hi
        simp only [okS, ats hi, Bool.and_eq_true, Bool.or_eq_true, decide_eq_true_eq, Nat.add_sub_cancel, ats (show i < d.sets.length by omega)] at this
        exact this.2.resolve_left (by omega)
      rw [List.pairwise_iff_getElem]
      intro i j hi hj hij
      obtain ⟨k, rfl⟩ : ∃ k, j = i + 1 + k := ⟨j - (i + 1), by omega⟩
      induction k with
      | zero => exact adj i hj
      | succ k ih =>
        have h1 := ih (by omega) (by omega)
        have h2 := adj (i + 1 + k) (by omega)
        rw [ltS_iff] at *
        have e : d.sets[i + 1 + (k + 1)] = d.sets[i + 1 + k + 1] := rfl
        rw [e]
        omega
  · rintro g ⟨i, hi, hb⟩
    have h1 := g.mem _ (List.getElem_mem hi)
    have : okS d i = true := by
      simp only [okS, ats hi, Bool.and_eq_true, Bool.or_eq_true, decide_eq_true_eq]
      refine ⟨⟨⟨h1.1.1, h1.1.2⟩, h1.2⟩, ?_⟩
      by_cases h0 : i = 0
      · exact .inl h0
      · rw [ats (show i - 1 < d.sets.length by omega)]
        exact .inr (List.pairwise_iff_getElem.1 g.up (i - 1) i (by omega) hi (by omega))
    rw [this] at hb; cases hb
structure OkD (d : Dl) : Prop where
  ne : 0 < d.A.length ∧ 0 < d.B.length
  once : onceF d.A = true ∧ onceF d.B = true
  big : (d.A.length ≤ 40 ∧ d.B.length ≤ 40) ∧ d.na ≤ 400 ∧ d.nb ≤ 400
  cols : Good d.cols d.A.length d.B.length
  rows : Good d.rows d.na d.nb
  lines : mtF (isL d.A.length) d.dels (goneR d) = true ∧ mtF (isL d.B.length) d.inss (newR' d) = true
  spots : mtF isS d.lost (crF (wiF (goneR d) d.na.toNat) (goneC d)) = true ∧ mtF isS d.gain (crF (wiF (newR' d) d.nb.toNat) (newC d)) = true
  sets : OkS d
  short : ¬ ∃ s ∈ txF d, 1000 < s.length
theorem chkD_zero (d : Dl) : chkD d = 0 ↔ OkD d := by
  unfold chkD
  constructor
  · intro h
    by_cases p1 : 0 < d.A.length ∧ 0 < d.B.length
    · rw [if_neg (fun h => h p1)] at h
      by_cases p2 : onceF d.A = true ∧ onceF d.B = true
      · rw [if_neg (fun h => h p2)] at h
        by_cases p3 : (d.A.length ≤ 40 ∧ d.B.length ≤ 40) ∧ d.na ≤ 400 ∧ d.nb ≤ 400
        · rw [if_neg (fun h => h p3)] at h
          by_cases p4 : chk d.cols d.A.length d.B.length = 0
          · rw [if_neg (fun h => h p4)] at h
            by_cases p5 : chk d.rows d.na d.nb = 0
            · rw [if_neg (fun h => h p5)] at h
              by_cases p6 : mtF (isL d.A.length) d.dels (goneR d) = true ∧ mtF (isL d.B.length) d.inss (newR' d) = true
              · rw [if_neg (fun h => h p6)] at h
                by_cases p7 : mtF isS d.lost (crF (wiF (goneR d) d.na.toNat) (goneC d)) = true ∧ mtF isS d.gain (crF (wiF (newR' d) d.nb.toNat) (newC d)) = true
                · rw [if_neg (fun h => h p7)] at h
                  by_cases p8 : ∃ i, i < d.sets.length ∧ okS d i = false
                  · rw [if_pos p8] at h; omega
                  · rw [if_neg p8] at h
                    by_cases p9 : ∃ s ∈ txF d, 1000 < s.length
                    · rw [if_pos p9] at h; omega
                    · exact ⟨p1, p2, p3, (chk_zero _ _ _).1 p4, (chk_zero _ _ _).1 p5, p6, p7, (okS_iff d).1 p8, p9⟩
                · rw [if_pos p7] at h; omega
              · rw [if_pos p6] at h; omega
            · rw [if_pos p5] at h; exact absurd h p5
          · rw [if_pos p4] at h; exact absurd h p4
        · rw [if_pos p3] at h; omega
      · rw [if_pos p2] at h; omega
    · rw [if_pos p1] at h; omega
  · rintro ⟨p1, p2, p3, p4, p5, p6, p7, p8, p9⟩
    rw [if_neg (fun h => h p1), if_neg (fun h => h p2), if_neg (fun h => h p3), if_neg (fun h => h ((chk_zero _ _ _).2 p4)), if_neg (fun h => h ((chk_zero _ _ _).2 p5)), if_neg (fun h => h p6), if_neg (fun h => h p7), if_neg ((okS_iff d).2 p8), if_neg p9]
theorem perm_turnSs (l : List St6) : (turnSs l).Perm (l.map turnS) := List.mergeSort_perm _ _
theorem mem_turnSs {l : List St6} {x : St6} : x ∈ turnSs l ↔ turnS x ∈ l := by
  rw [(perm_turnSs l).mem_iff, List.mem_map]
  constructor
  · rintro ⟨q, hq, rfl⟩; exact hq
  · intro h; exact ⟨_, h, rfl⟩
theorem OkD.keys {d : Dl} (g : OkD d) : (d.sets.map keyS).Nodup ∧ (d.sets.map keyA).Nodup := by
  constructor
  · rw [List.nodup_iff_pairwise_ne, List.pairwise_map]
    refine g.sets.up.imp fun h e => ?_
    rw [ltS_iff] at h
    simp only [keyS, Prod.mk.injEq] at e
    omega
  · rw [List.nodup_iff_pairwise_ne, List.pairwise_map]
    refine List.Pairwise.imp_of_mem (R := ltS) (fun {x y} hx hy h e => ?_) g.sets.up
    rw [ltS_iff] at h
    simp only [keyA, Prod.mk.injEq] at e
    have h1 := g.sets.mem x hx
    have h2 := g.sets.mem y hy
    have e1 := congrArg Prod.snd (inj_at g.rows.na h1.1.1 h2.1.1 e.1)
    have e2 := congrArg Prod.snd (inj_at g.cols.na h1.1.2 h2.1.2 e.2)
    simp only at e1 e2
    omega
theorem OkD.tsets {d : Dl} (g : OkD d) : OkS (turnD d) := by
  refine ⟨fun x hx => ?_, ?_⟩
  · have h := g.sets.mem _ (mem_turnSs.1 hx)
    exact ⟨⟨mem_turnP.2 h.1.1, mem_turnP.2 h.1.2⟩, fun e => h.2 e.symm⟩
  · have h1 := Ps.srt_sorted pre_leJ (d.sets.map turnS)
    have h2 : ((turnSs d.sets).map keyS).Nodup := by
      have := (perm_turnSs d.sets).map keyS
      rw [List.map_map] at this
      exact this.nodup_iff.2 g.keys.2
    rw [List.nodup_iff_pairwise_ne, List.pairwise_map] at h2
    refine (List.Pairwise.and h1 h2).imp fun h => ?_
    obtain ⟨h3, h4⟩ := h
    rw [leJ_iff] at h3
    rw [ltS_iff]
    simp only [keyS, ne_eq, Prod.mk.injEq] at h4
    omega
theorem OkD.bsets {d : Dl} (g : OkD d) : turnSs (turnSs d.sets) = d.sets := by
  have p : (turnSs (turnSs d.sets)).Perm d.sets := by
    refine (perm_turnSs _).trans ?_
    have := (perm_turnSs d.sets).map turnS
    rw [List.map_map] at this
    refine this.trans ?_
    have e : d.sets.map (turnS ∘ turnS) = d.sets := by
      rw [show (turnS ∘ turnS) = id from rfl]; exact List.map_id _
    rw [e]
  refine List.Perm.eq_of_pairwise (le := fun x y => leJ x y = true) (fun a b ha hb h1 h2 => ?_) (Ps.srt_sorted pre_leJ _) (g.sets.up.imp fun h => ?_) p
  · rw [leJ_iff] at h1 h2
    refine inj_at g.keys.1 (p.mem_iff.1 ha) hb ?_
    simp only [keyS, Prod.mk.injEq]
    omega
  · rw [ltS_iff] at h; rw [leJ_iff]; omega
theorem OkD.back {d : Dl} (g : OkD d) : turnD (turnD d) = d := by
  have e1 := g.cols.back
  have e2 := g.rows.back
  have e3 := g.bsets
  cases d
  simp only [turnD] at *
  rw [e1, e2, e3]
theorem goneR_t (d : Dl) : goneR (turnD d) = newR' d := rsL_congr (fun x => (turnP_fst d.rows).mem_iff) _
theorem newR_t (d : Dl) : newR' (turnD d) = goneR d := rsL_congr (fun x => (turnP_snd d.rows).mem_iff) _
theorem goneC_t (d : Dl) : goneC (turnD d) = newC d := rsL_congr (fun x => (turnP_fst d.cols).mem_iff) _
theorem newC_t (d : Dl) : newC (turnD d) = goneC d := rsL_congr (fun x => (turnP_snd d.cols).mem_iff) _
theorem tx_turn {d : Dl} {s : Str} (h : s ∈ txF (turnD d)) : s ∈ txF d := by
  have e1 : ∀ a b : List Ln, txL (a ++ b) = txL a ++ txL b := fun a b => by unfold txL; simp
  have e2 : ∀ a b : List Sp, txP (a ++ b) = txP a ++ txP b := fun a b => by unfold txP; simp
  have e3 : s ∈ txS (turnSs d.sets) → s ∈ txS d.sets := fun h => by
    obtain ⟨x, hx, hs⟩ := List.mem_flatMap.1 h
    refine List.mem_flatMap.2 ⟨_, mem_turnSs.1 hx, ?_⟩
    simp only [turnS, List.mem_cons, List.not_mem_nil, or_false] at hs ⊢
    exact hs.symm
  unfold txF at h ⊢
  simp only [turnD] at h
  rw [e1, e2] at h ⊢
  simp only [List.mem_append] at h ⊢
  rcases h with (((h | h) | h | h) | h) | h | h
  · exact .inl (.inl (.inl (.inr h)))
  · exact .inl (.inl (.inl (.inl h)))
  · exact .inl (.inl (.inr (.inr h)))
  · exact .inl (.inl (.inr (.inl h)))
  · exact .inl (.inr (e3 h))
  · exact .inr (.inr h)
  · exact .inr (.inl h)
theorem OkD.turn {d : Dl} (g : OkD d) : OkD (turnD d) := by
  refine ⟨⟨g.ne.2, g.ne.1⟩, ⟨g.once.2, g.once.1⟩, ⟨⟨g.big.1.2, g.big.1.1⟩, g.big.2.2, g.big.2.1⟩, g.cols.turn, g.rows.turn, ?_, ?_, g.tsets, fun ⟨s, hs, h⟩ => g.short ⟨s, tx_turn hs, h⟩⟩
  · rw [goneR_t, newR_t]; exact ⟨g.lines.2, g.lines.1⟩
  · rw [goneR_t, newR_t, goneC_t, newC_t]; exact ⟨g.spots.2, g.spots.1⟩
theorem own_iff (l : List (Int × Int)) (n : Int) : ownF l n = true ↔ (l.length : Int) = n ∧ l = (List.range l.length).map fun i : Nat => ((i : Int), (i : Int)) := by
  unfold ownF
  rw [Bool.and_eq_true, decide_eq_true_eq, List.all_eq_true]
  constructor
  · rintro ⟨h1, h2⟩
    refine ⟨h2, List.ext_getElem (by simp) fun i hi _ => ?_⟩
    have := h1 i (List.mem_range.2 hi)
    rw [decide_eq_true_eq, List.getD_eq_getElem?_getD, List.getElem?_eq_getElem hi] at this
    simpa using this
  · rintro ⟨h1, h2⟩
    refine ⟨fun j hj => ?_, h1⟩
    have hj := List.mem_range.1 hj
    rw [decide_eq_true_eq, List.getD_eq_getElem?_getD, List.getElem?_eq_getElem hj, Option.getD_some]
    have := List.getElem_of_eq h2 hj
    rw [this]; simp
theorem own_turn {l : List (Int × Int)} {n : Int} (h : ownF l n = true) : turnP l = l := by
  obtain ⟨_, h⟩ := (own_iff l n).1 h
  have e : l.map sw = l := by rw [h, List.map_map]; rfl
  unfold turnP
  rw [e]
  refine Ps.srt_id ?_
  rw [h, List.pairwise_map]
  refine (List.pairwise_lt_range).imp fun h => ?_
  simp only [leB, decide_eq_true_eq]; omega
theorem own_same {l : List (Int × Int)} {na nb n : Int} (g : Good l na nb) : ownF (turnP l) n = ownF l n := by
  cases h : ownF l n with
  | true => rw [own_turn h]; exact h
  | false =>
    cases h2 : ownF (turnP l) n with
    | false => rfl
    | true =>
      have := own_turn h2
      rw [g.back] at this
      rw [← this] at h2
      rw [h2] at h; cases h
end Go.Proofs.YtknkjakppikjeaaGreat

set_option linter.unusedSimpArgs false
namespace Go.Proofs.YtknkjakppikjeaaGreat
open Go.Tn
set_option maxHeartbeats 8000000
set_option maxRecDepth 100000
def c_ins (caps args : List D) : Prop × Out := match caps, args with | [], [.sl 2 rows, .int .i64 a, .int .i64 b] => (rows = (rows.map dP).map eP, .ret (.bool (decide ((a, b) ∈ rows.map dP)))) | _, _ => (False, .ret .any)
theorem st_ins : StC Tryz.prog 110 c_ins := by
  intro caps args; unfold c_ins; split
  · rename_i rows a b
    intro h
    have := fc_inside (rows.map dP) a b
    rwa [← h] at this
  · exact fun h => h.elim
theorem bef_ord (x y : St6) : befF x y = decide (ordF x y < 0) := by
  have := ordF_lt x y
  unfold befF
  rw [Bool.eq_iff_iff]
  simp only [decide_eq_true_eq, Bool.or_eq_true, Bool.and_eq_true]
  omega
def rightF (d : Dl) : Bool := decide (∀ i, i < d.sets.length → okS d i = true)
theorem fc_right (d : Dl) : FC Tryz.prog 74 [] [.agg (eDl d)] (.ret (.bool (rightF d))) := by
  unfold eDl
  refine fc_M (fn := Tryz.f74) (C := (tab [(110, c_ins), (81, c_bef)] [] [5004, 5005])) (rs := [2]) mixed (by kernel_rfl) (by kernel_rfl) rfl rfl (by kernel_rfl) (by intro ys h; cases h) ?_
  simp +contextual (maxSteps := 5000000) only [go_sem, ↓reduceIte]
  refine M_loopI (fun i : Nat => ⟨[(1, .loc 1 0), (3, .int .i64 i)], [(1, .blk (eDl d) false)]⟩) (fun i => d.sets.length - i) (fun i => i ≤ d.sets.length ∧ ∀ j, j < i → okS d j = true) 0 ?_ ?_
  · simp +contextual (maxSteps := 5000000) only [go_sem, ↓reduceIte, eDl]
    rfl
  rintro i ⟨hi, hf⟩
  by_cases hlt : i < d.sets.length
  · have hat := eD6_at d.sets i hlt
    have hx : setAt6 d i = d.sets.getD i default := rfl
    generalize hxx : d.sets.getD i default = x at hat hx
    have hno : okS d i = false → rightF d = false := fun h => decide_eq_false (fun g => by have := g i hlt; rw [h] at this; cases this)
    have hin2 := hno
    simp +contextual (maxSteps := 5000000) only [go_sem, ↓reduceIte, hlt, eDl]
    intro _
    refine M_join (fun _ : Unit => ⟨[(1, .loc 1 0), (3, .int .i64 i), (4, .loc 4 0)], [(1, .blk (eDl d) false), (4, .blk [.int .i64 x.i, .int .i64 x.j, .int .i64 x.p, .int .i64 x.q, .str x.o, .str x.n] false)]⟩) (fun _ => True) ?_ ?_
    · unfold eDl
      simp +contextual (maxSteps := 5000000) only [go_sem, ↓reduceIte, hlt, hat]
      exact ⟨(), trivial⟩
    intro _ _
    unfold eDl
    simp +contextual (maxSteps := 5000000) only [go_sem, ↓reduceIte]
    refine M_join (fun _ : Unit => ⟨[(1, .loc 1 0), (3, .int .i64 i), (4, .loc 4 0), (5, .bool (decide ((x.i, x.j) ∈ d.rows))), (6, .bool (decide ((x.p, x.q) ∈ d.cols)))], [(1, .blk (eDl d) false), (4, .blk [.int .i64 x.i, .int .i64 x.j, .int .i64 x.p, .int .i64 x.q, .str x.o, .str x.n] false)]⟩) (fun _ => True) ?_ ?_
    · simp +contextual (maxSteps := 5000000) only [go_sem, ↓reduceIte, eDl, c_ins, st_ins, dP_eP]
      exact ⟨(), trivial⟩
    intro _ _
    have hok : okS d i = (decide ((x.i, x.j) ∈ d.rows) && decide ((x.p, x.q) ∈ d.cols) && decide (x.o ≠ x.n) && (decide (i = 0) || decide (ordF (setAt6 d (i - 1)) x < 0))) := by rw [← hx]; rfl
    have hyes : okS d i = true → ∀ j, j < i + 1 → okS d j = true := fun h j hj => by
      rcases lt_cases hj with h' | rfl
      · exact hf j h'
      · exact h
    by_cases a1 : (x.i, x.j) ∈ d.rows
    · have a1' := decide_eq_true a1
      by_cases a2 : (x.p, x.q) ∈ d.cols
      · have a2' := decide_eq_true a2
        by_cases a3 : x.o = x.n
        · rw [hno (by rw [hok]; simp [a3])]
          unfold eDl
          simp +contextual (maxSteps := 5000000) only [go_sem, ↓reduceIte, a1', a2', a3]
        · have a3' : decide (x.o ≠ x.n) = true := decide_eq_true a3
          rcases Nat.eq_zero_or_pos i with rfl | hp
          · have h := hyes (by rw [hok, a1', a2', a3']; rfl)
            unfold eDl
            simp +contextual (maxSteps := 5000000) only [go_sem, ↓reduceIte, a1', a2', a3, Int.reduceEq, Int.reduceNe, Int.reduceLT, Int.reduceLE, Int.reduceToNat, Int.cast_ofNat_Int]
            exact ⟨inR64 (by omega) (by omega), fun _ => ⟨1, by simp, by omega, by omega, h⟩⟩
          · obtain ⟨m, rfl⟩ : ∃ m, i = m + 1 := ⟨i - 1, by omega⟩
            have hml : m < d.sets.length := by omega
            have hat2 := eD6_at d.sets m hml
            have he : ((m + 1 : Nat) : Int) - 1 = (m : Nat) := by omega
            have hp' : (0 : Int) < ((m + 1 : Nat) : Int) := by omega
            have hb : befF ⟨(d.sets.getD m default).i, (d.sets.getD m default).j, (d.sets.getD m default).p, (d.sets.getD m default).q, (d.sets.getD m default).o, (d.sets.getD m default).n⟩ ⟨x.i, x.j, x.p, x.q, x.o, x.n⟩ = decide (ordF (d.sets.getD m default) x < 0) := bef_ord _ _
            have hok2 : okS d (m + 1) = decide (ordF (d.sets.getD m default) x < 0) := by rw [hok, a1', a2', a3']; rfl
            by_cases a4 : ordF (d.sets.getD m default) x < 0
            · rw [decide_eq_true a4] at hb hok2
              have h := hyes hok2
              unfold eDl
              simp +contextual (maxSteps := 5000000) only [go_sem, ↓reduceIte, a1', a2', a3, hlt, hml, hat2, he, hp', c_bef, st_bef, hb, Int.reduceEq, Int.reduceNe, Int.reduceLT, Int.reduceLE, Int.reduceToNat, Int.cast_ofNat_Int]
              exact ⟨inR64 (by omega) (by omega), fun _ => ⟨inR64 (by omega) (by omega), fun _ => ⟨m + 2, by simp; omega, by omega, by omega, h⟩⟩⟩
            · rw [decide_eq_false a4] at hb hok2
              rw [hno hok2]
              unfold eDl
              simp +contextual (maxSteps := 5000000) only [go_sem, ↓reduceIte, a1', a2', a3, hlt, hml, hat2, he, hp', c_bef, st_bef, hb, Int.reduceEq, Int.reduceNe, Int.reduceLT, Int.reduceLE, Int.reduceToNat, Int.cast_ofNat_Int]
              exact inR64 (by omega) (by omega)
      · have a2' := decide_eq_false a2
        rw [hno (by rw [hok, a2']; simp)]
        unfold eDl
        simp +contextual (maxSteps := 5000000) only [go_sem, ↓reduceIte, a1', a2']
    · have a1' := decide_eq_false a1
      rw [hno (by rw [hok, a1']; simp)]
      unfold eDl
      simp +contextual (maxSteps := 5000000) only [go_sem, ↓reduceIte, a1']
  · have h : rightF d = true := decide_eq_true (fun j hj => hf j (by omega))
    rw [h]
    unfold eDl
    simp +contextual (maxSteps := 5000000) only [go_sem, ↓reduceIte, hlt]
def c_nms (caps args : List D) : Prop × Out := match caps, args with | [], [.sl 1 rows] => (rows = (rows.map dS).map eS, .ret (.bool (onceF (rows.map dS)))) | _, _ => (False, .ret .any)
theorem st_nms : StC Tryz.prog 67 c_nms := by
  intro caps args; unfold c_nms; split
  · rename_i rows
    intro h
    have := fc_names (rows.map dS)
    rwa [← h] at this
  · exact fun h => h.elim
def c_rCk (caps args : List D) : Prop × Out := match caps, args with | [], [.sl 2 rows, .int .i64 a, .int .i64 b] => (rows = (rows.map dP).map eP ∧ rows.length < 1000000000, .ret (.int .i64 (chk (rows.map dP) a b))) | _, _ => (False, .ret .any)
theorem st_rCk : StC Tryz.prog 68 c_rCk := by
  intro caps args; unfold c_rCk; split
  · rename_i rows a b
    rintro ⟨h, hl⟩
    have := fc_rCheck (rows.map dP) a b (by simpa using hl)
    rwa [← h] at this
  · exact fun h => h.elim
def c_rRA (caps args : List D) : Prop × Out := match caps, args with | [], [.sl 2 rows, .int .i64 n] => (rows = (rows.map dP).map eP ∧ rows.length < 1000000000 ∧ n ≤ 1000000000, .ret (.sl 1 ((rsL ((rows.map dP).map (·.1)) n.toNat).map eI))) | _, _ => (False, .ret .any)
theorem st_rRA : StC Tryz.prog 69 c_rRA := by
  intro caps args; unfold c_rRA; split
  · rename_i rows n
    rintro ⟨h, hl, hn⟩
    have := fc_rRestA (rows.map dP) n hn (by simpa using hl)
    rwa [← h] at this
  · exact fun h => h.elim
def c_rRB (caps args : List D) : Prop × Out := match caps, args with | [], [.sl 2 rows, .int .i64 n] => (rows = (rows.map dP).map eP ∧ rows.length < 1000000000 ∧ n ≤ 1000000000, .ret (.sl 1 ((rsL ((rows.map dP).map (·.2)) n.toNat).map eI))) | _, _ => (False, .ret .any)
theorem st_rRB : StC Tryz.prog 70 c_rRB := by
  intro caps args; unfold c_rRB; split
  · rename_i rows n
    rintro ⟨h, hl, hn⟩
    have := fc_rRestB (rows.map dP) n hn (by simpa using hl)
    rwa [← h] at this
  · exact fun h => h.elim
def c_not (caps args : List D) : Prop × Out := match caps, args with | [], [.sl 1 rows, .int .i64 n] => (rows = (rows.map dI).map eI ∧ n ≤ 1000000000, .ret (.sl 1 ((wiF (rows.map dI) n.toNat).map eI))) | _, _ => (False, .ret .any)
theorem st_not : StC Tryz.prog 73 c_not := by
  intro caps args; unfold c_not; split
  · rename_i rows n
    rintro ⟨h, hn⟩
    have := fc_not (rows.map dI) n hn
    rwa [← h] at this
  · exact fun h => h.elim
def c_whl (caps args : List D) : Prop × Out := match caps, args with | [], [.sl 2 rows, .sl 1 pl, .int .i64 w] => (rows = (rows.map dL).map eL ∧ pl = (pl.map dI).map eI ∧ rows.length < 1000000000, .ret (.bool (mtF (isL w) (rows.map dL) (pl.map dI)))) | _, _ => (False, .ret .any)
theorem st_whl : StC Tryz.prog 71 c_whl := by
  intro caps args; unfold c_whl; split
  · rename_i rows pl w
    rintro ⟨h, h2, hl⟩
    have := fc_whole (rows.map dL) (pl.map dI) w (by simpa using hl)
    rwa [← h, ← h2] at this
  · exact fun h => h.elim
def c_each (caps args : List D) : Prop × Out := match caps, args with | [], [.sl 3 rows, .sl 1 a, .sl 1 b] => (rows = (rows.map dSp).map eSp ∧ a = (a.map dI).map eI ∧ b = (b.map dI).map eI ∧ rows.length < 1000000000 ∧ a.length < 1000000000 ∧ b.length < 1000000000, .ret (.bool (mtF isS (rows.map dSp) (crF (a.map dI) (b.map dI))))) | _, _ => (False, .ret .any)
theorem st_each : StC Tryz.prog 72 c_each := by
  intro caps args; unfold c_each; split
  · rename_i rows a b
    rintro ⟨h, h2, h3, hl, ha, hb⟩
    have := fc_each (rows.map dSp) (a.map dI) (b.map dI) (by simpa using hl) (by simpa using ha) (by simpa using hb)
    rwa [← h, ← h2, ← h3] at this
  · exact fun h => h.elim
def c_rgt (d : Dl) (caps args : List D) : Prop × Out := match caps, args with | [], [x] => (x = .agg (eDl d), .ret (.bool (rightF d))) | _, _ => (False, .ret .any)
theorem st_rgt (d : Dl) : StC Tryz.prog 74 (c_rgt d) := by
  intro caps args; unfold c_rgt; split
  · rintro rfl; exact fc_right d
  · exact fun h => h.elim
end Go.Proofs.YtknkjakppikjeaaGreat

set_option linter.unusedSimpArgs false
namespace Go.Proofs.YtknkjakppikjeaaGreat
open Go.Tn
set_option maxHeartbeats 8000000
set_option maxRecDepth 100000
theorem mxL_at (l : List Str) : 1000 < mxL l ↔ ∃ s ∈ l, 1000 < s.length := by
  have g : ∀ (l : List Str) (n : Nat), 1000 < l.foldl (fun n s => max n s.length) n ↔ 1000 < n ∨ ∃ s ∈ l, 1000 < s.length := by
    intro l
    induction l with
    | nil => intro n; simp
    | cons x l ih =>
      intro n
      rw [List.foldl_cons, ih]
      simp only [List.mem_cons, exists_eq_or_imp]
      constructor
      · rintro (h | h)
        · by_cases e : 1000 < n
          · exact .inl e
          · exact .inr (.inl (by omega))
        · exact .inr (.inr h)
      · rintro (h | h | h)
        · exact .inl (by omega)
        · exact .inl (by omega)
        · exact .inr h
  have := g l 0
  unfold mxL
  rw [this]
  exact ⟨fun h => h.elim (fun h => absurd h (by omega)) id, .inr⟩
theorem rightF_no {d : Dl} : rightF d = false ↔ ∃ i, i < d.sets.length ∧ okS d i = false := by
  unfold rightF
  rw [decide_eq_false_iff_not]
  constructor
  · intro h
    refine Classical.byContradiction fun g => h fun i hi => ?_
    cases e : okS d i with
    | true => rfl
    | false => exact absurd ⟨i, hi, e⟩ g
  · rintro ⟨i, hi, e⟩ h
    rw [h i hi] at e; cases e
def c_lgs (d : Dl) (caps args : List D) : Prop × Out := match caps, args with | [], [x] => (x = .agg (eDl d) ∧ okT d, .ret (.int .i64 (mxL (txF d)))) | _, _ => (False, .ret .any)
theorem st_lgs (d : Dl) : StC Tryz.prog 20 (c_lgs d) := by
  intro caps args; unfold c_lgs; split
  · rintro ⟨rfl, h⟩; exact fc_longest d h
  · exact fun h => h.elim
theorem chkD_base {d : Dl} (p1 : 0 < d.A.length ∧ 0 < d.B.length) (p2 : onceF d.A = true ∧ onceF d.B = true) (p3 : (d.A.length ≤ 40 ∧ d.B.length ≤ 40) ∧ d.na ≤ 400 ∧ d.nb ≤ 400) (z0 : chk d.cols d.A.length d.B.length = 0) (z1 : chk d.rows d.na d.nb = 0) : chkD d = if ¬ (mtF (isL d.A.length) d.dels (goneR d) = true ∧ mtF (isL d.B.length) d.inss (newR' d) = true) then 13
      else if ¬ (mtF isS d.lost (crF (wiF (goneR d) d.na.toNat) (goneC d)) = true ∧ mtF isS d.gain (crF (wiF (newR' d) d.nb.toNat) (newC d)) = true) then 13
      else if ∃ i, i < d.sets.length ∧ okS d i = false then 13
      else if ∃ s ∈ txF d, 1000 < s.length then 7 else 0 := by
  unfold chkD
  rw [if_neg (fun h => h p1), if_neg (fun h => h p2), if_neg (fun h => h p3), if_neg (fun h => h z0), if_neg (fun h => h z1)]
theorem fc_rDCheck (d : Dl) (h : okT d) : FC Tryz.prog 27 [] [.agg (eDl d)] (.ret (.int .i64 (chkD d))) := by
  have hh := h
  obtain ⟨hA, hB, hco, hro, hde, hin, hse, hlo, hga, hce, _⟩ := h
  have hs1 := st_rgt d
  have hs2 := st_lgs d
  have g1 : chkD d = 8 ∨ (0 < d.A.length ∧ 0 < d.B.length) := by
    by_cases p1 : 0 < d.A.length ∧ 0 < d.B.length
    · exact .inr p1
    · left; unfold chkD; rw [if_pos p1]
  have g2 : (0 < d.A.length ∧ 0 < d.B.length) → ¬ (onceF d.A = true ∧ onceF d.B = true) → chkD d = 10 := fun p1 p2 => by
    unfold chkD; rw [if_neg (fun h => h p1), if_pos p2]
  have g3 : (0 < d.A.length ∧ 0 < d.B.length) → (onceF d.A = true ∧ onceF d.B = true) → ¬ ((d.A.length ≤ 40 ∧ d.B.length ≤ 40) ∧ d.na ≤ 400 ∧ d.nb ≤ 400) → chkD d = 7 := fun p1 p2 p3 => by
    unfold chkD; rw [if_neg (fun h => h p1), if_neg (fun h => h p2), if_pos p3]
  have g4 : (0 < d.A.length ∧ 0 < d.B.length) → (onceF d.A = true ∧ onceF d.B = true) → ((d.A.length ≤ 40 ∧ d.B.length ≤ 40) ∧ d.na ≤ 400 ∧ d.nb ≤ 400) → chk d.cols d.A.length d.B.length ≠ 0 → chkD d = chk d.cols d.A.length d.B.length := fun p1 p2 p3 z => by
    unfold chkD; rw [if_neg (fun h => h p1), if_neg (fun h => h p2), if_neg (fun h => h p3), if_pos z]
  have g5 : (0 < d.A.length ∧ 0 < d.B.length) → (onceF d.A = true ∧ onceF d.B = true) → ((d.A.length ≤ 40 ∧ d.B.length ≤ 40) ∧ d.na ≤ 400 ∧ d.nb ≤ 400) → chk d.cols d.A.length d.B.length = 0 → chk d.rows d.na d.nb ≠ 0 → chkD d = chk d.rows d.na d.nb := fun p1 p2 p3 z0 z => by
    unfold chkD; rw [if_neg (fun h => h p1), if_neg (fun h => h p2), if_neg (fun h => h p3), if_neg (fun h => h z0), if_pos z]
  have g6 := @chkD_base d
  obtain ⟨E, hE⟩ : ∃ E, chkD d = E := ⟨_, rfl⟩
  rw [hE] at g1 g2 g3 g4 g5 g6 ⊢
  obtain ⟨cC, hcC⟩ : ∃ x, chk d.cols d.A.length d.B.length = x := ⟨_, rfl⟩
  obtain ⟨cR, hcR⟩ : ∃ x, chk d.rows d.na d.nb = x := ⟨_, rfl⟩
  rw [hcC] at g4 g5 g6
  rw [hcR] at g5 g6
  unfold eDl
  refine fc_M (fn := Tryz.f27) (C := (tab [(67, c_nms), (68, c_rCk), (69, c_rRA), (70, c_rRB), (71, c_whl), (73, c_not), (72, c_each), (74, c_rgt d), (20, c_lgs d)] [] [5014, 5015, 5016, 5017, 5018])) (rs := [2]) mixed (by kernel_rfl) (by kernel_rfl) rfl rfl (by kernel_rfl) (by intro ys h; cases h) ?_
  by_cases a1 : 0 < d.A.length
  rotate_left
  · have a1' : (d.A.length : Int) = 0 := by omega
    obtain rfl : E = 8 := g1.resolve_right (by omega)
    simp +contextual (maxSteps := 5000000) only [go_sem, ↓reduceIte, a1']
  by_cases a2 : 0 < d.B.length
  rotate_left
  · have a2' : (d.B.length : Int) = 0 := by omega
    have a1' : ¬ (d.A.length : Int) = 0 := by omega
    obtain rfl : E = 8 := g1.resolve_right (by omega)
    simp +contextual (maxSteps := 5000000) only [go_sem, ↓reduceIte, a1', a2']
  have p1 := And.intro a1 a2
  have a1' : ¬ (d.A.length : Int) = 0 := by omega
  have a2' : ¬ (d.B.length : Int) = 0 := by omega
  clear g1
  by_cases b1 : onceF d.A = true
  rotate_left
  · obtain rfl := g2 p1 (fun h => b1 h.1)
    simp +contextual (maxSteps := 5000000) only [go_sem, ↓reduceIte, a1', a2', b1, c_nms, st_nms, dS_eS]
  by_cases b2 : onceF d.B = true
  rotate_left
  · obtain rfl := g2 p1 (fun h => b2 h.2)
    simp +contextual (maxSteps := 5000000) only [go_sem, ↓reduceIte, a1', a2', b1, b2, c_nms, st_nms, dS_eS]
  have p2 := And.intro b1 b2
  by_cases p3 : (d.A.length ≤ 40 ∧ d.B.length ≤ 40) ∧ d.na ≤ 400 ∧ d.nb ≤ 400
  rotate_left
  · obtain rfl := g3 p1 p2 p3
    by_cases c1 : (40 : Int) < d.A.length
    · simp +contextual (maxSteps := 5000000) only [go_sem, ↓reduceIte, a1', a2', b1, b2, c1, c_nms, st_nms, dS_eS]
    by_cases c2 : (40 : Int) < d.B.length
    · simp +contextual (maxSteps := 5000000) only [go_sem, ↓reduceIte, a1', a2', b1, b2, c1, c2, c_nms, st_nms, dS_eS]
    by_cases c3 : (400 : Int) < d.na
    · simp +contextual (maxSteps := 5000000) only [go_sem, ↓reduceIte, a1', a2', b1, b2, c1, c2, c3, c_nms, st_nms, dS_eS]
    have c4 : (400 : Int) < d.nb := by clear g2 g3 g4 g5 g6; omega
    simp +contextual (maxSteps := 5000000) only [go_sem, ↓reduceIte, a1', a2', b1, b2, c1, c2, c3, c4, c_nms, st_nms, dS_eS]
  have c1 : ¬ (40 : Int) < d.A.length := by omega
  have c2 : ¬ (40 : Int) < d.B.length := by omega
  have c3 : ¬ (400 : Int) < d.na := by omega
  have c4 : ¬ (400 : Int) < d.nb := by omega
  by_cases z0 : cC = 0
  rotate_left
  · obtain rfl := g4 p1 p2 p3 z0
    simp +contextual (maxSteps := 5000000) only [go_sem, ↓reduceIte, a1', a2', b1, b2, c1, c2, c3, c4, c_nms, st_nms, dS_eS, c_rCk, st_rCk, dP_eP, hcC, z0]
    exact fun _ _ => by omega
  subst z0
  by_cases z1 : cR = 0
  rotate_left
  · obtain rfl := g5 p1 p2 p3 rfl z1
    simp +contextual (maxSteps := 5000000) only [go_sem, ↓reduceIte, a1', a2', b1, b2, c1, c2, c3, c4, c_nms, st_nms, dS_eS, c_rCk, st_rCk, dP_eP, hcC, hcR, z1]
    exact fun _ _ => ⟨by omega, by omega⟩
  subst z1
  have g7 := g6 p1 p2 p3 rfl rfl
  clear g2 g3 g4 g5 g6
  have l1 : (goneR d).length ≤ 400 := Nat.le_trans (rsL_len _ _) (by omega)
  have l2 : (newR' d).length ≤ 400 := Nat.le_trans (rsL_len _ _) (by omega)
  have l3 : (goneC d).length ≤ 400 := Nat.le_trans (rsL_len _ _) (by omega)
  have l4 : (newC d).length ≤ 400 := Nat.le_trans (rsL_len _ _) (by omega)
  have l5 : (wiF (goneR d) d.na.toNat).length ≤ 400 := Nat.le_trans (rsL_len _ _) (by omega)
  have l6 : (wiF (newR' d) d.nb.toNat).length ≤ 400 := Nat.le_trans (rsL_len _ _) (by omega)
  have w5 : (wiF (goneR d) d.na.toNat) = (wiF (goneR d) d.na.toNat) := rfl
  have hg : ∀ l : List Int, gndL (l.map eI).flatten = true := gI
  simp +contextual (maxSteps := 5000000) only [go_sem, ↓reduceIte, a1', a2', b1, b2, c1, c2, c3, c4, c_nms, st_nms, dS_eS, c_rCk, st_rCk, dP_eP, hcC, hcR]
  refine fun _ _ => ⟨by omega, by omega, ?_⟩
  refine M_join (fun _ : Unit => ⟨[(1, .loc 1 0), (6, .sl 1 ((goneR d).map eI)), (7, .sl 1 ((newR' d).map eI))], [(1, .blk (eDl d) false)]⟩) (fun _ => True) ?_ ?_
  · simp +contextual (maxSteps := 5000000) only [go_sem, ↓reduceIte, eDl, c_rRA, st_rRA, c_rRB, st_rRB, dP_eP, gI]
    exact ⟨⟨by omega, by omega⟩, ⟨by omega, by omega⟩, (), rfl, rfl⟩
  intro _ _
  unfold eDl
  simp +contextual (maxSteps := 5000000) only [go_sem, ↓reduceIte]
  refine M_join (fun _ : Unit => ⟨[(1, .loc 1 0), (6, .sl 1 ((goneR d).map eI)), (7, .sl 1 ((newR' d).map eI)), (8, .sl 1 ((goneC d).map eI)), (9, .sl 1 ((newC d).map eI))], [(1, .blk (eDl d) false)]⟩) (fun _ => True) ?_ ?_
  · simp +contextual (maxSteps := 5000000) only [go_sem, ↓reduceIte, eDl, c_rRA, st_rRA, c_rRB, st_rRB, dP_eP, gI]
    exact ⟨⟨by omega, by omega⟩, ⟨by omega, by omega⟩, (), rfl, rfl⟩
  intro _ _
  unfold eDl
  simp +contextual (maxSteps := 5000000) only [go_sem, ↓reduceIte]
  generalize hm1 : mtF (isL d.A.length) d.dels (goneR d) = m1 at g7
  generalize hm2 : mtF (isL d.B.length) d.inss (newR' d) = m2 at g7
  generalize hm3 : mtF isS d.lost (crF (wiF (goneR d) d.na.toNat) (goneC d)) = m3 at g7
  generalize hm4 : mtF isS d.gain (crF (wiF (newR' d) d.nb.toNat) (newC d)) = m4 at g7
  refine M_join (fun _ : Unit => ⟨[(1, .loc 1 0), (6, .sl 1 ((goneR d).map eI)), (7, .sl 1 ((newR' d).map eI)), (8, .sl 1 ((goneC d).map eI)), (9, .sl 1 ((newC d).map eI)), (10, .bool (m1 && m2))], [(1, .blk (eDl d) false)]⟩) (fun _ => True) ?_ ?_
  · cases m1
    · simp +contextual (maxSteps := 5000000) only [go_sem, ↓reduceIte, eDl, c_whl, st_whl, dL_eL, dI_eI, hm1, gI]
      exact fun _ => ⟨by omega, (), trivial⟩
    · simp +contextual (maxSteps := 5000000) only [go_sem, ↓reduceIte, eDl, c_whl, st_whl, dL_eL, dI_eI, hm1, hm2, gI]
      exact fun _ => ⟨by omega, fun _ => ⟨by omega, (), trivial⟩⟩
  intro _ _
  unfold eDl
  simp +contextual (maxSteps := 5000000) only [go_sem, ↓reduceIte]
  refine M_join (fun _ : Unit => ⟨[(1, .loc 1 0), (11, .bool (m1 && m2 && m3 && m4))], [(1, .blk (eDl d) false)]⟩) (fun _ => True) ?_ ?_
  · cases m1
    · simp +contextual (maxSteps := 5000000) only [go_sem, ↓reduceIte, eDl]
      exact ⟨(), trivial⟩
    cases m2
    · simp +contextual (maxSteps := 5000000) only [go_sem, ↓reduceIte, eDl]
      exact ⟨(), trivial⟩
    cases m3
    · simp +contextual (maxSteps := 5000000) only [go_sem, ↓reduceIte, eDl, c_not, st_not, c_each, st_each, dSp_eSp, dI_eI, hm3, gI]
      exact ⟨by omega, ⟨by omega, by omega, by omega⟩, (), trivial⟩
    · simp +contextual (maxSteps := 5000000) only [go_sem, ↓reduceIte, eDl, c_not, st_not, c_each, st_each, dSp_eSp, dI_eI, hm3, hm4, gI]
      exact ⟨by omega, ⟨by omega, by omega, by omega⟩, by omega, ⟨by omega, by omega, by omega⟩, (), trivial⟩
  intro _ _
  unfold eDl
  simp +contextual (maxSteps := 5000000) only [go_sem, ↓reduceIte]
  refine M_join (fun _ : Unit => ⟨[(1, .loc 1 0), (12, .bool (m1 && m2 && m3 && m4 && rightF d))], [(1, .blk (eDl d) false)]⟩) (fun _ => True) ?_ ?_
  · cases m1
    · simp +contextual (maxSteps := 5000000) only [go_sem, ↓reduceIte, eDl]
      exact ⟨(), trivial⟩
    cases m2
    · simp +contextual (maxSteps := 5000000) only [go_sem, ↓reduceIte, eDl]
      exact ⟨(), trivial⟩
    cases m3
    · simp +contextual (maxSteps := 5000000) only [go_sem, ↓reduceIte, eDl]
      exact ⟨(), trivial⟩
    cases m4
    · simp +contextual (maxSteps := 5000000) only [go_sem, ↓reduceIte, eDl]
      exact ⟨(), trivial⟩
    simp +contextual (maxSteps := 5000000) only [go_sem, ↓reduceIte, eDl, c_rgt, hs1]
    exact ⟨(), trivial⟩
  intro _ _
  unfold eDl
  by_cases hq : (m1 && m2 && m3 && m4 && rightF d) = true
  · have hq' := hq
    simp only [Bool.and_eq_true] at hq'
    obtain ⟨⟨⟨⟨rfl, rfl⟩, rfl⟩, rfl⟩, hr⟩ := hq'
    have hE2 : E = if 1000 < mxL (txF d) then 7 else 0 := by
      rw [g7, if_neg (by simp), if_neg (by simp), if_neg (fun h => by rw [rightF_no.2 h] at hr; cases hr)]
      simp only [mxL_at]
    by_cases q : 1000 < mxL (txF d)
    · have q' : (1000 : Int) < mxL (txF d) := by omega
      rw [if_pos q] at hE2
      subst hE2
      simp +contextual (maxSteps := 5000000) only [go_sem, ↓reduceIte, hr, c_lgs, hs2, q', hh]
      exact rfl
    · have q' : ¬ (1000 : Int) < mxL (txF d) := by omega
      rw [if_neg q] at hE2
      subst hE2
      simp +contextual (maxSteps := 5000000) only [go_sem, ↓reduceIte, hr, c_lgs, hs2, q', hh]
      exact rfl
  · have hE2 : E = 13 := by
      rw [g7]
      split
      · rfl
      · rename_i e1
        split
        · rfl
        · rename_i e2
          split
          · rfl
          · rename_i e3
            refine absurd ?_ hq
            have e3' : rightF d = true := by
              cases e : rightF d with
              | true => rfl
              | false => exact absurd (rightF_no.1 e) e3
            rw [e3']
            have := Classical.not_not.1 e1
            have := Classical.not_not.1 e2
            simp [*]
    subst hE2
    rw [Bool.not_eq_true] at hq
    simp +contextual (maxSteps := 5000000) only [go_sem, ↓reduceIte, hq]
end Go.Proofs.YtknkjakppikjeaaGreat

set_option linter.unusedSimpArgs false
namespace Go.Proofs.YtknkjakppikjeaaGreat
open Go.Tn
set_option maxHeartbeats 8000000
set_option maxRecDepth 100000
def c_askR (cs : List D) (q : List Str → Bool) (l : List (List Str)) (caps args : List D) : Prop × Out :=
  match args with
  | [.sl 1 r] => (caps = cs ∧ r = (r.map dS).map eS ∧ (r.map dS) ∈ l, .ret (.bool (q (r.map dS))))
  | _ => (False, .ret .any)
theorem st_askR {P : Program} {g : Nat} {cs : List D} {q : List Str → Bool} {l : List (List Str)} (h : ∀ x ∈ l, FC P g cs [.sl 1 (x.map eS)] (.ret (.bool (q x)))) : StC P g (c_askR cs q l) := by
  intro caps args
  unfold c_askR
  split
  · rintro ⟨rfl, h1, hx⟩; have := h _ hx; rw [← h1] at this; exact this
  · exact fun h => h.elim
theorem fc_ixR (g : Nat) (cs : List D) (hcs : cleanL [.fn g [] cs] = true) (q : List Str → Bool) (l : List (List Str)) (hl : l.length < 1000000000)
    (h : ∀ x ∈ l, FC Tryz.prog g cs [.sl 1 (x.map eS)] (.ret (.bool (q x)))) :
    FC Tryz.prog 106 [] [.sl 1 (l.map eR), .fn g [] cs] (.ret (.int .i64 (fidx q l 0))) := by
  have cl := clrL_of (cl_fn hcs)
  have hst := st_askR h
  refine fc_M (fn := Tryz.f106) (C := (tab [(g, c_askR cs q l)] [])) (rs := [4]) mixed (by kernel_rfl) (by kernel_rfl) rfl rfl (by kernel_rfl) (by intro ys h; cases h) ?_
  simp +contextual (maxSteps := 5000000) only [go_sem, ↓reduceIte]
  intro _
  refine M_loopI (fun i : Nat => ⟨[(0, .sl 1 (l.map eR)), (1, .fn g [] cs), (7, .int .i64 l.length), (8, .int .i64 i)], []⟩) (fun i => l.length - i) (fun i => i ≤ l.length ∧ ∀ j, j < i → q (l.getD j []) = false) 0 ?_ ?_
  · simp +contextual (maxSteps := 5000000) only [go_sem, ↓reduceIte, cl.cv6, cl.rf6, cl.nw6, cl.fz6, cl.cv5, cl.rf5, cl.nw5, cl.fz5, cl.wkL, cl.inOL]
    rfl
  · intro i hi
    obtain ⟨hi, hn⟩ := hi
    by_cases hlt : i < l.length
    · have hm := getD_mem (d := []) hlt
      have hat := eR_at l i hlt
      cases hq : q (l.getD i [])
      · have hq2 := hq
        generalize l.getD i [] = x at hm hat hq
        have hm2 : x ∈ l := hm
        have hq3 : q x = false := hq
        simp +contextual (maxSteps := 5000000) only [go_sem, ↓reduceIte, cl.cv6, cl.rf6, cl.nw6, cl.fz6, cl.cv5, cl.rf5, cl.nw5, cl.fz5, cl.wkL, cl.inOL, hlt, hat, c_askR, hst, hm2, hq3, dS_eS]
        refine ⟨inR64 (by omega) (by omega), fun _ => ⟨i + 1, by simp, by omega, by omega, fun j hj => ?_⟩⟩
        rcases lt_cases hj with h | rfl
        · exact hn j h
        · exact hq2
      · have hq2 := hq
        generalize l.getD i [] = x at hm hat hq
        have hm2 : x ∈ l := hm
        have hq3 : q x = true := hq
        simp +contextual (maxSteps := 5000000) only [go_sem, ↓reduceIte, cl.cv6, cl.rf6, cl.nw6, cl.fz6, cl.cv5, cl.rf5, cl.nw5, cl.fz5, cl.wkL, cl.inOL, hlt, hat, c_askR, hst, hm2, hq3, dS_eS]
        rw [fidx_at (d := []) hlt hq2 hn]; simp
    · simp +contextual (maxSteps := 5000000) only [go_sem, ↓reduceIte, hlt]
      rw [fidx_no (d := []) (fun j hj => hn j (by omega))]
def c_ixR (q : List Str → Bool) (caps args : List D) : Prop × Out := match caps, args with
  | [], [.sl 1 rows, .fn g [] cs] => (rows = (rows.map dR).map eR ∧ rows.length < 1000000000 ∧ cleanL [.fn g [] cs] = true ∧ ∀ x ∈ rows.map dR, FC Tryz.prog g cs [.sl 1 (x.map eS)] (.ret (.bool (q x))), .ret (.int .i64 (fidx q (rows.map dR) 0)))
  | _, _ => (False, .ret .any)
theorem st_ixR (q : List Str → Bool) : StC Tryz.prog 106 (c_ixR q) := by
  intro caps args; unfold c_ixR; split
  · rename_i rows g cs
    rintro ⟨h1, h2, h3, h4⟩
    have := fc_ixR g cs h3 q (rows.map dR) (by simpa using h2) h4
    rw [← h1] at this
    exact this
  · exact fun h => h.elim
theorem fc_cnR (g : Nat) (cs : List D) (hcs : cleanL [.fn g [] cs] = true) (q : List Str → Bool) (l : List (List Str)) (hl : l.length < 1000000000)
    (h : ∀ x ∈ l, FC Tryz.prog g cs [.sl 1 (x.map eS)] (.ret (.bool (q x)))) :
    FC Tryz.prog 60 [] [.sl 1 (l.map eR), .fn g [] cs] (.ret (.bool (l.any q))) := by
  have cl := clrL_of (cl_fn hcs)
  refine fc_M (fn := Tryz.f60) (C := (tab [(106, c_ixR q)] [])) (rs := [4]) mixed (by kernel_rfl) (by kernel_rfl) rfl rfl (by kernel_rfl) (by intro ys h; cases h) ?_
  simp +contextual (maxSteps := 5000000) only [go_sem, ↓reduceIte, cl.cv6, cl.rf6, cl.nw6, cl.fz6, cl.cv5, cl.rf5, cl.nw5, cl.fz5, cl.wkL, cl.inOL, c_ixR, st_ixR, dR_eR]
  exact ⟨⟨hl, hcs, h⟩, fidx_nn⟩
def c_cnR (q : List Str → Bool) (caps args : List D) : Prop × Out := match caps, args with
  | [], [.sl 1 rows, .fn g [] cs] => (rows = (rows.map dR).map eR ∧ rows.length < 1000000000 ∧ cleanL [.fn g [] cs] = true ∧ ∀ x ∈ rows.map dR, FC Tryz.prog g cs [.sl 1 (x.map eS)] (.ret (.bool (q x))), .ret (.bool ((rows.map dR).any q)))
  | _, _ => (False, .ret .any)
theorem st_cnR (q : List Str → Bool) : StC Tryz.prog 60 (c_cnR q) := by
  intro caps args; unfold c_cnR; split
  · rename_i rows g cs
    rintro ⟨h1, h2, h3, h4⟩
    have := fc_cnR g cs h3 q (rows.map dR) (by simpa using h2) h4
    rw [← h1] at this
    exact this
  · exact fun h => h.elim
def c_askL (cs : List D) (q : Ln → Bool) (l : List (Ln)) (caps args : List D) : Prop × Out :=
  match args with
  | [.agg [.int .i64 a, .sl 1 r]] => (caps = cs ∧ r = (r.map dS).map eS ∧ (a, r.map dS) ∈ l, .ret (.bool (q (a, r.map dS))))
  | _ => (False, .ret .any)
theorem st_askL {P : Program} {g : Nat} {cs : List D} {q : Ln → Bool} {l : List (Ln)} (h : ∀ x ∈ l, FC P g cs [.agg (eL x)] (.ret (.bool (q x)))) : StC P g (c_askL cs q l) := by
  intro caps args
  unfold c_askL
  split
  · rintro ⟨rfl, h1, hx⟩; have := h _ hx; unfold eL at this; rw [← h1] at this; exact this
  · exact fun h => h.elim
theorem fc_ixL (g : Nat) (cs : List D) (hcs : cleanL [.fn g [] cs] = true) (q : Ln → Bool) (l : List (Ln)) (hl : l.length < 1000000000)
    (h : ∀ x ∈ l, FC Tryz.prog g cs [.agg (eL x)] (.ret (.bool (q x)))) :
    FC Tryz.prog 83 [] [.sl 2 (l.map eL), .fn g [] cs] (.ret (.int .i64 (fidx q l 0))) := by
  have cl := clrL_of (cl_fn hcs)
  have hst := st_askL h
  refine fc_M (fn := Tryz.f83) (C := (tab [(g, c_askL cs q l)] [])) (rs := [4]) mixed (by kernel_rfl) (by kernel_rfl) rfl rfl (by kernel_rfl) (by intro ys h; cases h) ?_
  simp +contextual (maxSteps := 5000000) only [go_sem, ↓reduceIte]
  intro _
  refine M_loopI (fun i : Nat => ⟨[(0, .sl 2 (l.map eL)), (1, .fn g [] cs), (7, .int .i64 l.length), (8, .int .i64 i)], []⟩) (fun i => l.length - i) (fun i => i ≤ l.length ∧ ∀ j, j < i → q (l.getD j (0, [])) = false) 0 ?_ ?_
  · simp +contextual (maxSteps := 5000000) only [go_sem, ↓reduceIte, cl.cv6, cl.rf6, cl.nw6, cl.fz6, cl.cv5, cl.rf5, cl.nw5, cl.fz5, cl.wkL, cl.inOL]
    rfl
  · intro i hi
    obtain ⟨hi, hn⟩ := hi
    by_cases hlt : i < l.length
    · have hm := getD_mem (d := (0, [])) hlt
      have hat := eL_at l i hlt
      cases hq : q (l.getD i (0, []))
      · have hq2 := hq
        generalize l.getD i (0, []) = x at hm hat hq
        have hm2 : (x.1, x.2) ∈ l := hm
        have hq3 : q (x.1, x.2) = false := hq
        simp +contextual (maxSteps := 5000000) only [go_sem, ↓reduceIte, cl.cv6, cl.rf6, cl.nw6, cl.fz6, cl.cv5, cl.rf5, cl.nw5, cl.fz5, cl.wkL, cl.inOL, hlt, hat, c_askL, hst, hm2, hq3, dS_eS]
        refine ⟨inR64 (by omega) (by omega), fun _ => ⟨i + 1, by simp, by omega, by omega, fun j hj => ?_⟩⟩
        rcases lt_cases hj with h | rfl
        · exact hn j h
        · exact hq2
      · have hq2 := hq
        generalize l.getD i (0, []) = x at hm hat hq
        have hm2 : (x.1, x.2) ∈ l := hm
        have hq3 : q (x.1, x.2) = true := hq
        simp +contextual (maxSteps := 5000000) only [go_sem, ↓reduceIte, cl.cv6, cl.rf6, cl.nw6, cl.fz6, cl.cv5, cl.rf5, cl.nw5, cl.fz5, cl.wkL, cl.inOL, hlt, hat, c_askL, hst, hm2, hq3, dS_eS]
        rw [fidx_at (d := (0, [])) hlt hq2 hn]; simp
    · simp +contextual (maxSteps := 5000000) only [go_sem, ↓reduceIte, hlt]
      rw [fidx_no (d := (0, [])) (fun j hj => hn j (by omega))]
def c_ixL (q : Ln → Bool) (caps args : List D) : Prop × Out := match caps, args with
  | [], [.sl 2 rows, .fn g [] cs] => (rows = (rows.map dL).map eL ∧ rows.length < 1000000000 ∧ cleanL [.fn g [] cs] = true ∧ ∀ x ∈ rows.map dL, FC Tryz.prog g cs [.agg (eL x)] (.ret (.bool (q x))), .ret (.int .i64 (fidx q (rows.map dL) 0)))
  | _, _ => (False, .ret .any)
theorem st_ixL (q : Ln → Bool) : StC Tryz.prog 83 (c_ixL q) := by
  intro caps args; unfold c_ixL; split
  · rename_i rows g cs
    rintro ⟨h1, h2, h3, h4⟩
    have := fc_ixL g cs h3 q (rows.map dL) (by simpa using h2) h4
    rw [← h1] at this
    exact this
  · exact fun h => h.elim
theorem fc_cnL (g : Nat) (cs : List D) (hcs : cleanL [.fn g [] cs] = true) (q : Ln → Bool) (l : List (Ln)) (hl : l.length < 1000000000)
    (h : ∀ x ∈ l, FC Tryz.prog g cs [.agg (eL x)] (.ret (.bool (q x)))) :
    FC Tryz.prog 40 [] [.sl 2 (l.map eL), .fn g [] cs] (.ret (.bool (l.any q))) := by
  have cl := clrL_of (cl_fn hcs)
  refine fc_M (fn := Tryz.f40) (C := (tab [(83, c_ixL q)] [])) (rs := [4]) mixed (by kernel_rfl) (by kernel_rfl) rfl rfl (by kernel_rfl) (by intro ys h; cases h) ?_
  simp +contextual (maxSteps := 5000000) only [go_sem, ↓reduceIte, cl.cv6, cl.rf6, cl.nw6, cl.fz6, cl.cv5, cl.rf5, cl.nw5, cl.fz5, cl.wkL, cl.inOL, c_ixL, st_ixL, dL_eL]
  exact ⟨⟨hl, hcs, h⟩, fidx_nn⟩
def c_cnL (q : Ln → Bool) (caps args : List D) : Prop × Out := match caps, args with
  | [], [.sl 2 rows, .fn g [] cs] => (rows = (rows.map dL).map eL ∧ rows.length < 1000000000 ∧ cleanL [.fn g [] cs] = true ∧ ∀ x ∈ rows.map dL, FC Tryz.prog g cs [.agg (eL x)] (.ret (.bool (q x))), .ret (.bool ((rows.map dL).any q)))
  | _, _ => (False, .ret .any)
theorem st_cnL (q : Ln → Bool) : StC Tryz.prog 40 (c_cnL q) := by
  intro caps args; unfold c_cnL; split
  · rename_i rows g cs
    rintro ⟨h1, h2, h3, h4⟩
    have := fc_cnL g cs h3 q (rows.map dL) (by simpa using h2) h4
    rw [← h1] at this
    exact this
  · exact fun h => h.elim
def c_ask6 (cs : List D) (q : St6 → Bool) (l : List (St6)) (caps args : List D) : Prop × Out :=
  match args with
  | [.agg [.int .i64 a, .int .i64 b, .int .i64 c, .int .i64 d, .str e, .str f]] => (caps = cs ∧ ⟨a, b, c, d, e, f⟩ ∈ l, .ret (.bool (q ⟨a, b, c, d, e, f⟩)))
  | _ => (False, .ret .any)
theorem st_ask6 {P : Program} {g : Nat} {cs : List D} {q : St6 → Bool} {l : List (St6)} (h : ∀ x ∈ l, FC P g cs [.agg (eD6 x)] (.ret (.bool (q x)))) : StC P g (c_ask6 cs q l) := by
  intro caps args
  unfold c_ask6
  split
  · rintro ⟨rfl, hx⟩; exact h _ hx
  · exact fun h => h.elim
theorem fc_ix6 (g : Nat) (cs : List D) (hcs : cleanL [.fn g [] cs] = true) (q : St6 → Bool) (l : List (St6)) (hl : l.length < 1000000000)
    (h : ∀ x ∈ l, FC Tryz.prog g cs [.agg (eD6 x)] (.ret (.bool (q x)))) :
    FC Tryz.prog 84 [] [.sl 6 (l.map eD6), .fn g [] cs] (.ret (.int .i64 (fidx q l 0))) := by
  have cl := clrL_of (cl_fn hcs)
  have hst := st_ask6 h
  refine fc_M (fn := Tryz.f84) (C := (tab [(g, c_ask6 cs q l)] [])) (rs := [4]) mixed (by kernel_rfl) (by kernel_rfl) rfl rfl (by kernel_rfl) (by intro ys h; cases h) ?_
  simp +contextual (maxSteps := 5000000) only [go_sem, ↓reduceIte]
  intro _
  refine M_loopI (fun i : Nat => ⟨[(0, .sl 6 (l.map eD6)), (1, .fn g [] cs), (7, .int .i64 l.length), (8, .int .i64 i)], []⟩) (fun i => l.length - i) (fun i => i ≤ l.length ∧ ∀ j, j < i → q (l.getD j default) = false) 0 ?_ ?_
  · simp +contextual (maxSteps := 5000000) only [go_sem, ↓reduceIte, cl.cv6, cl.rf6, cl.nw6, cl.fz6, cl.cv5, cl.rf5, cl.nw5, cl.fz5, cl.wkL, cl.inOL]
    rfl
  · intro i hi
    obtain ⟨hi, hn⟩ := hi
    by_cases hlt : i < l.length
    · have hm := getD_mem (d := default) hlt
      have hat := eD6_at l i hlt
      cases hq : q (l.getD i default)
      · have hq2 := hq
        generalize l.getD i default = x at hm hat hq
        have hm2 : (⟨x.i, x.j, x.p, x.q, x.o, x.n⟩ : St6) ∈ l := hm
        have hq3 : q (⟨x.i, x.j, x.p, x.q, x.o, x.n⟩ : St6) = false := hq
        simp +contextual (maxSteps := 5000000) only [go_sem, ↓reduceIte, cl.cv6, cl.rf6, cl.nw6, cl.fz6, cl.cv5, cl.rf5, cl.nw5, cl.fz5, cl.wkL, cl.inOL, hlt, hat, c_ask6, hst, hm2, hq3, dS_eS]
        refine ⟨inR64 (by omega) (by omega), fun _ => ⟨i + 1, by simp, by omega, by omega, fun j hj => ?_⟩⟩
        rcases lt_cases hj with h | rfl
        · exact hn j h
        · exact hq2
      · have hq2 := hq
        generalize l.getD i default = x at hm hat hq
        have hm2 : (⟨x.i, x.j, x.p, x.q, x.o, x.n⟩ : St6) ∈ l := hm
        have hq3 : q (⟨x.i, x.j, x.p, x.q, x.o, x.n⟩ : St6) = true := hq
        simp +contextual (maxSteps := 5000000) only [go_sem, ↓reduceIte, cl.cv6, cl.rf6, cl.nw6, cl.fz6, cl.cv5, cl.rf5, cl.nw5, cl.fz5, cl.wkL, cl.inOL, hlt, hat, c_ask6, hst, hm2, hq3, dS_eS]
        rw [fidx_at (d := default) hlt hq2 hn]; simp
    · simp +contextual (maxSteps := 5000000) only [go_sem, ↓reduceIte, hlt]
      rw [fidx_no (d := default) (fun j hj => hn j (by omega))]
def c_ix6 (q : St6 → Bool) (caps args : List D) : Prop × Out := match caps, args with
  | [], [.sl 6 rows, .fn g [] cs] => (rows = (rows.map d6).map eD6 ∧ rows.length < 1000000000 ∧ cleanL [.fn g [] cs] = true ∧ ∀ x ∈ rows.map d6, FC Tryz.prog g cs [.agg (eD6 x)] (.ret (.bool (q x))), .ret (.int .i64 (fidx q (rows.map d6) 0)))
  | _, _ => (False, .ret .any)
theorem st_ix6 (q : St6 → Bool) : StC Tryz.prog 84 (c_ix6 q) := by
  intro caps args; unfold c_ix6; split
  · rename_i rows g cs
    rintro ⟨h1, h2, h3, h4⟩
    have := fc_ix6 g cs h3 q (rows.map d6) (by simpa using h2) h4
    rw [← h1] at this
    exact this
  · exact fun h => h.elim
theorem fc_cn6 (g : Nat) (cs : List D) (hcs : cleanL [.fn g [] cs] = true) (q : St6 → Bool) (l : List (St6)) (hl : l.length < 1000000000)
    (h : ∀ x ∈ l, FC Tryz.prog g cs [.agg (eD6 x)] (.ret (.bool (q x)))) :
    FC Tryz.prog 41 [] [.sl 6 (l.map eD6), .fn g [] cs] (.ret (.bool (l.any q))) := by
  have cl := clrL_of (cl_fn hcs)
  refine fc_M (fn := Tryz.f41) (C := (tab [(84, c_ix6 q)] [])) (rs := [4]) mixed (by kernel_rfl) (by kernel_rfl) rfl rfl (by kernel_rfl) (by intro ys h; cases h) ?_
  simp +contextual (maxSteps := 5000000) only [go_sem, ↓reduceIte, cl.cv6, cl.rf6, cl.nw6, cl.fz6, cl.cv5, cl.rf5, cl.nw5, cl.fz5, cl.wkL, cl.inOL, c_ix6, st_ix6, d6_eD6]
  exact ⟨⟨hl, hcs, h⟩, fidx_nn⟩
def c_cn6 (q : St6 → Bool) (caps args : List D) : Prop × Out := match caps, args with
  | [], [.sl 6 rows, .fn g [] cs] => (rows = (rows.map d6).map eD6 ∧ rows.length < 1000000000 ∧ cleanL [.fn g [] cs] = true ∧ ∀ x ∈ rows.map d6, FC Tryz.prog g cs [.agg (eD6 x)] (.ret (.bool (q x))), .ret (.bool ((rows.map d6).any q)))
  | _, _ => (False, .ret .any)
theorem st_cn6 (q : St6 → Bool) : StC Tryz.prog 41 (c_cn6 q) := by
  intro caps args; unfold c_cn6; split
  · rename_i rows g cs
    rintro ⟨h1, h2, h3, h4⟩
    have := fc_cn6 g cs h3 q (rows.map d6) (by simpa using h2) h4
    rw [← h1] at this
    exact this
  · exact fun h => h.elim
def c_askSp (cs : List D) (q : Sp → Bool) (l : List (Sp)) (caps args : List D) : Prop × Out :=
  match args with
  | [.agg [.int .i64 a, .int .i64 b, .str s]] => (caps = cs ∧ (a, b, s) ∈ l, .ret (.bool (q (a, b, s))))
  | _ => (False, .ret .any)
theorem st_askSp {P : Program} {g : Nat} {cs : List D} {q : Sp → Bool} {l : List (Sp)} (h : ∀ x ∈ l, FC P g cs [.agg (eSp x)] (.ret (.bool (q x)))) : StC P g (c_askSp cs q l) := by
  intro caps args
  unfold c_askSp
  split
  · rintro ⟨rfl, hx⟩; exact h _ hx
  · exact fun h => h.elim
theorem fc_ixSp (g : Nat) (cs : List D) (hcs : cleanL [.fn g [] cs] = true) (q : Sp → Bool) (l : List (Sp)) (hl : l.length < 1000000000)
    (h : ∀ x ∈ l, FC Tryz.prog g cs [.agg (eSp x)] (.ret (.bool (q x)))) :
    FC Tryz.prog 85 [] [.sl 3 (l.map eSp), .fn g [] cs] (.ret (.int .i64 (fidx q l 0))) := by
  have cl := clrL_of (cl_fn hcs)
  have hst := st_askSp h
  refine fc_M (fn := Tryz.f85) (C := (tab [(g, c_askSp cs q l)] [])) (rs := [4]) mixed (by kernel_rfl) (by kernel_rfl) rfl rfl (by kernel_rfl) (by intro ys h; cases h) ?_
  simp +contextual (maxSteps := 5000000) only [go_sem, ↓reduceIte]
  intro _
  refine M_loopI (fun i : Nat => ⟨[(0, .sl 3 (l.map eSp)), (1, .fn g [] cs), (7, .int .i64 l.length), (8, .int .i64 i)], []⟩) (fun i => l.length - i) (fun i => i ≤ l.length ∧ ∀ j, j < i → q (l.getD j (0, 0, [])) = false) 0 ?_ ?_
  · simp +contextual (maxSteps := 5000000) only [go_sem, ↓reduceIte, cl.cv6, cl.rf6, cl.nw6, cl.fz6, cl.cv5, cl.rf5, cl.nw5, cl.fz5, cl.wkL, cl.inOL]
    rfl
  · intro i hi
    obtain ⟨hi, hn⟩ := hi
    by_cases hlt : i < l.length
    · have hm := getD_mem (d := (0, 0, [])) hlt
      have hat := eSp_at l i hlt
      cases hq : q (l.getD i (0, 0, []))
      · have hq2 := hq
        generalize l.getD i (0, 0, []) = x at hm hat hq
        have hm2 : (x.1, x.2.1, x.2.2) ∈ l := hm
        have hq3 : q (x.1, x.2.1, x.2.2) = false := hq
        simp +contextual (maxSteps := 5000000) only [go_sem, ↓reduceIte, cl.cv6, cl.rf6, cl.nw6, cl.fz6, cl.cv5, cl.rf5, cl.nw5, cl.fz5, cl.wkL, cl.inOL, hlt, hat, c_askSp, hst, hm2, hq3, dS_eS]
        refine ⟨inR64 (by omega) (by omega), fun _ => ⟨i + 1, by simp, by omega, by omega, fun j hj => ?_⟩⟩
        rcases lt_cases hj with h | rfl
        · exact hn j h
        · exact hq2
      · have hq2 := hq
        generalize l.getD i (0, 0, []) = x at hm hat hq
        have hm2 : (x.1, x.2.1, x.2.2) ∈ l := hm
        have hq3 : q (x.1, x.2.1, x.2.2) = true := hq
        simp +contextual (maxSteps := 5000000) only [go_sem, ↓reduceIte, cl.cv6, cl.rf6, cl.nw6, cl.fz6, cl.cv5, cl.rf5, cl.nw5, cl.fz5, cl.wkL, cl.inOL, hlt, hat, c_askSp, hst, hm2, hq3, dS_eS]
        rw [fidx_at (d := (0, 0, [])) hlt hq2 hn]; simp
    · simp +contextual (maxSteps := 5000000) only [go_sem, ↓reduceIte, hlt]
      rw [fidx_no (d := (0, 0, [])) (fun j hj => hn j (by omega))]
def c_ixSp (q : Sp → Bool) (caps args : List D) : Prop × Out := match caps, args with
  | [], [.sl 3 rows, .fn g [] cs] => (rows = (rows.map dSp).map eSp ∧ rows.length < 1000000000 ∧ cleanL [.fn g [] cs] = true ∧ ∀ x ∈ rows.map dSp, FC Tryz.prog g cs [.agg (eSp x)] (.ret (.bool (q x))), .ret (.int .i64 (fidx q (rows.map dSp) 0)))
  | _, _ => (False, .ret .any)
theorem st_ixSp (q : Sp → Bool) : StC Tryz.prog 85 (c_ixSp q) := by
  intro caps args; unfold c_ixSp; split
  · rename_i rows g cs
    rintro ⟨h1, h2, h3, h4⟩
    have := fc_ixSp g cs h3 q (rows.map dSp) (by simpa using h2) h4
    rw [← h1] at this
    exact this
  · exact fun h => h.elim
theorem fc_cnSp (g : Nat) (cs : List D) (hcs : cleanL [.fn g [] cs] = true) (q : Sp → Bool) (l : List (Sp)) (hl : l.length < 1000000000)
    (h : ∀ x ∈ l, FC Tryz.prog g cs [.agg (eSp x)] (.ret (.bool (q x)))) :
    FC Tryz.prog 42 [] [.sl 3 (l.map eSp), .fn g [] cs] (.ret (.bool (l.any q))) := by
  have cl := clrL_of (cl_fn hcs)
  refine fc_M (fn := Tryz.f42) (C := (tab [(85, c_ixSp q)] [])) (rs := [4]) mixed (by kernel_rfl) (by kernel_rfl) rfl rfl (by kernel_rfl) (by intro ys h; cases h) ?_
  simp +contextual (maxSteps := 5000000) only [go_sem, ↓reduceIte, cl.cv6, cl.rf6, cl.nw6, cl.fz6, cl.cv5, cl.rf5, cl.nw5, cl.fz5, cl.wkL, cl.inOL, c_ixSp, st_ixSp, dSp_eSp]
  exact ⟨⟨hl, hcs, h⟩, fidx_nn⟩
def c_cnSp (q : Sp → Bool) (caps args : List D) : Prop × Out := match caps, args with
  | [], [.sl 3 rows, .fn g [] cs] => (rows = (rows.map dSp).map eSp ∧ rows.length < 1000000000 ∧ cleanL [.fn g [] cs] = true ∧ ∀ x ∈ rows.map dSp, FC Tryz.prog g cs [.agg (eSp x)] (.ret (.bool (q x))), .ret (.bool ((rows.map dSp).any q)))
  | _, _ => (False, .ret .any)
theorem st_cnSp (q : Sp → Bool) : StC Tryz.prog 42 (c_cnSp q) := by
  intro caps args; unfold c_cnSp; split
  · rename_i rows g cs
    rintro ⟨h1, h2, h3, h4⟩
    have := fc_cnSp g cs h3 q (rows.map dSp) (by simpa using h2) h4
    rw [← h1] at this
    exact this
  · exact fun h => h.elim
end Go.Proofs.YtknkjakppikjeaaGreat

set_option linter.unusedSimpArgs false
namespace Go.Proofs.YtknkjakppikjeaaGreat
open Go.Tn
set_option maxHeartbeats 8000000
set_option maxRecDepth 100000
def tc2 (t : Tab) : Int := if (t.2.any fun r => decide (r.length ≠ t.1.length)) = true then 9 else 0
theorem cl_box {g : Nat} {cs : List D} : cleanL [.fn g [] [.box cs]] = true := rfl
theorem fc_tc2 (t : Tab) (h : t.2.length < 1000000000) : FC Tryz.prog 58 [.box (eTb t)] [] (.ret (.int .i64 (tc2 t))) := by
  have hq : ∀ x ∈ t.2, FC Tryz.prog 59 [.box (eTb t)] [.sl 1 (x.map eS)] (.ret (.bool (decide (x.length ≠ t.1.length)))) := fun x _ => fc_odd t x
  refine fc_M (fn := Tryz.f58) (C := (tab [(57, c_unless), (60, c_cnR (fun r => decide (r.length ≠ t.1.length)))] [])) (rs := [1]) mixed (by kernel_rfl) (by kernel_rfl) rfl rfl (by kernel_rfl) (by intro ys h; cases h) ?_
  unfold eTb at hq ⊢
  unfold tc2
  simp +contextual (maxSteps := 5000000) only [go_sem, ↓reduceIte, c_unless, st_unless, c_cnR, st_cnR, dR_eR, h, cl_box]
  refine ⟨hq, ?_⟩
  cases (t.2.any fun r => decide ¬r.length = t.1.length) <;> rfl
def tc3 (t : Tab) : Int := if onceF t.1 = true then 0 else 10
theorem fc_tc3 (t : Tab) (hl : t.1.length < 1000000000) : FC Tryz.prog 61 [.box (eTb t)] [] (.ret (.int .i64 (tc3 t))) := by
  refine fc_M (fn := Tryz.f61) (C := (tab [(57, c_unless)] [])) (rs := [1]) mixed (by kernel_rfl) (by kernel_rfl) rfl rfl (by kernel_rfl) (by intro ys h; cases h) ?_
  unfold eTb
  simp +contextual (maxSteps := 5000000) only [go_sem, ↓reduceIte]
  refine fun _ => M_loopI (fun i : Nat => ⟨[(0, .box [.sl 1 (t.1.map eS), .sl 1 (t.2.map eR)]), (2, .lmap 5), (7, .sl 1 (t.1.map eS)), (8, .int .i64 t.1.length), (9, .int .i64 i)], [(5, .mp ((cntS (t.1.take i)).map kS) ((cntS (t.1.take i)).map vS) false)]⟩) (fun i => t.1.length - i) (fun i => i ≤ t.1.length) 0 ?_ ?_
  · simp +contextual (maxSteps := 5000000) only [go_sem, ↓reduceIte, cntS, List.foldl_nil]
    rfl
  intro i hi
  by_cases hlt : i < t.1.length
  · have hat := eS_at t.1 i hlt
    have hb := cntS_bd (t.1.getD i []) t.1 i (by omega)
    have ht := cntS_take hlt
    simp +contextual (maxSteps := 5000000) only [go_sem, ↓reduceIte, hlt, hat, c_unless, st_unless]
    exact ⟨inR64 (by omega) (by omega), fun _ => ⟨inR64 (by omega) (by omega), fun _ => ⟨i + 1, ⟨by simp, by rw [ht], by rw [ht]⟩, by omega, by omega⟩⟩⟩
  obtain rfl : i = t.1.length := by omega
  simp +contextual (maxSteps := 5000000) only [go_sem, ↓reduceIte, hlt, Nat.lt_irrefl, List.take_length, c_unless, st_unless]
  unfold tc3 onceF
  intro _
  by_cases e : (cntS t.1).length = t.1.length <;> simp [e]
def alF (t : Tab) : List Str := (t.1 :: t.2).flatten
def eRs (l : List (List Str)) : List (List D) := l.map eR
theorem fc_lists (t : Tab) (h : t.2.length < 1000000000) : FC Tryz.prog 108 [] [.sl 1 (t.1.map eS), .sl 1 (t.2.map eR)] (.own 22 1 ((t.1 :: t.2).map eR)) := by
  refine fc_M (fn := Tryz.f108) (C := (tab [] [])) (rs := [4]) mixed (by kernel_rfl) (by kernel_rfl) rfl rfl (by kernel_rfl) (by intro ys h; cases h) ?_
  simp +contextual (maxSteps := 5000000) only [go_sem, ↓reduceIte]
  exact ⟨by omega, fun _ => ⟨rfl, by omega⟩⟩
def c_lists (caps args : List D) : Prop × Out := match caps, args with | [], [.sl 1 a, .sl 1 b] => (a = (a.map dS).map eS ∧ b = (b.map dR).map eR ∧ b.length < 1000000000, .own 22 1 ((a.map dS :: b.map dR).map eR)) | _, _ => (False, .ret .any)
theorem st_lists : StC Tryz.prog 108 c_lists := by
  intro caps args; unfold c_lists; split
  · rename_i a b
    rintro ⟨h1, h2, h3⟩
    have := fc_lists (a.map dS, b.map dR) (by simpa using h3)
    simp only at this
    rw [← h1, ← h2] at this
    exact this
  · exact fun h => h.elim
def flD (L : List (List Str)) (i p : Nat) : List Str := (L.take i).flatten ++ (L.getD i []).take p
theorem flD_step {L : List (List Str)} {i p : Nat} (hi : i < L.length) (hp : p < (L.getD i []).length) : (∃ r, L.flatten.map eS = (flD L i p).map eS ++ eS ((L.getD i []).getD p []) :: r) ∧ (flD L i p).map eS ++ [eS ((L.getD i []).getD p [])] = (flD L i (p + 1)).map eS := by
  have hb : L.getD i [] = (L.getD i []).take p ++ (L.getD i []).getD p [] :: (L.getD i []).drop (p + 1) := by
    rw [List.getD_eq_getElem?_getD (l := L.getD i []), List.getElem?_eq_getElem hp, Option.getD_some, List.getElem_cons_drop, List.take_append_drop]
  have ha : L = L.take i ++ L.getD i [] :: L.drop (i + 1) := by
    rw [List.getD_eq_getElem?_getD, List.getElem?_eq_getElem hi, Option.getD_some, List.getElem_cons_drop, List.take_append_drop]
  have h1 : L.flatten = (L.take i).flatten ++ (L.getD i [] ++ (L.drop (i + 1)).flatten) := by
    conv => lhs; rw [ha]
    simp
  unfold flD
  constructor
  · refine ⟨((L.getD i []).drop (p + 1) ++ (L.drop (i + 1)).flatten).map eS, ?_⟩
    rw [← List.map_cons, ← List.map_append, h1]
    congr 1
    conv => lhs; rw [hb]
    simp
  · rw [List.map_append, List.map_append, List.append_assoc, take_map_succ eS [] _ p hp]
theorem flD_end {L : List (List Str)} {i : Nat} (hi : i < L.length) : flD L i (L.getD i []).length = flD L (i + 1) 0 := by
  have h : L.take (i + 1) = L.take i ++ [L.getD i []] := by
    rw [List.take_add_one, List.getElem?_eq_getElem hi, List.getD_eq_getElem?_getD, List.getElem?_eq_getElem hi]; rfl
  unfold flD
  rw [List.take_length, h, List.flatten_append]
  simp
theorem fc_all1 (t : Tab) (h : t.2.length < 1000000000) : FC Tryz.prog 107 [.box (eTb t)] [] (.seq ((alF t).map eS)) := by
  refine fcy_M (fn := Tryz.f107) (C := (tab [(108, c_lists)] [])) mixed (by kernel_rfl) (by kernel_rfl) rfl rfl (by kernel_rfl) (by kernel_rfl) ?_
  have hlen : (t.1 :: t.2).length < 1000000001 := by simp; omega
  have hY : (alF t).map eS = (t.1 :: t.2).flatten.map eS := rfl
  generalize hY0 : (alF t).map eS = Y at hY
  unfold eTb
  simp +contextual (maxSteps := 5000000) only [go_sem, ↓reduceIte, c_lists, st_lists, dS_eS, dR_eR]
  refine ⟨h, ?_⟩
  have hl2 : t.2.length + 1 = (t.1 :: t.2).length := rfl
  generalize hL : t.1 :: t.2 = L at hlen hY hl2
  refine M_loopI (fun i : Nat => ⟨[(0, .yld 999), (11, .vec 11 L.length), (12, .int .i64 L.length), (13, .int .i64 i)], [(999, .yl Y ((flD L i 0).map eS) false), (11, .vec 22 1 (L.map eR) 0)]⟩) (fun i => L.length - i) (fun i => i ≤ L.length) 0 ?_ ?_
  · rw [← hL]
    simp +contextual (maxSteps := 5000000) only [go_sem, ↓reduceIte, flD]
    rfl
  intro i hi
  by_cases hlt : i < L.length
  · have hat := eR_at L i hlt
    simp +contextual (maxSteps := 5000000) only [go_sem, ↓reduceIte, hlt, hat]
    refine fun _ => M_loopI (fun p : Nat => ⟨[(0, .yld 999), (11, .vec 11 L.length), (12, .int .i64 L.length), (13, .int .i64 i), (17, .sl 1 ((L.getD i []).map eS)), (18, .int .i64 (L.getD i []).length), (19, .int .i64 p)], [(999, .yl Y ((flD L i p).map eS) false), (11, .vec 22 1 (L.map eR) 0)]⟩) (fun p => (L.getD i []).length - p) (fun p => p ≤ (L.getD i []).length) 0 ?_ ?_
    · simp +contextual (maxSteps := 5000000) only [go_sem, ↓reduceIte]
      rfl
    intro p hp
    by_cases hlp : p < (L.getD i []).length
    · have hap := eS_at (L.getD i []) p hlp
      obtain ⟨q1, q2⟩ := flD_step hlt hlp
      rw [← hY] at q1
      simp +contextual (maxSteps := 5000000) only [go_sem, ↓reduceIte, hlp, hap]
      exact ⟨q1, fun b hb => ⟨inR64 (by omega) (by omega), fun _ => ⟨p + 1, ⟨by simp, q2⟩, by omega, by omega⟩⟩⟩
    · obtain rfl : p = (L.getD i []).length := by omega
      simp +contextual (maxSteps := 5000000) only [go_sem, ↓reduceIte, hlp, Nat.lt_irrefl]
      have he := flD_end hlt
      exact ⟨inR64 (by omega) (by omega), fun _ => ⟨i + 1, ⟨by simp, by rw [he]⟩, by omega, by omega⟩⟩
  obtain rfl : i = L.length := by omega
  simp +contextual (maxSteps := 5000000) only [go_sem, ↓reduceIte, hlt, Nat.lt_irrefl]
  rw [hY]
  unfold flD
  simp
end Go.Proofs.YtknkjakppikjeaaGreat

set_option linter.unusedSimpArgs false
namespace Go.Proofs.YtknkjakppikjeaaGreat
open Go.Tn
set_option maxHeartbeats 8000000
set_option maxRecDepth 100000
structure okTb (t : Tab) : Prop where
  head : t.1.length < 2000000
  rows : t.2.length < 2000000
  texts : ((alF t).map List.length).sum < 2000000000
def c_all1 (t : Tab) (caps args : List D) : Prop × Out := match caps, args with
  | [.box cs], [] => (cs = eTb t ∧ t.2.length < 1000000000, .seq ((alF t).map eS))
  | _, _ => (False, .ret .any)
theorem st_all1 (t : Tab) : StC Tryz.prog 107 (c_all1 t) := by
  intro caps args; unfold c_all1; split
  · rintro ⟨rfl, h⟩; exact fc_all1 t h
  · exact fun h => h.elim
def c_all (caps args : List D) : Prop × Out := match caps, args with
  | [], [.agg cs] => (True, .ret (.fn 107 [] [.box cs]))
  | _, _ => (False, .ret .any)
theorem fc_all (t : Tab) : FC Tryz.prog 63 [] [.agg (eTb t)] (.ret (.fn 107 [] [.box (eTb t)])) := by
  refine fc_M (fn := Tryz.f63) (C := (tab [] [])) (rs := [2]) mixed (by kernel_rfl) (by kernel_rfl) rfl rfl (by kernel_rfl) (by intro ys h; cases h) ?_
  unfold eTb
  simp +contextual (maxSteps := 5000000) only [go_sem, ↓reduceIte]
def c_allT (t : Tab) (caps args : List D) : Prop × Out := match caps, args with
  | [], [x] => (x = .agg (eTb t), .ret (.fn 107 [] [.box (eTb t)]))
  | _, _ => (False, .ret .any)
theorem st_allT (t : Tab) : StC Tryz.prog 63 (c_allT t) := by
  intro caps args; unfold c_allT; split
  · rintro rfl; exact fc_all t
  · exact fun h => h.elim
def totF (l : List Str) : Nat := (l.map List.length).sum
theorem totF_take {l : List Str} {i : Nat} (h : i < l.length) : totF (l.take (i + 1)) = totF (l.take i) + (l.getD i []).length := by
  unfold totF
  have e : l.take (i + 1) = l.take i ++ [l.getD i []] := by
    rw [List.take_add_one, List.getElem?_eq_getElem h, List.getD_eq_getElem?_getD, List.getElem?_eq_getElem h]; rfl
  rw [e, List.map_append, List.sum_append]; rfl
theorem totF_le (l : List Str) (i : Nat) : totF (l.take i) ≤ totF l := by
  have : totF l = totF (l.take i) + totF (l.drop i) := by
    unfold totF
    rw [← List.sum_append, ← List.map_append, List.take_append_drop]
  omega
theorem fc_TTot (t : Tab) (h : okTb t) : FC Tryz.prog 64 [] [.agg (eTb t)] (.ret (.int .i64 (totF (alF t)))) := by
  have hs := st_allT t
  have hs1 := st_all1 t
  have htot : totF (alF t) < 2000000000 := h.texts
  have hro := h.rows
  refine fc_M (fn := Tryz.f64) (C := (tab [(63, c_allT t), (107, c_all1 t)] [])) (rs := [2]) mixed (by kernel_rfl) (by kernel_rfl) rfl rfl (by kernel_rfl) (by intro ys h; cases h) ?_
  unfold eTb
  simp +contextual (maxSteps := 5000000) only [go_sem, ↓reduceIte, c_allT, hs, eTb]
  refine M_range (f := 107) (caps := [.box (eTb t)]) (ys := (alF t).map eS) (pre := (c_all1 t [.box (eTb t)] []).1) ?_ ?_ ?_ (σ := Unit) [(3, .loc 3 0)] (fun j _ => [(3, .blk [.int .i64 (totF ((alF t).take j))] false)]) (fun j _ => j ≤ (alF t).length) () ?_ ?_ ?_ ?_
  · simp +contextual (maxSteps := 5000000) only [go_sem, ↓reduceIte, eTb]
  · simp +contextual (maxSteps := 5000000) only [go_sem, ↓reduceIte, c_all1, eTb]
  · simp +contextual (maxSteps := 5000000) only [go_sem, ↓reduceIte, c_all1, hs1, eTb]
    omega
  · simp +contextual (maxSteps := 5000000) only [go_sem, ↓reduceIte]
    intro y hy
    obtain ⟨x, _, rfl⟩ := List.mem_map.1 hy
    rfl
  · simp +contextual (maxSteps := 5000000) only [go_sem, ↓reduceIte]
    rfl
  · intro j _ hj hlt2
    have hlt3 : j < (alF t).length := by simpa using hlt2
    have hY : ((alF t).map eS).getD j [] = [.str ((alF t).getD j [])] := eS_at (alF t) j hlt3
    have hT := totF_take hlt3
    have hT2 := totF_le (alF t) (j + 1)
    rw [hY]
    simp +contextual (maxSteps := 5000000) only [go_sem, ↓reduceIte, putPs]
    exact fun _ => ⟨inR64 (by omega) (by omega), fun _ => ⟨(), by rw [hT]; omega, by omega⟩⟩
  · intro _ hs
    simp +contextual (maxSteps := 5000000) only [go_sem, ↓reduceIte, List.length_map, List.take_length]
def c_Total (t : Tab) (caps args : List D) : Prop × Out := match caps, args with
  | [], [x] => (x = .agg (eTb t), .ret (.int .i64 (totF (alF t))))
  | _, _ => (False, .ret .any)
theorem st_Total {t : Tab} (h : okTb t) : StC Tryz.prog 64 (c_Total t) := by
  intro caps args; unfold c_Total; split
  · rintro rfl; exact fc_TTot t h
  · exact fun h => h.elim
def tc4 (t : Tab) : Int := if 40 < t.1.length ∨ 400 < t.2.length then 7 else if ∃ s ∈ alF t, 1000 < s.length then 7 else if totF (alF t) ≤ 40000 then 0 else 7
theorem tfErrno4 : TyFact Tryz.prog 35 ⟨.int .i64, [.int .i64 0], [], 0, 0, false, 0, 8⟩ := by
  have hy : tyOf Tryz.prog 35 = ⟨.int .i64, [.int .i64 0], [], 0, 0, false, 0, 8⟩ := by kernel_rfl
  have h := tyOf_fact (P := Tryz.prog) (t := 35) (by rw [hy]; intro h; cases h)
  rwa [hy] at h
theorem fc_tc4 (t : Tab) (h : okTb t) : FC Tryz.prog 62 [.box (eTb t)] [] (.ret (.int .i64 (tc4 t))) := by
  have hs := st_allT t
  have hs1 := st_all1 t
  have hst := st_Total h
  have hro := h.rows
  refine fcc_of (fn := Tryz.f62) (rt := 35) (r := 1) (i := 1) (C := tab [(63, c_allT t), (107, c_all1 t), (64, c_Total t), (57, c_unless)] []) mixed (by kernel_rfl) (by kernel_rfl) rfl rfl tfErrno4 (by kernel_rfl) (by intro ys h; cases h) ?_
  by_cases c1 : 40 < t.1.length
  · have e : tc4 t = 7 := by unfold tc4; rw [if_pos (.inl c1)]
    have c1' : (40 : Int) < t.1.length := by omega
    rw [e]
    unfold eTb
    simp +contextual (maxSteps := 5000000) only [go_sem, ↓reduceIte, c1', finC, finCB, locR]
  by_cases c2 : 400 < t.2.length
  · have e : tc4 t = 7 := by unfold tc4; rw [if_pos (.inr c2)]
    have c1' : ¬ (40 : Int) < t.1.length := by omega
    have c2' : (400 : Int) < t.2.length := by omega
    rw [e]
    unfold eTb
    simp +contextual (maxSteps := 5000000) only [go_sem, ↓reduceIte, c1', c2', finC, finCB, locR]
  have e0 : tc4 t = if ∃ s ∈ alF t, 1000 < s.length then 7 else if totF (alF t) ≤ 40000 then 0 else 7 := by unfold tc4; rw [if_neg (by omega)]
  have c1' : ¬ (40 : Int) < t.1.length := by omega
  have c2' : ¬ (400 : Int) < t.2.length := by omega
  unfold eTb
  simp +contextual (maxSteps := 5000000) only [go_sem, ↓reduceIte, c1', c2', c_allT, hs, eTb]
  intro _ _
  refine M_range (f := 107) (caps := [.box (eTb t)]) (ys := (alF t).map eS) (pre := (c_all1 t [.box (eTb t)] []).1) ?_ ?_ ?_ (σ := Unit) [(0, .box (eTb t)), (1, .loc 1 0)] (fun j _ => [(1, .blk [.int .i64 0] false)]) (fun j _ => j ≤ (alF t).length ∧ ∀ k, k < j → ((alF t).getD k []).length ≤ 1000) () ?_ ?_ ?_ ?_
  · simp +contextual (maxSteps := 5000000) only [go_sem, ↓reduceIte, eTb]
  · simp +contextual (maxSteps := 5000000) only [go_sem, ↓reduceIte, c_all1, eTb]
  · simp +contextual (maxSteps := 5000000) only [go_sem, ↓reduceIte, c_all1, hs1, eTb]
    omega
  · simp +contextual (maxSteps := 5000000) only [go_sem, ↓reduceIte, eTb]
    intro y hy
    obtain ⟨x, _, rfl⟩ := List.mem_map.1 hy
    rfl
  · simp +contextual (maxSteps := 5000000) only [go_sem, ↓reduceIte, eTb]
  · intro j _ hj hlt2
    obtain ⟨hj, hm⟩ := hj
    have hlt3 : j < (alF t).length := by simpa using hlt2
    have hY : ((alF t).map eS).getD j [] = [.str ((alF t).getD j [])] := eS_at (alF t) j hlt3
    rw [hY]
    by_cases q : (1000 : Int) < (((alF t).getD j []).length : Nat)
    · simp +contextual (maxSteps := 5000000) only [go_sem, ↓reduceIte, putPs, q, finC, finCB, locR]
      refine fun _ => ?_
      rw [e0, if_pos ⟨_, getD_mem (d := ([] : Str)) hlt3, by omega⟩]
    · simp +contextual (maxSteps := 5000000) only [go_sem, ↓reduceIte, putPs, q]
      refine fun _ => ⟨(), by omega, fun k hk => ?_⟩
      rcases lt_cases hk with h | rfl
      · exact hm k h
      · omega
  · intro _ hs
    simp +contextual (maxSteps := 5000000) only [go_sem, ↓reduceIte, List.length_map, c_Total, hst, c_unless, st_unless, eTb, finC, finCB, locR]
    obtain ⟨_, hm⟩ := hs
    have hno : ¬ ∃ s ∈ alF t, 1000 < s.length := ?_
    · rw [e0, if_neg hno]
      congr 1; exact propext (by omega)
    rintro ⟨x, hx, hlen⟩
    obtain ⟨k, hk, e⟩ := List.getElem_of_mem hx
    have := hm k (by simpa using hk)
    rw [List.getD_eq_getElem?_getD, List.getElem?_eq_getElem hk, Option.getD_some, e] at this
    omega
def tchk (t : Tab) : Int := if tc1 t ≠ 0 then tc1 t else if tc2 t ≠ 0 then tc2 t else if tc3 t ≠ 0 then tc3 t else tc4 t
def c_t1 (t : Tab) (caps args : List D) : Prop × Out := match caps, args with | [.box cs], [] => (cs = eTb t, .ret (.int .i64 (tc1 t))) | _, _ => (False, .ret .any)
theorem st_t1 (t : Tab) : StC Tryz.prog 56 (c_t1 t) := by
  intro caps args; unfold c_t1; split
  · rintro rfl; exact fc_tc1 t
  · exact fun h => h.elim
def c_t2 (t : Tab) (caps args : List D) : Prop × Out := match caps, args with | [.box cs], [] => (cs = eTb t, .ret (.int .i64 (tc2 t))) | _, _ => (False, .ret .any)
theorem st_t2 {t : Tab} (h : okTb t) : StC Tryz.prog 58 (c_t2 t) := by
  intro caps args; unfold c_t2; split
  · rintro rfl; exact fc_tc2 t (by have := h.rows; omega)
  · exact fun h => h.elim
def c_t3 (t : Tab) (caps args : List D) : Prop × Out := match caps, args with | [.box cs], [] => (cs = eTb t, .ret (.int .i64 (tc3 t))) | _, _ => (False, .ret .any)
theorem st_t3 {t : Tab} (h : okTb t) : StC Tryz.prog 61 (c_t3 t) := by
  intro caps args; unfold c_t3; split
  · rintro rfl; exact fc_tc3 t (by have := h.head; omega)
  · exact fun h => h.elim
def c_t4 (t : Tab) (caps args : List D) : Prop × Out := match caps, args with | [.box cs], [] => (cs = eTb t, .ret (.int .i64 (tc4 t))) | _, _ => (False, .ret .any)
theorem st_t4 {t : Tab} (h : okTb t) : StC Tryz.prog 62 (c_t4 t) := by
  intro caps args; unfold c_t4; split
  · rintro rfl; exact fc_tc4 t h
  · exact fun h => h.elim
theorem fc_TCheck (t : Tab) (h : okTb t) : FC Tryz.prog 25 [] [.agg (eTb t)] (.ret (.int .i64 (tchk t))) := by
  have s1 := st_t1 t
  have s2 := st_t2 h
  have s3 := st_t3 h
  have s4 := st_t4 h
  refine fc_M (fn := Tryz.f25) (C := (tab [(56, c_t1 t), (58, c_t2 t), (61, c_t3 t), (62, c_t4 t)] [])) (rs := [2]) mixed (by kernel_rfl) (by kernel_rfl) rfl rfl (by kernel_rfl) (by intro ys h; cases h) ?_
  unfold eTb
  simp +contextual (maxSteps := 5000000) only [go_sem, ↓reduceIte]
  refine M_loopI (fun i : Nat => ⟨[(10, .vec 10 4), (11, .int .i64 4), (12, .int .i64 i)], [(10, .vec 78 1 [[.fn 56 [] [.box (eTb t)]], [.fn 58 [] [.box (eTb t)]], [.fn 61 [] [.box (eTb t)]], [.fn 62 [] [.box (eTb t)]]] 0)]⟩) (fun i => 4 - i) (fun i => i ≤ 4 ∧ (0 < i → tc1 t = 0) ∧ (1 < i → tc2 t = 0) ∧ (2 < i → tc3 t = 0) ∧ (3 < i → tc4 t = 0)) 0 ?_ ?_
  · simp +contextual (maxSteps := 5000000) only [go_sem, ↓reduceIte, eTb]
    exact ⟨rfl, rfl⟩
  intro i hi
  obtain ⟨hi, h1, h2, h3, h4⟩ := hi
  have z : i = 0 ∨ i = 1 ∨ i = 2 ∨ i = 3 ∨ i = 4 := by omega
  rcases z with rfl | rfl | rfl | rfl | rfl
  · by_cases q : tc1 t = 0
    · simp +contextual (maxSteps := 5000000) only [go_sem, ↓reduceIte, Int.reduceEq, Int.reduceNe, Int.reduceLT, Int.reduceLE, Int.reduceToNat, Int.cast_ofNat_Int, eTb, c_t1, s1, q]
      refine ⟨inR64 (by omega) (by omega), fun _ => ⟨1, by simp, by omega, by omega, ?_⟩⟩
      and_intros <;> intro _ <;> first | exact q | exact h1 (by omega) | exact h2 (by omega) | exact h3 (by omega) | omega
    · simp +contextual (maxSteps := 5000000) only [go_sem, ↓reduceIte, Int.reduceEq, Int.reduceNe, Int.reduceLT, Int.reduceLE, Int.reduceToNat, Int.cast_ofNat_Int, eTb, c_t1, s1, q]
      unfold tchk
      rw [if_pos q]
  · by_cases q : tc2 t = 0
    · simp +contextual (maxSteps := 5000000) only [go_sem, ↓reduceIte, Int.reduceEq, Int.reduceNe, Int.reduceLT, Int.reduceLE, Int.reduceToNat, Int.cast_ofNat_Int, eTb, c_t2, s2, q]
      refine ⟨inR64 (by omega) (by omega), fun _ => ⟨2, by simp, by omega, by omega, ?_⟩⟩
      and_intros <;> intro _ <;> first | exact q | exact h1 (by omega) | exact h2 (by omega) | exact h3 (by omega) | omega
    · simp +contextual (maxSteps := 5000000) only [go_sem, ↓reduceIte, Int.reduceEq, Int.reduceNe, Int.reduceLT, Int.reduceLE, Int.reduceToNat, Int.cast_ofNat_Int, eTb, c_t2, s2, q]
      unfold tchk
      rw [if_neg (fun h => h (h1 (by omega))), if_pos q]
  · by_cases q : tc3 t = 0
    · simp +contextual (maxSteps := 5000000) only [go_sem, ↓reduceIte, Int.reduceEq, Int.reduceNe, Int.reduceLT, Int.reduceLE, Int.reduceToNat, Int.cast_ofNat_Int, eTb, c_t3, s3, q]
      refine ⟨inR64 (by omega) (by omega), fun _ => ⟨3, by simp, by omega, by omega, ?_⟩⟩
      and_intros <;> intro _ <;> first | exact q | exact h1 (by omega) | exact h2 (by omega) | exact h3 (by omega) | omega
    · simp +contextual (maxSteps := 5000000) only [go_sem, ↓reduceIte, Int.reduceEq, Int.reduceNe, Int.reduceLT, Int.reduceLE, Int.reduceToNat, Int.cast_ofNat_Int, eTb, c_t3, s3, q]
      unfold tchk
      rw [if_neg (fun h => h (h1 (by omega))), if_neg (fun h => h (h2 (by omega))), if_pos q]
  · by_cases q : tc4 t = 0
    · simp +contextual (maxSteps := 5000000) only [go_sem, ↓reduceIte, Int.reduceEq, Int.reduceNe, Int.reduceLT, Int.reduceLE, Int.reduceToNat, Int.cast_ofNat_Int, eTb, c_t4, s4, q]
      refine ⟨inR64 (by omega) (by omega), fun _ => ⟨4, by simp, by omega, by omega, ?_⟩⟩
      and_intros <;> intro _ <;> first | exact q | exact h1 (by omega) | exact h2 (by omega) | exact h3 (by omega) | omega
    · simp +contextual (maxSteps := 5000000) only [go_sem, ↓reduceIte, Int.reduceEq, Int.reduceNe, Int.reduceLT, Int.reduceLE, Int.reduceToNat, Int.cast_ofNat_Int, eTb, c_t4, s4, q]
      unfold tchk
      rw [if_neg (fun h => h (h1 (by omega))), if_neg (fun h => h (h2 (by omega))), if_neg (fun h => h (h3 (by omega)))]
  · simp +contextual (maxSteps := 5000000) only [go_sem, ↓reduceIte, Int.reduceEq, Int.reduceNe, Int.reduceLT, Int.reduceLE, Int.reduceToNat, Int.cast_ofNat_Int]
    unfold tchk
    rw [if_neg (fun h => h (h1 (by omega))), if_neg (fun h => h (h2 (by omega))), if_neg (fun h => h (h3 (by omega))), h4 (by omega)]
end Go.Proofs.YtknkjakppikjeaaGreat

set_option linter.unusedSimpArgs false
namespace Go.Proofs.YtknkjakppikjeaaGreat
open Go.Tn
set_option maxHeartbeats 8000000
set_option maxRecDepth 100000
/- apply.Held -/
def c_EqT (caps args : List D) : Prop × Out := match caps, args with | [], [.sl 1 a, .sl 1 b] => (a = (a.map dS).map eS ∧ b = (b.map dS).map eS, .ret (.bool (decide (a.map dS = b.map dS)))) | _, _ => (False, .ret .any)
theorem st_EqT : StC Tryz.prog 36 c_EqT := by
  intro caps args; unfold c_EqT; split
  · rename_i a b
    rintro ⟨h1, h2⟩
    have := fc_EqualS (a.map dS) (b.map dS)
    rw [← h1, ← h2] at this
    exact this
  · exact fun h => h.elim
def c_Cell (t : Tab) (caps args : List D) : Prop × Out := match caps, args with | [], [x, .int .i64 r, .int .i64 c] => (x = .agg (eTb t), .ret (.str (cellF t r c))) | _, _ => (False, .ret .any)
theorem st_Cell (t : Tab) : StC Tryz.prog 38 (c_Cell t) := by
  intro caps args; unfold c_Cell; split
  · rintro rfl; exact fc_Cell t _ _
  · exact fun h => h.elim
def delF (t : Tab) (x : Ln) : Bool := decide (x.1 < 0) || decide ((t.2.length : Int) ≤ x.1) || decide (¬ t.2.getD x.1.toNat [] = x.2)
def setF (t : Tab) (x : St6) : Bool := decide (¬ cellF t x.i x.p = x.o)
def lostF (t : Tab) (x : Sp) : Bool := decide (¬ cellF t x.1 x.2.1 = x.2.2)
theorem fc_Held1 (t : Tab) (x : Ln) : FC Tryz.prog 35 [.box (eTb t)] [.agg (eL x)] (.ret (.bool (delF t x))) := by
  refine fc_M (fn := Tryz.f35) (C := (tab [(36, c_EqT)] [])) (rs := [3]) mixed (by kernel_rfl) (by kernel_rfl) rfl rfl (by kernel_rfl) (by intro ys h; cases h) ?_
  unfold eTb eL delF
  by_cases h0 : x.1 < 0
  · simp +contextual (maxSteps := 5000000) only [go_sem, ↓reduceIte, h0]
  by_cases h1 : (t.2.length : Int) ≤ x.1
  · simp +contextual (maxSteps := 5000000) only [go_sem, ↓reduceIte, h0, h1]
  obtain ⟨i, hx⟩ : ∃ i : Nat, x.1 = i := ⟨x.1.toNat, by omega⟩
  have hi : i < t.2.length := by omega
  rw [hx] at h0 h1
  have hat := eR_at t.2 i hi
  simp +contextual (maxSteps := 5000000) only [go_sem, ↓reduceIte, hx, h0, h1, hi, hat, c_EqT, st_EqT, dS_eS]
  by_cases e : t.2.getD i [] = x.2 <;> simp [e]
theorem fc_Held2 (t : Tab) (x : St6) : FC Tryz.prog 37 [.box (eTb t)] [.agg (eD6 x)] (.ret (.bool (setF t x))) := by
  have hs := st_Cell t
  refine fc_M (fn := Tryz.f37) (C := (tab [(38, c_Cell t)] [])) (rs := [3]) mixed (by kernel_rfl) (by kernel_rfl) rfl rfl (by kernel_rfl) (by intro ys h; cases h) ?_
  unfold eTb eD6 setF
  simp +contextual (maxSteps := 5000000) only [go_sem, ↓reduceIte, c_Cell, hs, eTb]
  by_cases e : cellF t x.i x.p = x.o <;> simp [e]
theorem fc_Held3 (t : Tab) (x : Sp) : FC Tryz.prog 39 [.box (eTb t)] [.agg (eSp x)] (.ret (.bool (lostF t x))) := by
  have hs := st_Cell t
  refine fc_M (fn := Tryz.f39) (C := (tab [(38, c_Cell t)] [])) (rs := [3]) mixed (by kernel_rfl) (by kernel_rfl) rfl rfl (by kernel_rfl) (by intro ys h; cases h) ?_
  unfold eTb eSp lostF
  simp +contextual (maxSteps := 5000000) only [go_sem, ↓reduceIte, c_Cell, hs, eTb]
  by_cases e : cellF t x.1 x.2.1 = x.2.2 <;> simp [e]
def heldF (t : Tab) (d : Dl) : Bool := !d.dels.any (delF t) && !d.sets.any (setF t) && !d.lost.any (lostF t)
theorem fc_Held (t : Tab) (d : Dl) (h : okDl d) : FC Tryz.prog 14 [] [.agg (eTb t), .agg (eDl d)] (.ret (.bool (heldF t d))) := by
  have q1 : ∀ x ∈ d.dels, FC Tryz.prog 35 [.box (eTb t)] [.agg (eL x)] (.ret (.bool (delF t x))) := fun x _ => fc_Held1 t x
  have q2 : ∀ x ∈ d.sets, FC Tryz.prog 37 [.box (eTb t)] [.agg (eD6 x)] (.ret (.bool (setF t x))) := fun x _ => fc_Held2 t x
  have q3 : ∀ x ∈ d.lost, FC Tryz.prog 39 [.box (eTb t)] [.agg (eSp x)] (.ret (.bool (lostF t x))) := fun x _ => fc_Held3 t x
  have l1 : d.dels.length < 1000000000 := by have := h.dels; omega
  have l2 : d.sets.length < 1000000000 := by have := h.sets; omega
  have l3 : d.lost.length < 1000000000 := by have := h.lost; omega
  have s1 := st_cnL (delF t)
  have s2 := st_cn6 (setF t)
  have s3 := st_cnSp (lostF t)
  refine fc_M (fn := Tryz.f14) (C := (tab [(40, c_cnL (delF t)), (41, c_cn6 (setF t)), (42, c_cnSp (lostF t))] [] [5003])) (rs := [4]) mixed (by kernel_rfl) (by kernel_rfl) rfl rfl (by kernel_rfl) (by intro ys h; cases h) ?_
  unfold eTb at q1 q2 q3
  unfold eTb eDl
  simp +contextual (maxSteps := 5000000) only [go_sem, ↓reduceIte]
  refine M_join (fun _ : Unit => ⟨[(2, .loc 2 0), (3, .loc 3 0), (5, .fn 35 [] [.loc 2 0]), (6, .fn 37 [] [.loc 2 0]), (7, .fn 39 [] [.loc 2 0])], [(2, .blk (eTb t) false), (3, .blk (eDl d) false)]⟩) (fun _ => True) ?_ ?_
  · simp +contextual (maxSteps := 5000000) only [go_sem, ↓reduceIte, eTb, eDl]
    exact ⟨(), trivial⟩
  intro _ _
  unfold eTb eDl heldF
  simp +contextual (maxSteps := 5000000) only [go_sem, ↓reduceIte, c_cnL, s1, c_cn6, s2, c_cnSp, s3, dL_eL, d6_eD6, dSp_eSp, cl_box, l1, l2, l3]
  exact ⟨q1, fun _ => ⟨q2, fun _ => q3⟩⟩
end Go.Proofs.YtknkjakppikjeaaGreat

set_option linter.unusedSimpArgs false
namespace Go.Proofs.YtknkjakppikjeaaGreat
open Go.Tn
set_option maxHeartbeats 8000000
set_option maxRecDepth 100000
/- tables alike -/
theorem fc_EqR (l k : List (List Str)) : FC Tryz.prog 55 [] [.sl 1 (l.map eR), .sl 1 (k.map eR), .fn 36 [] []] (.ret (.bool (decide (l = k)))) := by
  refine fc_M (fn := Tryz.f55) (C := (tab [(36, c_EqT)] [])) (rs := [6]) mixed (by kernel_rfl) (by kernel_rfl) rfl rfl (by kernel_rfl) (by intro ys h; cases h) ?_
  by_cases hlen : l.length = k.length
  · simp +contextual (maxSteps := 5000000) only [go_sem, ↓reduceIte, hlen]
    intro _
    refine M_loopI (fun i : Nat => ⟨[(0, .sl 1 (l.map eR)), (1, .sl 1 (k.map eR)), (2, .fn 36 [] []), (15, .sl 1 (l.map eR)), (16, .int .i64 k.length), (17, .int .i64 i)], []⟩) (fun i => l.length - i) (fun i => i ≤ l.length ∧ ∀ j, j < i → l.getD j [] = k.getD j []) 0 ?_ ?_
    · simp +contextual (maxSteps := 5000000) only [go_sem, ↓reduceIte]
      rfl
    · intro i hi
      obtain ⟨hi, ho⟩ := hi
      by_cases hlt : i < k.length
      · have ha := eR_at l i (by omega)
        have hb := eR_at k i hlt
        have hl2 : i < l.length := by omega
        generalize hx : l.getD i [] = x at ha
        generalize hy : k.getD i [] = y at hb
        by_cases q : x = y
        · subst q
          simp +contextual (maxSteps := 5000000) only [go_sem, ↓reduceIte, hlt, hl2, ha, hb, c_EqT, st_EqT, dS_eS, eq_self]
          refine ⟨inR64 (by omega) (by omega), fun _ => ⟨i + 1, by simp, by omega, by omega, fun j hj => ?_⟩⟩
          rcases lt_cases hj with h | rfl
          · exact ho j h
          · rw [hx, hy]
        · have hne : ¬ l = k := fun h => q (by rw [← hx, ← hy, h])
          have hd : decide (l = k) = false := decide_eq_false hne
          rw [hd]
          simp +contextual (maxSteps := 5000000) only [go_sem, ↓reduceIte, hlt, hl2, ha, hb, c_EqT, st_EqT, dS_eS, q]
      · have hd : decide (l = k) = true := decide_eq_true (eq_of_at [] hlen (fun j hj => ho j (by omega)))
        rw [hd]
        have hl3 : ¬ i < l.length := by omega
        simp +contextual (maxSteps := 5000000) only [go_sem, ↓reduceIte, hlt, hl3]
  · have hd : decide (l = k) = false := decide_eq_false (fun h => hlen (by rw [h]))
    rw [hd]
    simp +contextual (maxSteps := 5000000) only [go_sem, ↓reduceIte, hlen]
def c_EqR (caps args : List D) : Prop × Out := match caps, args with | [], [.sl 1 a, .sl 1 b, .fn g [] []] => (g = 36 ∧ a = (a.map dR).map eR ∧ b = (b.map dR).map eR, .ret (.bool (decide (a.map dR = b.map dR)))) | _, _ => (False, .ret .any)
theorem st_EqR : StC Tryz.prog 55 c_EqR := by
  intro caps args; unfold c_EqR; split
  · rename_i a b g
    rintro ⟨rfl, h1, h2⟩
    have := fc_EqR (a.map dR) (b.map dR)
    rw [← h1, ← h2] at this
    exact this
  · exact fun h => h.elim
def sameT (t u : Tab) : Bool := decide (t.1 = u.1) && decide (t.2 = u.2)
theorem sameT_iff (t u : Tab) : sameT t u = true ↔ t = u := by
  obtain ⟨a, b⟩ := t; obtain ⟨c, d⟩ := u
  simp [sameT]
theorem fc_TSame (t u : Tab) : FC Tryz.prog 17 [] [.agg (eTb t), .agg (eTb u)] (.ret (.bool (sameT t u))) := by
  refine fc_M (fn := Tryz.f17) (C := (tab [(36, c_EqT), (55, c_EqR)] [])) (rs := [4]) mixed (by kernel_rfl) (by kernel_rfl) rfl rfl (by kernel_rfl) (by intro ys h; cases h) ?_
  unfold eTb sameT
  by_cases q : t.1 = u.1
  · simp +contextual (maxSteps := 5000000) only [go_sem, ↓reduceIte, c_EqT, st_EqT, dS_eS, c_EqR, st_EqR, dR_eR, q]
  · simp +contextual (maxSteps := 5000000) only [go_sem, ↓reduceIte, c_EqT, st_EqT, dS_eS, q]
def c_RefS (caps args : List D) : Prop × Out := match caps, args with | [], [.sl 1 a, .sl 1 b] => (a = (a.map dS).map eS ∧ b = (b.map dS).map eS, .ret (.bool (decide (a.map dS = b.map dS)))) | _, _ => (False, .ret .any)
theorem st_RefS : StC Tryz.prog 28 c_RefS := by
  intro caps args; unfold c_RefS; split
  · rename_i a b
    rintro ⟨h1, h2⟩
    have := fc_RefS (a.map dS) (b.map dS)
    rw [← h1, ← h2] at this
    exact this
  · exact fun h => h.elim
theorem fc_RefR (l k : List (List Str)) : FC Tryz.prog 33 [] [.sl 1 (l.map eR), .sl 1 (k.map eR)] (.ret (.bool (decide (l = k)))) := by
  refine fc_M (fn := Tryz.f33) (C := (tab [(28, c_RefS)] [])) (rs := [4]) mixed (by kernel_rfl) (by kernel_rfl) rfl rfl (by kernel_rfl) (by intro ys h; cases h) ?_
  by_cases hlen : l.length = k.length
  · simp +contextual (maxSteps := 5000000) only [go_sem, ↓reduceIte, hlen]
    intro _
    refine M_loopI (fun i : Nat => ⟨[(0, .sl 1 (l.map eR)), (1, .sl 1 (k.map eR)), (5, .int .i64 i)], []⟩) (fun i => l.length - i) (fun i => i ≤ l.length ∧ ∀ j, j < i → l.getD j [] = k.getD j []) 0 ?_ ?_
    · simp +contextual (maxSteps := 5000000) only [go_sem, ↓reduceIte]
      rfl
    · intro i hi
      obtain ⟨hi, ho⟩ := hi
      by_cases hlt : i < k.length
      · have ha := eR_at l i (by omega)
        have hb := eR_at k i hlt
        have hl2 : i < l.length := by omega
        generalize hx : l.getD i [] = x at ha
        generalize hy : k.getD i [] = y at hb
        by_cases q : x = y
        · subst q
          simp +contextual (maxSteps := 5000000) only [go_sem, ↓reduceIte, hlt, hl2, ha, hb, c_RefS, st_RefS, dS_eS, eq_self]
          refine fun _ => ⟨inR64 (by omega) (by omega), fun _ => ⟨i + 1, by simp, by omega, by omega, fun j hj => ?_⟩⟩
          rcases lt_cases hj with h | rfl
          · exact ho j h
          · rw [hx, hy]
        · have hne : ¬ l = k := fun h => q (by rw [← hx, ← hy, h])
          have hd : decide (l = k) = false := decide_eq_false hne
          rw [hd]
          simp +contextual (maxSteps := 5000000) only [go_sem, ↓reduceIte, hlt, hl2, ha, hb, c_RefS, st_RefS, dS_eS, q]
      · have hd : decide (l = k) = true := decide_eq_true (eq_of_at [] hlen (fun j hj => ho j (by omega)))
        rw [hd]
        have hl3 : ¬ i < l.length := by omega
        simp +contextual (maxSteps := 5000000) only [go_sem, ↓reduceIte, hlt, hl3]
  · have hd : decide (l = k) = false := decide_eq_false (fun h => hlen (by rw [h]))
    rw [hd]
    simp +contextual (maxSteps := 5000000) only [go_sem, ↓reduceIte, hlen]
def c_RefR (caps args : List D) : Prop × Out := match caps, args with | [], [.sl 1 a, .sl 1 b] => (a = (a.map dR).map eR ∧ b = (b.map dR).map eR, .ret (.bool (decide (a.map dR = b.map dR)))) | _, _ => (False, .ret .any)
theorem st_RefR : StC Tryz.prog 33 c_RefR := by
  intro caps args; unfold c_RefR; split
  · rename_i a b
    rintro ⟨h1, h2⟩
    have := fc_RefR (a.map dR) (b.map dR)
    rw [← h1, ← h2] at this
    exact this
  · exact fun h => h.elim
theorem fc_rTSame (t u : Tab) : FC Tryz.prog 12 [] [.agg (eTb t), .agg (eTb u)] (.ret (.bool (sameT t u))) := by
  refine fc_M (fn := Tryz.f12) (C := (tab [(28, c_RefS), (33, c_RefR)] [] [5001, 5002])) (rs := [4]) mixed (by kernel_rfl) (by kernel_rfl) rfl rfl (by kernel_rfl) (by intro ys h; cases h) ?_
  unfold eTb
  simp +contextual (maxSteps := 5000000) only [go_sem, ↓reduceIte]
  refine M_join (fun _ : Unit => ⟨[(2, .loc 2 0), (3, .loc 3 0), (5, .bool (decide (t.1 = u.1)))], [(2, .blk (eTb t) false), (3, .blk (eTb u) false)]⟩) (fun _ => True) ?_ ?_
  · simp +contextual (maxSteps := 5000000) only [go_sem, ↓reduceIte, c_RefS, st_RefS, dS_eS, eTb]
    exact ⟨(), trivial⟩
  intro _ _
  unfold eTb
  simp +contextual (maxSteps := 5000000) only [go_sem, ↓reduceIte]
  refine M_join (fun _ : Unit => ⟨[(5, .bool (decide (t.1 = u.1))), (6, .bool (decide (t.2 = u.2)))], []⟩) (fun _ => True) ?_ ?_
  · simp +contextual (maxSteps := 5000000) only [go_sem, ↓reduceIte, c_RefR, st_RefR, dR_eR]
    exact ⟨(), trivial⟩
  intro _ _
  unfold sameT
  simp +contextual (maxSteps := 5000000) only [go_sem, ↓reduceIte]
end Go.Proofs.YtknkjakppikjeaaGreat

set_option linter.unusedSimpArgs false
namespace Go.Proofs.YtknkjakppikjeaaGreat
open Go.Tn
set_option maxHeartbeats 8000000
set_option maxRecDepth 100000
def c_TC (t : Tab) (caps args : List D) : Prop × Out := match caps, args with | [], [x] => (x = .agg (eTb t), .ret (.int .i64 (tchk t))) | _, _ => (False, .ret .any)
theorem st_TC {t : Tab} (h : okTb t) : StC Tryz.prog 25 (c_TC t) := by
  intro caps args; unfold c_TC; split
  · rintro rfl; exact fc_TCheck t h
  · exact fun h => h.elim
def c_DC (d : Dl) (caps args : List D) : Prop × Out := match caps, args with | [], [x] => (x = .agg (eDl d), .ret (.int .i64 (chkD d))) | _, _ => (False, .ret .any)
theorem st_DC {d : Dl} (h : okDl d) (h1 : d.na < 1000000000) (h2 : d.nb < 1000000000) : StC Tryz.prog 54 (c_DC d) := by
  intro caps args; unfold c_DC; split
  · rintro rfl; exact fc_DCheck d h h1 h2
  · exact fun h => h.elim
def c_Hd (t : Tab) (d : Dl) (caps args : List D) : Prop × Out := match caps, args with | [], [x, y] => (x = .agg (eTb t) ∧ y = .agg (eDl d), .ret (.bool (heldF t d))) | _, _ => (False, .ret .any)
theorem st_Hd {t : Tab} {d : Dl} (h : okDl d) : StC Tryz.prog 14 (c_Hd t d) := by
  intro caps args; unfold c_Hd; split
  · rintro ⟨rfl, rfl⟩; exact fc_Held t d h
  · exact fun h => h.elim
def wrongF (t : Tab) (d : Dl) : Int := if tchk t ≠ 0 then tchk t else if chkD d ≠ 0 then chkD d else if ¬ t.1 = d.A then 14 else if ¬ (t.2.length : Int) = d.na then 15 else if heldF t d = false then 16 else 0
structure okTD (t : Tab) (d : Dl) : Prop where
  tb : okTb t
  dl : okDl d
  na : d.na < 1000000000
  nb : d.nb < 1000000000
  cs : ∀ x ∈ d.dels ++ d.inss, x.2.length < 1000000000
theorem fc_wrong (t : Tab) (d : Dl) (h : okTD t d) : FC Tryz.prog 21 [] [.agg (eTb t), .agg (eDl d)] (.ret (.int .i64 (wrongF t d))) := by
  have s1 := st_TC h.tb
  have s2 := st_DC h.dl h.na h.nb
  have s3 := st_Hd (t := t) h.dl
  refine fc_M (fn := Tryz.f21) (C := (tab [(25, c_TC t), (54, c_DC d), (14, c_Hd t d), (36, c_EqT)] [] [5001, 5004])) (rs := [4]) mixed (by kernel_rfl) (by kernel_rfl) rfl rfl (by kernel_rfl) (by intro ys h; cases h) ?_
  unfold eTb eDl
  simp +contextual (maxSteps := 5000000) only [go_sem, ↓reduceIte]
  refine M_join (fun _ : Unit => ⟨[(2, .loc 2 0), (3, .loc 3 0), (5, .int .i64 (tchk t))], [(2, .blk (eTb t) false), (3, .blk (eDl d) false)]⟩) (fun _ => True) ?_ ?_
  · simp +contextual (maxSteps := 5000000) only [go_sem, ↓reduceIte, c_TC, s1, eTb, eDl]
    exact ⟨(), trivial⟩
  intro _ _
  unfold eTb eDl
  by_cases q1 : tchk t = 0
  · simp +contextual (maxSteps := 5000000) only [go_sem, ↓reduceIte, q1]
    refine M_join (fun _ : Unit => ⟨[(2, .loc 2 0), (3, .loc 3 0), (6, .int .i64 (chkD d))], [(2, .blk (eTb t) false), (3, .blk (eDl d) false)]⟩) (fun _ => True) ?_ ?_
    · simp +contextual (maxSteps := 5000000) only [go_sem, ↓reduceIte, c_DC, s2, eTb, eDl]
      exact ⟨(), trivial⟩
    intro _ _
    have e1 : wrongF t d = if chkD d ≠ 0 then chkD d else if ¬ t.1 = d.A then 14 else if ¬ (t.2.length : Int) = d.na then 15 else if heldF t d = false then 16 else 0 := by unfold wrongF; rw [if_neg (fun h => h q1)]
    rw [e1]
    unfold eTb eDl
    by_cases q2 : chkD d = 0
    · by_cases q3 : t.1 = d.A
      · by_cases q4 : (t.2.length : Int) = d.na
        · simp +contextual (maxSteps := 5000000) only [go_sem, ↓reduceIte, q2, q3, q4, c_EqT, st_EqT, dS_eS, c_Hd, s3, eTb, eDl]
        · simp +contextual (maxSteps := 5000000) only [go_sem, ↓reduceIte, q2, q3, q4, c_EqT, st_EqT, dS_eS]
      · simp +contextual (maxSteps := 5000000) only [go_sem, ↓reduceIte, q2, q3, c_EqT, st_EqT, dS_eS]
    · simp +contextual (maxSteps := 5000000) only [go_sem, ↓reduceIte, q2]
  · have e1 : wrongF t d = tchk t := by unfold wrongF; rw [if_pos q1]
    rw [e1]
    simp +contextual (maxSteps := 5000000) only [go_sem, ↓reduceIte, q1]
end Go.Proofs.YtknkjakppikjeaaGreat

set_option linter.unusedSimpArgs false
namespace Go.Proofs.YtknkjakppikjeaaGreat
open Go.Tn
set_option maxHeartbeats 8000000
set_option maxRecDepth 100000
abbrev MP := List ((Int × Int) × Str)
def gainM (l : List Sp) : MP := l.foldl (fun m x => gup m (x.1, x.2.1) x.2.2) []
def setM (m0 : MP) (l : List St6) : MP := l.foldl (fun m x => gup m (x.j, x.q) x.n) m0
def toldM (d : Dl) : MP := setM (gainM d.gain) d.sets
def fromM (l : List (Int × Int)) : List (Int × Int) := l.foldl (fun m p => mup m p.2 p.1) []
theorem gainM_take {l : List Sp} {i : Nat} (h : i < l.length) : gainM (l.take (i + 1)) = gup (gainM (l.take i)) ((l.getD i (0, 0, [])).1, (l.getD i (0, 0, [])).2.1) (l.getD i (0, 0, [])).2.2 := by
  have e : l.take (i + 1) = l.take i ++ [l.getD i (0, 0, [])] := by
    rw [List.take_add_one, List.getElem?_eq_getElem h, List.getD_eq_getElem?_getD, List.getElem?_eq_getElem h]; rfl
  unfold gainM
  rw [e, List.foldl_append]; rfl
theorem setM_take {m0 : MP} {l : List St6} {i : Nat} (h : i < l.length) : setM m0 (l.take (i + 1)) = gup (setM m0 (l.take i)) ((l.getD i default).j, (l.getD i default).q) (l.getD i default).n := by
  have e : l.take (i + 1) = l.take i ++ [l.getD i default] := by
    rw [List.take_add_one, List.getElem?_eq_getElem h, List.getD_eq_getElem?_getD, List.getElem?_eq_getElem h]; rfl
  unfold setM
  rw [e, List.foldl_append]; rfl
theorem fromM_take {l : List (Int × Int)} {i : Nat} (h : i < l.length) : fromM (l.take (i + 1)) = mup (fromM (l.take i)) (l.getD i (0, 0)).2 (l.getD i (0, 0)).1 := by
  have e : l.take (i + 1) = l.take i ++ [l.getD i (0, 0)] := by
    rw [List.take_add_one, List.getElem?_eq_getElem h, List.getD_eq_getElem?_getD, List.getElem?_eq_getElem h]; rfl
  unfold fromM
  rw [e, List.foldl_append]; rfl
def eMk (t : Tab) (d : Dl) : List D := [.sl 1 (t.1.map eS), .sl 1 (t.2.map eR), .sl 1 (d.A.map eS), .sl 1 (d.B.map eS), .sl 2 (d.cols.map eP), .int .i64 d.na, .int .i64 d.nb, .sl 2 (d.rows.map eP), .sl 2 (d.dels.map eL), .sl 2 (d.inss.map eL), .sl 6 (d.sets.map eD6), .sl 3 (d.lost.map eSp), .sl 3 (d.gain.map eSp), .mp ((toldM d).map kP) ((toldM d).map vP), .mp ((fromM d.cols).map kI) ((fromM d.cols).map vI)]
def eMl (t : Tab) (d : Dl) : List D := [.sl 1 (t.1.map eS), .sl 1 (t.2.map eR), .sl 1 (d.A.map eS), .sl 1 (d.B.map eS), .sl 2 (d.cols.map eP), .int .i64 d.na, .int .i64 d.nb, .sl 2 (d.rows.map eP), .sl 2 (d.dels.map eL), .sl 2 (d.inss.map eL), .sl 6 (d.sets.map eD6), .sl 3 (d.lost.map eSp), .sl 3 (d.gain.map eSp), .lmap 14, .lmap 15]
def eMz : List D := [.nil, .nil, .nil, .nil, .nil, .int .i64 0, .int .i64 0, .nil, .nil, .nil, .nil, .nil, .nil, .val (.map none), .val (.map none)]
theorem fc_made (t : Tab) (d : Dl) (h : okDl d) : FC Tryz.prog 22 [] [.agg (eTb t), .agg (eDl d)] (.ret (.agg (eMk t d))) := by
  obtain ⟨hA, hB, hco, hro, hde, hin, hse, hlo, hga, hce⟩ := h
  have hy : tyOf Tryz.prog 57 = ⟨.struct, [(.slice none 0 0), (.slice none 0 0), (.slice none 0 0), (.slice none 0 0), (.slice none 0 0), (.int .i64 0), (.int .i64 0), (.slice none 0 0), (.slice none 0 0), (.slice none 0 0), (.slice none 0 0), (.slice none 0 0), (.slice none 0 0), (.map none), (.map none)], [(0, 2, true), (2, 11, true), (13, 1, false), (14, 1, false)], 0, 0, false, 0, 296⟩ := by kernel_rfl
  have hf := tyOf_fact (P := Tryz.prog) (t := 57) (by rw [hy]; intro h; cases h)
  rw [hy] at hf
  refine fcc_of (fn := Tryz.f22) (rt := 57) (r := 4) (i := 4) (C := tab [] [] [5001]) mixed (by kernel_rfl) (by kernel_rfl) rfl rfl hf (by kernel_rfl) (by intro ys h; cases h) ?_
  unfold eTb eDl
  simp +contextual (maxSteps := 5000000) only [go_sem, ↓reduceIte]
  refine M_join (fun _ : Unit => ⟨[(3, .loc 3 0), (4, .loc 4 0), (5, .loc 5 0)], [(3, .blk (eDl d) false), (4, .blk eMz false), (5, .blk (eMl t d) false), (14, .mp [] [] false), (15, .mp [] [] false)]⟩) (fun _ => True) ?_ ?_
  · simp +contextual (maxSteps := 5000000) only [go_sem, ↓reduceIte, eDl, eMz, eMl]
    exact ⟨(), trivial⟩
  intro _ _
  unfold eDl
  simp +contextual (maxSteps := 5000000) only [go_sem, ↓reduceIte]
  refine fun _ => M_loopI (fun i : Nat => ⟨[(3, .loc 3 0), (4, .loc 4 0), (5, .loc 5 0), (18, .sl 3 (d.gain.map eSp)), (19, .int .i64 d.gain.length), (20, .int .i64 i)], [(3, .blk (eDl d) false), (4, .blk eMz false), (5, .blk (eMl t d) false), (14, .mp ((gainM (d.gain.take i)).map kP) ((gainM (d.gain.take i)).map vP) false), (15, .mp [] [] false)]⟩) (fun i => d.gain.length - i) (fun i => i ≤ d.gain.length) 0 ?_ ?_
  · simp +contextual (maxSteps := 5000000) only [go_sem, ↓reduceIte, eDl, eMz, eMl, gainM, List.foldl_nil]
    rfl
  intro i hi
  by_cases hlt : i < d.gain.length
  · have hat := eSp_at d.gain i hlt
    have ht := gainM_take hlt
    simp +contextual (maxSteps := 5000000) only [go_sem, ↓reduceIte, hlt, hat, eDl, eMz, eMl]
    exact ⟨inR64 (by omega) (by omega), fun _ => ⟨i + 1, ⟨by simp, by rw [ht], by rw [ht]⟩, by omega, by omega⟩⟩
  obtain rfl : i = d.gain.length := by omega
  simp +contextual (maxSteps := 5000000) only [go_sem, ↓reduceIte, hlt, Nat.lt_irrefl, List.take_length, eDl, eMz, eMl]
  clear hlt hi
  refine fun _ => M_loopI (fun i : Nat => ⟨[(3, .loc 3 0), (4, .loc 4 0), (5, .loc 5 0), (35, .sl 6 (d.sets.map eD6)), (36, .int .i64 d.sets.length), (37, .int .i64 i)], [(3, .blk (eDl d) false), (4, .blk eMz false), (5, .blk (eMl t d) false), (14, .mp ((setM (gainM d.gain) (d.sets.take i)).map kP) ((setM (gainM d.gain) (d.sets.take i)).map vP) false), (15, .mp [] [] false)]⟩) (fun i => d.sets.length - i) (fun i => i ≤ d.sets.length) 0 ?_ ?_
  · simp +contextual (maxSteps := 5000000) only [go_sem, ↓reduceIte, eDl, eMz, eMl, setM, List.foldl_nil]
    rfl
  intro i hi
  by_cases hlt : i < d.sets.length
  · have hat := eD6_at d.sets i hlt
    have ht := setM_take (m0 := gainM d.gain) hlt
    simp +contextual (maxSteps := 5000000) only [go_sem, ↓reduceIte, hlt, hat, eDl, eMz, eMl]
    exact ⟨inR64 (by omega) (by omega), fun _ => ⟨i + 1, ⟨by simp, by rw [ht], by rw [ht]⟩, by omega, by omega⟩⟩
  obtain rfl : i = d.sets.length := by omega
  simp +contextual (maxSteps := 5000000) only [go_sem, ↓reduceIte, hlt, Nat.lt_irrefl, List.take_length, eDl, eMz, eMl]
  clear hlt hi
  have hT : setM (gainM d.gain) d.sets = toldM d := rfl
  rw [hT]
  refine fun _ => M_loopI (fun i : Nat => ⟨[(4, .loc 4 0), (5, .loc 5 0), (52, .sl 2 (d.cols.map eP)), (53, .int .i64 d.cols.length), (54, .int .i64 i)], [(4, .blk eMz false), (5, .blk (eMl t d) false), (14, .mp ((toldM d).map kP) ((toldM d).map vP) false), (15, .mp ((fromM (d.cols.take i)).map kI) ((fromM (d.cols.take i)).map vI) false)]⟩) (fun i => d.cols.length - i) (fun i => i ≤ d.cols.length) 0 ?_ ?_
  · simp +contextual (maxSteps := 5000000) only [go_sem, ↓reduceIte, eDl, eMz, eMl, fromM, List.foldl_nil]
    rfl
  intro i hi
  by_cases hlt : i < d.cols.length
  · have hat := eP_at d.cols i hlt
    have ht := fromM_take hlt
    simp +contextual (maxSteps := 5000000) only [go_sem, ↓reduceIte, hlt, hat, eMz, eMl]
    exact ⟨inR64 (by omega) (by omega), fun _ => ⟨i + 1, ⟨by simp, by rw [ht], by rw [ht]⟩, by omega, by omega⟩⟩
  obtain rfl : i = d.cols.length := by omega
  unfold eMk
  simp +contextual (maxSteps := 5000000) only [go_sem, ↓reduceIte, hlt, Nat.lt_irrefl, List.take_length, eMz, eMl, finC, finCB, locR]
end Go.Proofs.YtknkjakppikjeaaGreat

set_option linter.unusedSimpArgs false
namespace Go.Proofs.YtknkjakppikjeaaGreat
open Go.Tn
set_option maxHeartbeats 8000000
set_option maxRecDepth 100000
/- a new row -/
def hasM (m : MP) (k q : Int) : Bool := m.any fun x => decide (x.1 = (k, q))
def ceF (t : Tab) (m : MP) (fr : List (Int × Int)) (i k : Int) (q : Int) : Str := if hasM m k q = true then glk [] m (k, q) else cellF t i (mlk fr q)
def rowF (t : Tab) (m : MP) (fr : List (Int × Int)) (n : Nat) (i k : Int) : List Str := (List.range n).map fun q : Nat => ceF t m fr i k q
theorem eS_set (l : List Str) (i : Nat) (s : Str) : (l.map eS).set i [.str s] = (l.set i s).map eS := by rw [List.map_set]; rfl
def mixR (R : List Str) (n q : Nat) : List Str := R.take q ++ List.replicate (n - q) []
theorem mixR_set {R : List Str} {n q : Nat} (hR : R.length = n) (h : q < n) : (mixR R n q).set q (R.getD q []) = mixR R n (q + 1) := by
  unfold mixR
  obtain ⟨m, hm⟩ : ∃ m, n - q = m + 1 := ⟨n - q - 1, by omega⟩
  have h2 : n - (q + 1) = m := by omega
  have hl : (R.take q).length = q := by rw [List.length_take]; omega
  rw [hm, h2, List.replicate_succ, List.set_append_right _ _ (by omega), hl, Nat.sub_self, List.set_cons_zero]
  have e : R.take (q + 1) = R.take q ++ [R.getD q []] := by
    rw [List.take_add_one, List.getElem?_eq_getElem (by omega), List.getD_eq_getElem?_getD, List.getElem?_eq_getElem (by omega)]; rfl
  rw [e, List.append_assoc]; rfl
theorem mixR_len {R : List Str} {n q : Nat} (hR : R.length = n) (h : q ≤ n) : (mixR R n q).length = n := by
  unfold mixR
  rw [List.length_append, List.length_take, List.length_replicate]; omega
theorem fc_row (t : Tab) (d : Dl) (h : okDl d) (i k : Int) : FC Tryz.prog 24 [] [.agg (eMk t d), .int .i64 i, .int .i64 k] (.own 9 1 ((rowF t (toldM d) (fromM d.cols) d.B.length i k).map eS)) := by
  have hB := h.B
  have hs := st_Cell t
  refine fc_M (fn := Tryz.f24) (C := (tab [(38, c_Cell t)] [] [5001])) (rs := [6]) mixed (by kernel_rfl) (by kernel_rfl) rfl rfl (by kernel_rfl) (by intro ys h; cases h) ?_
  unfold eMk
  simp +contextual (maxSteps := 5000000) only [go_sem, ↓reduceIte]
  refine M_join (fun _ : Unit => ⟨[(1, .int .i64 i), (2, .int .i64 k), (3, .loc 3 0), (7, .vec 15 d.B.length)], [(3, .blk (eMk t d) false), (15, .vec 9 1 (List.replicate d.B.length [.str []]) 0)]⟩) (fun _ => True) ?_ ?_
  · simp +contextual (maxSteps := 5000000) only [go_sem, ↓reduceIte, eMk]
    exact fun _ => ⟨by omega, fun _ => ⟨(), trivial⟩⟩
  intro _ _
  unfold eMk
  simp +contextual (maxSteps := 5000000) only [go_sem, ↓reduceIte]
  generalize hn : d.B.length = n at hB
  generalize hR : rowF t (toldM d) (fromM d.cols) n i k = R
  have hRl : R.length = n := by rw [← hR]; simp [rowF]
  have hRq : ∀ q, q < n → R.getD q [] = ceF t (toldM d) (fromM d.cols) i k q := fun q hq => by
    rw [← hR, List.getD_eq_getElem?_getD]
    unfold rowF
    rw [List.getElem?_map, List.getElem?_range hq]; rfl
  have hz : List.replicate n [D.str []] = (mixR R n 0).map eS := by
    unfold mixR
    rw [List.map_append, List.map_replicate]; simp [eS]
  rw [hz]
  clear hz hR
  refine M_loopI (fun q : Nat => ⟨[(1, .int .i64 i), (2, .int .i64 k), (3, .loc 3 0), (7, .vec 15 n), (17, .int .i64 n), (18, .int .i64 q)], [(3, .blk (eMk t d) false), (15, .vec 9 1 ((mixR R n q).map eS) 0)]⟩) (fun q => n - q) (fun q => q ≤ n) 0 ?_ ?_
  · simp +contextual (maxSteps := 5000000) only [go_sem, ↓reduceIte, eMk]
    rfl
  intro q hq
  have hml := mixR_len hRl hq
  by_cases hlt : q < n
  · have hset := mixR_set hRl hlt
    rw [hRq q hlt] at hset
    unfold ceF hasM at hset
    have hat := eS_at (mixR R n q) q (by omega)
    cases hb : ((toldM d).any fun x => decide (x.1 = (k, (q : Int)))) with
    | true =>
      rw [hb, if_pos rfl] at hset
      simp +contextual (maxSteps := 5000000) only [go_sem, ↓reduceIte, hlt, eMk, hb, eS_set, hat]
      exact ⟨hml, fun _ => ⟨hq, fun _ => ⟨inR64 (by omega) (by omega), fun _ => ⟨q + 1, ⟨by simp, by rw [hset]⟩, by omega, by omega⟩⟩⟩⟩
    | false =>
      rw [hb, if_neg (by simp)] at hset
      simp +contextual (maxSteps := 5000000) only [go_sem, ↓reduceIte, hlt, eMk, hb, eS_set, c_Cell, hs, eTb, hat]
      exact ⟨hml, fun _ => ⟨hq, fun _ => ⟨inR64 (by omega) (by omega), fun _ => ⟨q + 1, ⟨by simp, by rw [hset]⟩, by omega, by omega⟩⟩⟩⟩
  · obtain rfl : q = n := by omega
    simp +contextual (maxSteps := 5000000) only [go_sem, ↓reduceIte, hlt, Nat.lt_irrefl]
    have e : mixR R q q = R := by unfold mixR; rw [Nat.sub_self, List.take_of_length_le (by omega)]; simp
    rw [e]
    exact ⟨rfl, hRl⟩
end Go.Proofs.YtknkjakppikjeaaGreat
