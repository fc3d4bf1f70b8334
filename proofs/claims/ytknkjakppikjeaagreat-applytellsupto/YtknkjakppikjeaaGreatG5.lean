/-
  What the functions compute that the law of this claim reaches. By an AI agent.
-/
import Derived.Test.YtknkjakppikjeaaGreatG4
set_option linter.unusedSimpArgs false
set_option linter.unusedVariables false

set_option linter.unusedSimpArgs false
namespace Go.Proofs.YtknkjakppikjeaaGreat
open Go.Tn
set_option maxHeartbeats 8000000
set_option maxRecDepth 100000
theorem mem_at {α : Type} {l : List α} {d x : α} {p : α → Prop} (h : ∀ j, j < l.length → p (l.getD j d)) (hx : x ∈ l) : p x := by
  obtain ⟨k, hk, rfl⟩ := List.getElem_of_mem hx
  have := h k hk
  rwa [List.getD_eq_getElem?_getD, List.getElem?_eq_getElem hk, Option.getD_some] at this
theorem fc_rcell17 (t : Tab) (d : Dl) (g : OkD d) (i k : Int) (q : Nat) (hp : (i, k) ∈ d.rows) (hq : q < d.B.length) : FC Tryz.prog 75 [] [.agg (eTb t), .agg (eDl d), .int .i64 i, .int .i64 k, .int .i64 q] (.ret (.str (ceF t (toldM d) (fromM d.cols) i k q))) := by
  have hsC := st_rCl t
  have kg : ∀ x ∈ d.gain, x.1 = k → x.2.1 = q → ceF t (toldM d) (fromM d.cols) i k q = x.2.2 := fun x hx a b => by
    have := g.told_gain hx
    rw [a, b] at this
    exact ce_some this
  have ks : ∀ x ∈ d.sets, x.j = k → x.q = q → ceF t (toldM d) (fromM d.cols) i k q = x.n := fun x hx a b => by
    have := g.told_set hx
    rw [a, b] at this
    exact ce_some this
  have kc : (∀ s ∈ d.sets, keyS s ≠ (k, (q : Int))) → (∀ x ∈ d.gain, (x.1, x.2.1) ≠ (k, (q : Int))) → ∀ x ∈ d.cols, x.2 = q → ceF t (toldM d) (fromM d.cols) i k q = cellF t i x.1 := fun h1 h2 x hx a => by
    rw [ce_none (told_none h1 h2), ← a, g.from_col hx]
  have k0 : (∀ x ∈ d.gain, (x.1, x.2.1) ≠ (k, (q : Int))) → (∀ x ∈ d.cols, x.2 ≠ q) → False := fun h2 h => by
    have hn : (q : Int) ∈ newC d := mem_rsL.2 ⟨⟨by omega, by omega⟩, fun hm => by
      obtain ⟨x, hx, e⟩ := List.mem_map.1 hm
      exact h x hx e⟩
    obtain ⟨x, hx, e⟩ := g.gainE hp hn
    exact h2 x hx e
  generalize ceF t (toldM d) (fromM d.cols) i k q = E at kg ks kc ⊢
  refine fc_M (fn := Tryz.f75) (C := (tab [(34, c_rCl t)] [] [])) (rs := [10]) mixed (by kernel_rfl) (by kernel_rfl) rfl rfl (by kernel_rfl) (by intro ys h; cases h) ?_
  unfold eTb eDl
  simp +contextual (maxSteps := 5000000) only [go_sem, ↓reduceIte]
  refine M_loopI (fun n : Nat => ⟨[(2, .int .i64 i), (3, .int .i64 k), (4, .int .i64 q), (5, .loc 5 0), (6, .loc 6 0), (11, .int .i64 n)], [(5, .blk (eTb t) false), (6, .blk (eDl d) false)]⟩) (fun n => d.gain.length - n) (fun n => n ≤ d.gain.length ∧ ∀ j, j < n → ((d.gain.getD j (0, 0, [])).1, (d.gain.getD j (0, 0, [])).2.1) ≠ (k, (q : Int))) 0 ?_ ?_
  · simp +contextual (maxSteps := 5000000) only [go_sem, ↓reduceIte, eTb, eDl]
    rfl
  rintro n ⟨hn, hf⟩
  by_cases hlt : n < d.gain.length
  · have hat := eSp_at d.gain n hlt
    have kx := kg _ (getD_mem (d := ((0 : Int), (0 : Int), ([] : Str))) hlt)
    have hnx : ((d.gain.getD n (0, 0, [])).1, (d.gain.getD n (0, 0, [])).2.1) ≠ (k, (q : Int)) → ∀ j, j < n + 1 → ((d.gain.getD j (0, 0, [])).1, (d.gain.getD j (0, 0, [])).2.1) ≠ (k, (q : Int)) := fun h j hj => by
      rcases lt_cases hj with h' | rfl
      · exact hf j h'
      · exact h
    generalize d.gain.getD n ((0 : Int), (0 : Int), ([] : Str)) = x at hat kx hnx
    unfold eTb eDl
    by_cases h0 : x.1 = k
    · by_cases h1 : x.2.1 = q
      · obtain rfl := kx h0 h1
        simp +contextual (maxSteps := 5000000) only [go_sem, ↓reduceIte, hlt, hat, h0, h1]
      · have hnx := hnx (fun e => h1 (Prod.mk.inj e).2)
        simp +contextual (maxSteps := 5000000) only [go_sem, ↓reduceIte, hlt, hat, h0, h1]
        exact fun _ => ⟨inR64 (by omega) (by omega), fun _ => ⟨n + 1, by simp, by omega, by omega, hnx⟩⟩
    · have hnx := hnx (fun e => h0 (Prod.mk.inj e).1)
      simp +contextual (maxSteps := 5000000) only [go_sem, ↓reduceIte, hlt, hat, h0]
      exact fun _ => ⟨inR64 (by omega) (by omega), fun _ => ⟨n + 1, by simp, by omega, by omega, hnx⟩⟩
  have hG : ∀ x ∈ d.gain, (x.1, x.2.1) ≠ (k, (q : Int)) := fun x hx => mem_at (d := ((0 : Int), (0 : Int), ([] : Str))) (p := fun x => (x.1, x.2.1) ≠ (k, (q : Int))) (fun j hj => hf j (by omega)) hx
  clear kg hf hn
  unfold eTb eDl
  simp +contextual (maxSteps := 5000000) only [go_sem, ↓reduceIte, hlt]
  clear hlt
  refine fun _ => M_loopI (fun n : Nat => ⟨[(2, .int .i64 i), (3, .int .i64 k), (4, .int .i64 q), (5, .loc 5 0), (6, .loc 6 0), (12, .int .i64 n)], [(5, .blk (eTb t) false), (6, .blk (eDl d) false)]⟩) (fun n => d.sets.length - n) (fun n => n ≤ d.sets.length ∧ ∀ j, j < n → keyS (d.sets.getD j default) ≠ (k, (q : Int))) 0 ?_ ?_
  · simp +contextual (maxSteps := 5000000) only [go_sem, ↓reduceIte, eTb, eDl]
    rfl
  rintro n ⟨hn, hf⟩
  by_cases hlt : n < d.sets.length
  · have hat := eD6_at d.sets n hlt
    have kx := ks _ (getD_mem (d := default) hlt)
    have hnx : keyS (d.sets.getD n default) ≠ (k, (q : Int)) → ∀ j, j < n + 1 → keyS (d.sets.getD j default) ≠ (k, (q : Int)) := fun h j hj => by
      rcases lt_cases hj with h' | rfl
      · exact hf j h'
      · exact h
    generalize d.sets.getD n default = x at hat kx hnx
    unfold eTb eDl
    by_cases h0 : x.j = k
    · by_cases h1 : x.q = q
      · obtain rfl := kx h0 h1
        simp +contextual (maxSteps := 5000000) only [go_sem, ↓reduceIte, hlt, hat, h0, h1]
      · have hnx := hnx (fun e => h1 (Prod.mk.inj e).2)
        simp +contextual (maxSteps := 5000000) only [go_sem, ↓reduceIte, hlt, hat, h0, h1]
        exact fun _ => ⟨inR64 (by omega) (by omega), fun _ => ⟨n + 1, by simp, by omega, by omega, hnx⟩⟩
    · have hnx := hnx (fun e => h0 (Prod.mk.inj e).1)
      simp +contextual (maxSteps := 5000000) only [go_sem, ↓reduceIte, hlt, hat, h0]
      exact fun _ => ⟨inR64 (by omega) (by omega), fun _ => ⟨n + 1, by simp, by omega, by omega, hnx⟩⟩
  have hS : ∀ x ∈ d.sets, keyS x ≠ (k, (q : Int)) := fun x hx => mem_at (d := default) (p := fun x => keyS x ≠ (k, (q : Int))) (fun j hj => hf j (by omega)) hx
  clear ks hf hn
  have kc := kc hS hG
  have k0 := k0 hG
  unfold eTb eDl
  simp +contextual (maxSteps := 5000000) only [go_sem, ↓reduceIte, hlt]
  clear hlt
  refine fun _ => M_loopI (fun n : Nat => ⟨[(2, .int .i64 i), (3, .int .i64 k), (4, .int .i64 q), (5, .loc 5 0), (6, .loc 6 0), (13, .int .i64 n)], [(5, .blk (eTb t) false), (6, .blk (eDl d) false)]⟩) (fun n => d.cols.length - n) (fun n => n ≤ d.cols.length ∧ ∀ j, j < n → (d.cols.getD j (0, 0)).2 ≠ (q : Int)) 0 ?_ ?_
  · simp +contextual (maxSteps := 5000000) only [go_sem, ↓reduceIte, eTb, eDl]
    rfl
  rintro n ⟨hn, hf⟩
  by_cases hlt : n < d.cols.length
  · have hat := eP_at d.cols n hlt
    have kx := kc _ (getD_mem (d := ((0 : Int), (0 : Int))) hlt)
    have hnx : (d.cols.getD n (0, 0)).2 ≠ (q : Int) → ∀ j, j < n + 1 → (d.cols.getD j (0, 0)).2 ≠ (q : Int) := fun h j hj => by
      rcases lt_cases hj with h' | rfl
      · exact hf j h'
      · exact h
    generalize d.cols.getD n ((0 : Int), (0 : Int)) = x at hat kx hnx
    unfold eTb eDl
    by_cases h1 : x.2 = q
    · obtain rfl := kx h1
      simp +contextual (maxSteps := 5000000) only [go_sem, ↓reduceIte, hlt, hat, h1, c_rCl, hsC]
      exact fun _ => rfl
    · have hnx := hnx h1
      simp +contextual (maxSteps := 5000000) only [go_sem, ↓reduceIte, hlt, hat, h1, c_rCl, hsC]
      exact fun _ => ⟨inR64 (by omega) (by omega), fun _ => ⟨n + 1, by simp, by omega, by omega, hnx⟩⟩
  exact (k0 fun x hx => mem_at (d := ((0 : Int), (0 : Int))) (p := fun x : Int × Int => x.2 ≠ (q : Int)) (fun j hj => hf j (by omega)) hx).elim
end Go.Proofs.YtknkjakppikjeaaGreat

set_option linter.unusedSimpArgs false
namespace Go.Proofs.YtknkjakppikjeaaGreat
open Go.Tn
set_option maxHeartbeats 8000000
set_option maxRecDepth 100000
def c_rc17 (t : Tab) (d : Dl) (caps args : List D) : Prop × Out := match caps, args with | [], [x, y, .int .i64 i, .int .i64 k, .int .i64 q] => (x = .agg (eTb t) ∧ y = .agg (eDl d) ∧ (i, k) ∈ d.rows ∧ 0 ≤ q ∧ q < d.B.length, .ret (.str (ceF t (toldM d) (fromM d.cols) i k q))) | _, _ => (False, .ret .any)
theorem st_rc17 {t : Tab} {d : Dl} (g : OkD d) : StC Tryz.prog 75 (c_rc17 t d) := by
  intro caps args; unfold c_rc17; split
  · rename_i x y i k q
    rintro ⟨rfl, rfl, hp, h0, h1⟩
    obtain ⟨n, rfl⟩ : ∃ n : Nat, q = n := ⟨q.toNat, by omega⟩
    exact fc_rcell17 t d g i k n hp (by omega)
  · exact fun h => h.elim
def accN (d : Dl) (k : Int) (R : List Str) (n : Nat) : List Str := if k ∈ (d.rows.take n).map (·.2) then R else []
theorem take_at {l : List Str} {i : Nat} (h : i < l.length) : l.take (i + 1) = l.take i ++ [l.getD i []] := by
  rw [List.take_add_one, List.getElem?_eq_getElem h, List.getD_eq_getElem?_getD, List.getElem?_eq_getElem h]; rfl
theorem fc_rrow (t : Tab) (d : Dl) (g : OkD d) (k : Nat) (hk : k < d.nb.toNat) (hB : d.B.length < 1000000000) : FC Tryz.prog 29 [] [.agg (eTb t), .agg (eDl d), .int .i64 k] (.ret (.sl 1 (((resT t d).2.getD k []).map eS))) := by
  have hsC := st_rc17 (t := t) g
  have ki : ∀ x ∈ d.inss, x.1 = k → (resT t d).2.getD k [] = x.2 := fun x hx e => by
    have := g.ins_at t hx
    rw [e, Int.toNat_natCast] at this
    rw [List.getD_eq_getElem?_getD, this]; rfl
  have kr : ∀ p ∈ d.rows, p.2 = k → (resT t d).2.getD k [] = nrow t d p.1 k := fun p hp e => by
    have := g.row_at t hp
    rw [e, Int.toNat_natCast] at this
    rw [List.getD_eq_getElem?_getD, this]; rfl
  have k0 : (∀ x ∈ d.inss, x.1 ≠ k) → ∃ i, (i, (k : Int)) ∈ d.rows := fun h => by
    by_cases hm : (k : Int) ∈ d.rows.map (·.2)
    · obtain ⟨p, hp, e⟩ := List.mem_map.1 hm
      exact ⟨p.1, by rw [← e]; exact hp⟩
    · have hn : (k : Int) ∈ newR' d := mem_rsL.2 ⟨⟨by omega, by omega⟩, hm⟩
      rw [← g.insK] at hn
      obtain ⟨x, hx, e⟩ := List.mem_map.1 hn
      exact absurd e (h x hx)
  generalize (resT t d).2.getD k [] = R at ki kr ⊢
  refine fc_M (fn := Tryz.f29) (C := (tab [(75, c_rc17 t d)] [] [])) (rs := [6]) mixed (by kernel_rfl) (by kernel_rfl) rfl rfl (by kernel_rfl) (by intro ys h; cases h) ?_
  unfold eTb eDl
  simp +contextual (maxSteps := 5000000) only [go_sem, ↓reduceIte]
  refine M_loopI (fun n : Nat => ⟨[(2, .int .i64 k), (3, .loc 3 0), (4, .loc 4 0), (7, .int .i64 n)], [(3, .blk (eTb t) false), (4, .blk (eDl d) false)]⟩) (fun n => d.inss.length - n) (fun n => n ≤ d.inss.length ∧ ∀ j, j < n → (d.inss.getD j (0, [])).1 ≠ (k : Int)) 0 ?_ ?_
  · simp +contextual (maxSteps := 5000000) only [go_sem, ↓reduceIte, eTb, eDl]
    rfl
  rintro n ⟨hn, hf⟩
  by_cases hlt : n < d.inss.length
  · have hat := eL_at d.inss n hlt
    have kx := ki _ (getD_mem (d := ((0 : Int), ([] : List Str))) hlt)
    have hnx : (d.inss.getD n (0, [])).1 ≠ (k : Int) → ∀ j, j < n + 1 → (d.inss.getD j (0, [])).1 ≠ (k : Int) := fun h j hj => by
      rcases lt_cases hj with h' | rfl
      · exact hf j h'
      · exact h
    generalize d.inss.getD n ((0 : Int), ([] : List Str)) = x at hat kx hnx
    unfold eTb eDl
    by_cases h1 : x.1 = k
    · obtain rfl := kx h1
      simp +contextual (maxSteps := 5000000) only [go_sem, ↓reduceIte, hlt, hat, h1]
    · have hnx := hnx h1
      simp +contextual (maxSteps := 5000000) only [go_sem, ↓reduceIte, hlt, hat, h1]
      exact fun _ => ⟨inR64 (by omega) (by omega), fun _ => ⟨n + 1, by simp, by omega, by omega, hnx⟩⟩
  obtain ⟨i0, hi0⟩ := k0 (fun x hx => mem_at (d := ((0 : Int), ([] : List Str))) (p := fun x : Ln => x.1 ≠ (k : Int)) (fun j hj => hf j (by omega)) hx)
  have hR := kr _ hi0 rfl
  have hRl : R.length = d.B.length := by rw [hR, nrow_len]
  have hat0 : ∀ q, q < d.B.length → R.getD q [] = ceF t (toldM d) (fromM d.cols) i0 k q := fun q hq => by rw [hR, nrow_at t d i0 k hq]
  clear ki kr k0 hf hn hR
  have hz : accN d k R 0 = [] := by unfold accN; rw [if_neg (by simp)]
  have hl : accN d k R d.rows.length = R := by unfold accN; rw [List.take_length, if_pos (List.mem_map.2 ⟨_, hi0, rfl⟩)]
  have hs : ∀ n, n < d.rows.length → (d.rows.getD n (0, 0)).2 ≠ (k : Int) → accN d k R (n + 1) = accN d k R n := fun n hn h => by
    unfold accN
    have := take_mem (f := fun p : Int × Int => p.2) (d := ((0 : Int), (0 : Int))) (a := (k : Int)) hn
    by_cases q : (k : Int) ∈ (d.rows.take n).map (·.2)
    · rw [if_pos q, if_pos (this.2 (.inl q))]
    · rw [if_neg q, if_neg (fun e => (this.1 e).elim q h)]
  have hs2 : ∀ n, n < d.rows.length → (d.rows.getD n (0, 0)).2 = (k : Int) → accN d k R (n + 1) = R ∧ accN d k R n = [] ∧ (d.rows.getD n (0, 0)).1 = i0 := fun n hn h => by
    refine ⟨?_, ?_, ?_⟩
    · unfold accN
      rw [if_pos ((take_mem (f := fun p : Int × Int => p.2) (d := ((0 : Int), (0 : Int))) (a := (k : Int)) hn).2 (.inr h))]
    · unfold accN
      rw [if_neg]
      intro e
      obtain ⟨p, hp, e⟩ := List.mem_map.1 e
      obtain ⟨j, hj, e2⟩ := List.getElem_of_mem hp
      rw [List.length_take] at hj
      rw [List.getElem_take] at e2
      refine (nodup_at (f := fun p : Int × Int => p.2) ((0 : Int), (0 : Int))).1 g.rows.nb n hn j (by omega) ?_
      rw [h, ← e, ← e2, List.getD_eq_getElem?_getD, List.getElem?_eq_getElem (by omega)]; rfl
    · have hm := getD_mem (d := ((0 : Int), (0 : Int))) hn
      obtain ⟨a, ha, ea⟩ := List.getElem_of_mem hi0
      by_cases e : a = n
      · subst e
        rw [List.getD_eq_getElem?_getD, List.getElem?_eq_getElem ha, ea]; rfl
      · exfalso
        have hna := (nodup_at (f := fun p : Int × Int => p.2) ((0 : Int), (0 : Int))).1 g.rows.nb
        have h2 : (d.rows.getD a (0, 0)).2 = k := by rw [List.getD_eq_getElem?_getD, List.getElem?_eq_getElem ha, ea]; rfl
        rcases Nat.lt_or_gt_of_ne e with h3 | h3
        · exact hna n hn a h3 (by rw [h, h2])
        · exact hna a ha n h3 (by rw [h, h2])
  unfold eTb eDl
  simp +contextual (maxSteps := 5000000) only [go_sem, ↓reduceIte, hlt]
  clear hlt
  refine fun _ => M_loopI (fun n : Nat => ⟨[(2, .int .i64 k), (3, .loc 3 0), (4, .loc 4 0), (8, .vec 69 (accN d k R n).length), (9, .int .i64 n)], [(3, .blk (eTb t) false), (4, .blk (eDl d) false), (69, .vec 9 1 ((accN d k R n).map eS) 0)]⟩) (fun n => d.rows.length - n) (fun n => n ≤ d.rows.length) 0 ?_ ?_
  · simp +contextual (maxSteps := 5000000) only [go_sem, ↓reduceIte, eTb, eDl, hz]
    rfl
  intro n hn
  by_cases hlt : n < d.rows.length
  · have hat := eP_at d.rows n hlt
    have hs := hs n hlt
    have hs2 := hs2 n hlt
    have hm := getD_mem (d := ((0 : Int), (0 : Int))) hlt
    generalize d.rows.getD n ((0 : Int), (0 : Int)) = x at hat hs hs2 hm
    by_cases h1 : x.2 = k
    · obtain ⟨e1, e2, e3⟩ := hs2 h1
      rw [e2]
      unfold eTb eDl
      simp +contextual (maxSteps := 5000000) only [go_sem, ↓reduceIte, hlt]
      refine fun _ => M_loopI (fun q : Nat => ⟨[(2, .int .i64 k), (3, .loc 3 0), (4, .loc 4 0), (8, .vec 69 q), (9, .int .i64 n), (10, .int .i64 q)], [(3, .blk (eTb t) false), (4, .blk (eDl d) false), (69, .vec 9 1 ((R.take q).map eS) 0)]⟩) (fun q => d.B.length - q) (fun q => q ≤ d.B.length) 0 ?_ ?_
      · simp +contextual (maxSteps := 5000000) only [go_sem, ↓reduceIte, eTb, eDl]
        rfl
      intro q hq
      have hql : (R.take q).length = q := by rw [List.length_take]; omega
      by_cases hlq : q < d.B.length
      · have ht := take_at (l := R) (i := q) (by omega)
        rw [hat0 q hlq] at ht
        unfold eTb eDl
        simp +contextual (maxSteps := 5000000) only [go_sem, ↓reduceIte, hlt, hlq, hat, h1, e3, c_rc17, hsC, hql]
        exact fun _ => ⟨⟨rfl, rfl, hi0⟩, by omega, fun _ => ⟨inR64 (by omega) (by omega), fun _ => ⟨q + 1, ⟨⟨by simp, by simp⟩, by rw [ht, List.map_append]; rfl⟩, by omega, by omega⟩⟩⟩
      · obtain rfl : q = R.length := by omega
        have hlq2 : ¬ R.length < d.B.length := by omega
        rw [List.take_length]
        unfold eTb eDl
        simp +contextual (maxSteps := 5000000) only [go_sem, ↓reduceIte, hlt, hlq2, hat, h1]
        exact fun _ => ⟨inR64 (by omega) (by omega), fun _ => ⟨n + 1, ⟨⟨by rw [e1], by simp⟩, by rw [e1]⟩, by omega, by omega⟩⟩
    · have e1 := hs h1
      unfold eTb eDl
      simp +contextual (maxSteps := 5000000) only [go_sem, ↓reduceIte, hlt]
      refine fun _ => M_loopI (fun _ : Unit => ⟨[(2, .int .i64 k), (3, .loc 3 0), (4, .loc 4 0), (8, .vec 69 (accN d k R n).length), (9, .int .i64 n)], [(3, .blk (eTb t) false), (4, .blk (eDl d) false), (69, .vec 9 1 ((accN d k R n).map eS) 0)]⟩) (fun _ => 0) (fun _ => True) () ?_ ?_
      · simp +contextual (maxSteps := 5000000) only [go_sem, ↓reduceIte, eTb, eDl]
      intro _ _
      unfold eTb eDl
      simp +contextual (maxSteps := 5000000) only [go_sem, ↓reduceIte, hlt, hat, h1]
      exact ⟨inR64 (by omega) (by omega), fun _ => ⟨n + 1, ⟨⟨by rw [e1], by simp⟩, by rw [e1]⟩, by omega, by omega⟩⟩
  obtain rfl : n = d.rows.length := by omega
  rw [hl]
  unfold eTb eDl
  simp +contextual (maxSteps := 5000000) only [go_sem, ↓reduceIte, hlt, Nat.lt_irrefl]
def c_rrow (t : Tab) (d : Dl) (caps args : List D) : Prop × Out := match caps, args with | [], [x, y, .int .i64 k] => (x = .agg (eTb t) ∧ y = .agg (eDl d) ∧ OkD d ∧ d.B.length < 1000000000 ∧ 0 ≤ k ∧ k < d.nb, .ret (.sl 1 (((resT t d).2.getD k.toNat []).map eS))) | _, _ => (False, .ret .any)
theorem st_rrow (t : Tab) (d : Dl) : StC Tryz.prog 29 (c_rrow t d) := by
  intro caps args; unfold c_rrow; split
  · rename_i x y k
    rintro ⟨rfl, rfl, g, hB, h0, h1⟩
    obtain ⟨n, rfl⟩ : ∃ n : Nat, k = n := ⟨k.toNat, by omega⟩
    exact fc_rrow t d g n (by omega) hB
  · exact fun h => h.elim
end Go.Proofs.YtknkjakppikjeaaGreat

set_option linter.unusedSimpArgs false
namespace Go.Proofs.YtknkjakppikjeaaGreat
open Go.Tn
set_option maxHeartbeats 8000000
set_option maxRecDepth 100000
def tree17 : Tr := (.node (.cons 0 (.node (.cons 1 (.node (.cons 2 (.node (.cons 3 (.node (.cons 4 (.node (.cons 5 (.node (.cons 6 (.node (.cons 7 (.node (.cons 8 (.node (.cons 9 .leaf .nil)) .nil)) .nil)) .nil)) .nil)) .nil)) (.cons 4 (.node (.cons 3 (.node (.cons 5 (.node (.cons 6 (.node (.cons 7 (.node (.cons 8 (.node (.cons 9 .leaf .nil)) .nil)) .nil)) .nil)) .nil)) .nil)) .nil))) (.cons 3 (.node (.cons 2 (.node (.cons 4 (.node (.cons 5 (.node (.cons 6 (.node (.cons 7 (.node (.cons 8 (.node (.cons 9 .leaf .nil)) .nil)) .nil)) .nil)) .nil)) .nil)) (.cons 4 (.node (.cons 2 (.node (.cons 5 (.node (.cons 6 (.node (.cons 7 (.node (.cons 8 (.node (.cons 9 .leaf .nil)) .nil)) .nil)) .nil)) .nil)) .nil)) .nil))) (.cons 4 (.node (.cons 2 (.node (.cons 3 (.node (.cons 5 (.node (.cons 6 (.node (.cons 7 (.node (.cons 8 (.node (.cons 9 .leaf .nil)) .nil)) .nil)) .nil)) .nil)) .nil)) (.cons 3 (.node (.cons 2 (.node (.cons 5 (.node (.cons 6 (.node (.cons 7 (.node (.cons 8 (.node (.cons 9 .leaf .nil)) .nil)) .nil)) .nil)) .nil)) .nil)) .nil))) .nil)))) (.cons 2 (.node (.cons 1 (.node (.cons 3 (.node (.cons 4 (.node (.cons 5 (.node (.cons 6 (.node (.cons 7 (.node (.cons 8 (.node (.cons 9 .leaf .nil)) .nil)) .nil)) .nil)) .nil)) .nil)) (.cons 4 (.node (.cons 3 (.node (.cons 5 (.node (.cons 6 (.node (.cons 7 (.node (.cons 8 (.node (.cons 9 .leaf .nil)) .nil)) .nil)) .nil)) .nil)) .nil)) .nil))) (.cons 3 (.node (.cons 1 (.node (.cons 4 (.node (.cons 5 (.node (.cons 6 (.node (.cons 7 (.node (.cons 8 (.node (.cons 9 .leaf .nil)) .nil)) .nil)) .nil)) .nil)) .nil)) (.cons 4 (.node (.cons 1 (.node (.cons 5 (.node (.cons 6 (.node (.cons 7 (.node (.cons 8 (.node (.cons 9 .leaf .nil)) .nil)) .nil)) .nil)) .nil)) (.cons 5 (.node (.cons 1 (.node (.cons 6 (.node (.cons 7 (.node (.cons 8 (.node (.cons 9 .leaf .nil)) .nil)) .nil)) .nil)) (.cons 6 (.node (.cons 1 (.node (.cons 7 (.node (.cons 8 (.node (.cons 9 .leaf .nil)) .nil)) .nil)) .nil)) .nil))) .nil))) .nil))) (.cons 4 (.node (.cons 1 (.node (.cons 3 (.node (.cons 5 (.node (.cons 6 (.node (.cons 7 (.node (.cons 8 (.node (.cons 9 .leaf .nil)) .nil)) .nil)) .nil)) .nil)) .nil)) (.cons 3 (.node (.cons 1 (.node (.cons 5 (.node (.cons 6 (.node (.cons 7 (.node (.cons 8 (.node (.cons 9 .leaf .nil)) .nil)) .nil)) .nil)) .nil)) (.cons 5 (.node (.cons 1 (.node (.cons 6 (.node (.cons 7 (.node (.cons 8 (.node (.cons 9 .leaf .nil)) .nil)) .nil)) .nil)) (.cons 6 (.node (.cons 1 (.node (.cons 7 (.node (.cons 8 (.node (.cons 9 .leaf .nil)) .nil)) .nil)) .nil)) .nil))) .nil))) .nil))) .nil)))) (.cons 3 (.node (.cons 1 (.node (.cons 2 (.node (.cons 4 (.node (.cons 5 (.node (.cons 6 (.node (.cons 7 (.node (.cons 8 (.node (.cons 9 .leaf .nil)) .nil)) .nil)) .nil)) .nil)) .nil)) (.cons 4 (.node (.cons 2 (.node (.cons 5 (.node (.cons 6 (.node (.cons 7 (.node (.cons 8 (.node (.cons 9 .leaf .nil)) .nil)) .nil)) .nil)) .nil)) .nil)) .nil))) (.cons 2 (.node (.cons 1 (.node (.cons 4 (.node (.cons 5 (.node (.cons 6 (.node (.cons 7 (.node (.cons 8 (.node (.cons 9 .leaf .nil)) .nil)) .nil)) .nil)) .nil)) .nil)) (.cons 4 (.node (.cons 1 (.node (.cons 5 (.node (.cons 6 (.node (.cons 7 (.node (.cons 8 (.node (.cons 9 .leaf .nil)) .nil)) .nil)) .nil)) .nil)) (.cons 5 (.node (.cons 1 (.node (.cons 6 (.node (.cons 7 (.node (.cons 8 (.node (.cons 9 .leaf .nil)) .nil)) .nil)) .nil)) (.cons 6 (.node (.cons 1 (.node (.cons 7 (.node (.cons 8 (.node (.cons 9 .leaf .nil)) .nil)) .nil)) .nil)) .nil))) .nil))) .nil))) (.cons 4 (.node (.cons 1 (.node (.cons 2 (.node (.cons 5 (.node (.cons 6 (.node (.cons 7 (.node (.cons 8 (.node (.cons 9 .leaf .nil)) .nil)) .nil)) .nil)) .nil)) .nil)) (.cons 2 (.node (.cons 1 (.node (.cons 5 (.node (.cons 6 (.node (.cons 7 (.node (.cons 8 (.node (.cons 9 .leaf .nil)) .nil)) .nil)) .nil)) .nil)) (.cons 5 (.node (.cons 1 (.node (.cons 6 (.node (.cons 7 (.node (.cons 8 (.node (.cons 9 .leaf .nil)) .nil)) .nil)) .nil)) (.cons 6 (.node (.cons 1 (.node (.cons 7 (.node (.cons 8 (.node (.cons 9 .leaf .nil)) .nil)) .nil)) .nil)) .nil))) .nil))) .nil))) .nil)))) (.cons 4 (.node (.cons 1 (.node (.cons 2 (.node (.cons 3 (.node (.cons 5 (.node (.cons 6 (.node (.cons 7 (.node (.cons 8 (.node (.cons 9 .leaf .nil)) .nil)) .nil)) .nil)) .nil)) .nil)) (.cons 3 (.node (.cons 2 (.node (.cons 5 (.node (.cons 6 (.node (.cons 7 (.node (.cons 8 (.node (.cons 9 .leaf .nil)) .nil)) .nil)) .nil)) .nil)) .nil)) .nil))) (.cons 2 (.node (.cons 1 (.node (.cons 3 (.node (.cons 5 (.node (.cons 6 (.node (.cons 7 (.node (.cons 8 (.node (.cons 9 .leaf .nil)) .nil)) .nil)) .nil)) .nil)) .nil)) (.cons 3 (.node (.cons 1 (.node (.cons 5 (.node (.cons 6 (.node (.cons 7 (.node (.cons 8 (.node (.cons 9 .leaf .nil)) .nil)) .nil)) .nil)) .nil)) (.cons 5 (.node (.cons 1 (.node (.cons 6 (.node (.cons 7 (.node (.cons 8 (.node (.cons 9 .leaf .nil)) .nil)) .nil)) .nil)) (.cons 6 (.node (.cons 1 (.node (.cons 7 (.node (.cons 8 (.node (.cons 9 .leaf .nil)) .nil)) .nil)) .nil)) .nil))) .nil))) .nil))) (.cons 3 (.node (.cons 1 (.node (.cons 2 (.node (.cons 5 (.node (.cons 6 (.node (.cons 7 (.node (.cons 8 (.node (.cons 9 .leaf .nil)) .nil)) .nil)) .nil)) .nil)) .nil)) (.cons 2 (.node (.cons 1 (.node (.cons 5 (.node (.cons 6 (.node (.cons 7 (.node (.cons 8 (.node (.cons 9 .leaf .nil)) .nil)) .nil)) .nil)) .nil)) (.cons 5 (.node (.cons 1 (.node (.cons 6 (.node (.cons 7 (.node (.cons 8 (.node (.cons 9 .leaf .nil)) .nil)) .nil)) .nil)) (.cons 6 (.node (.cons 1 (.node (.cons 7 (.node (.cons 8 (.node (.cons 9 .leaf .nil)) .nil)) .nil)) .nil)) .nil))) .nil))) .nil))) .nil)))) .nil))))) (.cons 2 (.node (.cons 0 (.node (.cons 1 (.node (.cons 3 (.node (.cons 4 (.node (.cons 5 (.node (.cons 6 (.node (.cons 7 (.node (.cons 8 (.node (.cons 9 .leaf .nil)) .nil)) .nil)) .nil)) .nil)) .nil)) (.cons 4 (.node (.cons 3 (.node (.cons 5 (.node (.cons 6 (.node (.cons 7 (.node (.cons 8 (.node (.cons 9 .leaf .nil)) .nil)) .nil)) .nil)) .nil)) .nil)) .nil))) (.cons 3 (.node (.cons 1 (.node (.cons 4 (.node (.cons 5 (.node (.cons 6 (.node (.cons 7 (.node (.cons 8 (.node (.cons 9 .leaf .nil)) .nil)) .nil)) .nil)) .nil)) .nil)) (.cons 4 (.node (.cons 1 (.node (.cons 5 (.node (.cons 6 (.node (.cons 7 (.node (.cons 8 (.node (.cons 9 .leaf .nil)) .nil)) .nil)) .nil)) .nil)) (.cons 5 (.node (.cons 1 (.node (.cons 6 (.node (.cons 7 (.node (.cons 8 (.node (.cons 9 .leaf .nil)) .nil)) .nil)) .nil)) (.cons 6 (.node (.cons 1 (.node (.cons 7 (.node (.cons 8 (.node (.cons 9 .leaf .nil)) .nil)) .nil)) .nil)) .nil))) .nil))) .nil))) (.cons 4 (.node (.cons 1 (.node (.cons 3 (.node (.cons 5 (.node (.cons 6 (.node (.cons 7 (.node (.cons 8 (.node (.cons 9 .leaf .nil)) .nil)) .nil)) .nil)) .nil)) .nil)) (.cons 3 (.node (.cons 1 (.node (.cons 5 (.node (.cons 6 (.node (.cons 7 (.node (.cons 8 (.node (.cons 9 .leaf .nil)) .nil)) .nil)) .nil)) .nil)) (.cons 5 (.node (.cons 1 (.node (.cons 6 (.node (.cons 7 (.node (.cons 8 (.node (.cons 9 .leaf .nil)) .nil)) .nil)) .nil)) (.cons 6 (.node (.cons 1 (.node (.cons 7 (.node (.cons 8 (.node (.cons 9 .leaf .nil)) .nil)) .nil)) .nil)) .nil))) .nil))) .nil))) .nil)))) (.cons 3 (.node (.cons 0 (.node (.cons 1 (.node (.cons 4 (.node (.cons 5 (.node (.cons 6 (.node (.cons 7 (.node (.cons 8 (.node (.cons 9 .leaf .nil)) .nil)) .nil)) .nil)) .nil)) .nil)) (.cons 4 (.node (.cons 1 (.node (.cons 5 (.node (.cons 6 (.node (.cons 7 (.node (.cons 8 (.node (.cons 9 .leaf .nil)) .nil)) .nil)) .nil)) .nil)) (.cons 5 (.node (.cons 1 (.node (.cons 6 (.node (.cons 7 (.node (.cons 8 (.node (.cons 9 .leaf .nil)) .nil)) .nil)) .nil)) (.cons 6 (.node (.cons 1 (.node (.cons 7 (.node (.cons 8 (.node (.cons 9 .leaf .nil)) .nil)) .nil)) .nil)) .nil))) .nil))) .nil))) (.cons 4 (.node (.cons 0 (.node (.cons 1 (.node (.cons 5 (.node (.cons 6 (.node (.cons 7 (.node (.cons 8 (.node (.cons 9 .leaf .nil)) .nil)) .nil)) .nil)) .nil)) (.cons 5 (.node (.cons 1 (.node (.cons 6 (.node (.cons 7 (.node (.cons 8 (.node (.cons 9 .leaf .nil)) .nil)) .nil)) .nil)) (.cons 6 (.node (.cons 1 (.node (.cons 7 (.node (.cons 8 (.node (.cons 9 .leaf .nil)) .nil)) .nil)) .nil)) .nil))) .nil))) (.cons 5 (.node (.cons 0 (.node (.cons 1 (.node (.cons 6 (.node (.cons 7 (.node (.cons 8 (.node (.cons 9 .leaf .nil)) .nil)) .nil)) .nil)) (.cons 6 (.node (.cons 1 (.node (.cons 7 (.node (.cons 8 (.node (.cons 9 .leaf .nil)) .nil)) .nil)) .nil)) .nil))) (.cons 6 (.node (.cons 0 (.node (.cons 1 (.node (.cons 7 (.node (.cons 8 (.node (.cons 9 .leaf .nil)) .nil)) .nil)) .nil)) .nil)) .nil))) .nil))) .nil))) (.cons 4 (.node (.cons 0 (.node (.cons 1 (.node (.cons 3 (.node (.cons 5 (.node (.cons 6 (.node (.cons 7 (.node (.cons 8 (.node (.cons 9 .leaf .nil)) .nil)) .nil)) .nil)) .nil)) .nil)) (.cons 3 (.node (.cons 1 (.node (.cons 5 (.node (.cons 6 (.node (.cons 7 (.node (.cons 8 (.node (.cons 9 .leaf .nil)) .nil)) .nil)) .nil)) .nil)) (.cons 5 (.node (.cons 1 (.node (.cons 6 (.node (.cons 7 (.node (.cons 8 (.node (.cons 9 .leaf .nil)) .nil)) .nil)) .nil)) (.cons 6 (.node (.cons 1 (.node (.cons 7 (.node (.cons 8 (.node (.cons 9 .leaf .nil)) .nil)) .nil)) .nil)) .nil))) .nil))) .nil))) (.cons 3 (.node (.cons 0 (.node (.cons 1 (.node (.cons 5 (.node (.cons 6 (.node (.cons 7 (.node (.cons 8 (.node (.cons 9 .leaf .nil)) .nil)) .nil)) .nil)) .nil)) (.cons 5 (.node (.cons 1 (.node (.cons 6 (.node (.cons 7 (.node (.cons 8 (.node (.cons 9 .leaf .nil)) .nil)) .nil)) .nil)) (.cons 6 (.node (.cons 1 (.node (.cons 7 (.node (.cons 8 (.node (.cons 9 .leaf .nil)) .nil)) .nil)) .nil)) .nil))) .nil))) (.cons 5 (.node (.cons 0 (.node (.cons 1 (.node (.cons 6 (.node (.cons 7 (.node (.cons 8 (.node (.cons 9 .leaf .nil)) .nil)) .nil)) .nil)) (.cons 6 (.node (.cons 1 (.node (.cons 7 (.node (.cons 8 (.node (.cons 9 .leaf .nil)) .nil)) .nil)) .nil)) .nil))) (.cons 6 (.node (.cons 0 (.node (.cons 1 (.node (.cons 7 (.node (.cons 8 (.node (.cons 9 .leaf .nil)) .nil)) .nil)) .nil)) .nil)) .nil))) .nil))) .nil))) .nil)))) (.cons 3 (.node (.cons 0 (.node (.cons 1 (.node (.cons 2 (.node (.cons 4 (.node (.cons 5 (.node (.cons 6 (.node (.cons 7 (.node (.cons 8 (.node (.cons 9 .leaf .nil)) .nil)) .nil)) .nil)) .nil)) .nil)) (.cons 4 (.node (.cons 2 (.node (.cons 5 (.node (.cons 6 (.node (.cons 7 (.node (.cons 8 (.node (.cons 9 .leaf .nil)) .nil)) .nil)) .nil)) .nil)) .nil)) .nil))) (.cons 2 (.node (.cons 1 (.node (.cons 4 (.node (.cons 5 (.node (.cons 6 (.node (.cons 7 (.node (.cons 8 (.node (.cons 9 .leaf .nil)) .nil)) .nil)) .nil)) .nil)) .nil)) (.cons 4 (.node (.cons 1 (.node (.cons 5 (.node (.cons 6 (.node (.cons 7 (.node (.cons 8 (.node (.cons 9 .leaf .nil)) .nil)) .nil)) .nil)) .nil)) (.cons 5 (.node (.cons 1 (.node (.cons 6 (.node (.cons 7 (.node (.cons 8 (.node (.cons 9 .leaf .nil)) .nil)) .nil)) .nil)) (.cons 6 (.node (.cons 1 (.node (.cons 7 (.node (.cons 8 (.node (.cons 9 .leaf .nil)) .nil)) .nil)) .nil)) .nil))) .nil))) .nil))) (.cons 4 (.node (.cons 1 (.node (.cons 2 (.node (.cons 5 (.node (.cons 6 (.node (.cons 7 (.node (.cons 8 (.node (.cons 9 .leaf .nil)) .nil)) .nil)) .nil)) .nil)) .nil)) (.cons 2 (.node (.cons 1 (.node (.cons 5 (.node (.cons 6 (.node (.cons 7 (.node (.cons 8 (.node (.cons 9 .leaf .nil)) .nil)) .nil)) .nil)) .nil)) (.cons 5 (.node (.cons 1 (.node (.cons 6 (.node (.cons 7 (.node (.cons 8 (.node (.cons 9 .leaf .nil)) .nil)) .nil)) .nil)) (.cons 6 (.node (.cons 1 (.node (.cons 7 (.node (.cons 8 (.node (.cons 9 .leaf .nil)) .nil)) .nil)) .nil)) .nil))) .nil))) .nil))) .nil)))) (.cons 2 (.node (.cons 0 (.node (.cons 1 (.node (.cons 4 (.node (.cons 5 (.node (.cons 6 (.node (.cons 7 (.node (.cons 8 (.node (.cons 9 .leaf .nil)) .nil)) .nil)) .nil)) .nil)) .nil)) (.cons 4 (.node (.cons 1 (.node (.cons 5 (.node (.cons 6 (.node (.cons 7 (.node (.cons 8 (.node (.cons 9 .leaf .nil)) .nil)) .nil)) .nil)) .nil)) (.cons 5 (.node (.cons 1 (.node (.cons 6 (.node (.cons 7 (.node (.cons 8 (.node (.cons 9 .leaf .nil)) .nil)) .nil)) .nil)) (.cons 6 (.node (.cons 1 (.node (.cons 7 (.node (.cons 8 (.node (.cons 9 .leaf .nil)) .nil)) .nil)) .nil)) .nil))) .nil))) .nil))) (.cons 4 (.node (.cons 0 (.node (.cons 1 (.node (.cons 5 (.node (.cons 6 (.node (.cons 7 (.node (.cons 8 (.node (.cons 9 .leaf .nil)) .nil)) .nil)) .nil)) .nil)) (.cons 5 (.node (.cons 1 (.node (.cons 6 (.node (.cons 7 (.node (.cons 8 (.node (.cons 9 .leaf .nil)) .nil)) .nil)) .nil)) (.cons 6 (.node (.cons 1 (.node (.cons 7 (.node (.cons 8 (.node (.cons 9 .leaf .nil)) .nil)) .nil)) .nil)) .nil))) .nil))) (.cons 5 (.node (.cons 0 (.node (.cons 1 (.node (.cons 6 (.node (.cons 7 (.node (.cons 8 (.node (.cons 9 .leaf .nil)) .nil)) .nil)) .nil)) (.cons 6 (.node (.cons 1 (.node (.cons 7 (.node (.cons 8 (.node (.cons 9 .leaf .nil)) .nil)) .nil)) .nil)) .nil))) (.cons 6 (.node (.cons 0 (.node (.cons 1 (.node (.cons 7 (.node (.cons 8 (.node (.cons 9 .leaf .nil)) .nil)) .nil)) .nil)) .nil)) .nil))) .nil))) .nil))) (.cons 4 (.node (.cons 0 (.node (.cons 1 (.node (.cons 2 (.node (.cons 5 (.node (.cons 6 (.node (.cons 7 (.node (.cons 8 (.node (.cons 9 .leaf .nil)) .nil)) .nil)) .nil)) .nil)) .nil)) (.cons 2 (.node (.cons 1 (.node (.cons 5 (.node (.cons 6 (.node (.cons 7 (.node (.cons 8 (.node (.cons 9 .leaf .nil)) .nil)) .nil)) .nil)) .nil)) (.cons 5 (.node (.cons 1 (.node (.cons 6 (.node (.cons 7 (.node (.cons 8 (.node (.cons 9 .leaf .nil)) .nil)) .nil)) .nil)) (.cons 6 (.node (.cons 1 (.node (.cons 7 (.node (.cons 8 (.node (.cons 9 .leaf .nil)) .nil)) .nil)) .nil)) .nil))) .nil))) .nil))) (.cons 2 (.node (.cons 0 (.node (.cons 1 (.node (.cons 5 (.node (.cons 6 (.node (.cons 7 (.node (.cons 8 (.node (.cons 9 .leaf .nil)) .nil)) .nil)) .nil)) .nil)) (.cons 5 (.node (.cons 1 (.node (.cons 6 (.node (.cons 7 (.node (.cons 8 (.node (.cons 9 .leaf .nil)) .nil)) .nil)) .nil)) (.cons 6 (.node (.cons 1 (.node (.cons 7 (.node (.cons 8 (.node (.cons 9 .leaf .nil)) .nil)) .nil)) .nil)) .nil))) .nil))) (.cons 5 (.node (.cons 0 (.node (.cons 1 (.node (.cons 6 (.node (.cons 7 (.node (.cons 8 (.node (.cons 9 .leaf .nil)) .nil)) .nil)) .nil)) (.cons 6 (.node (.cons 1 (.node (.cons 7 (.node (.cons 8 (.node (.cons 9 .leaf .nil)) .nil)) .nil)) .nil)) .nil))) (.cons 6 (.node (.cons 0 (.node (.cons 1 (.node (.cons 7 (.node (.cons 8 (.node (.cons 9 .leaf .nil)) .nil)) .nil)) .nil)) .nil)) .nil))) .nil))) .nil))) .nil)))) (.cons 4 (.node (.cons 0 (.node (.cons 1 (.node (.cons 2 (.node (.cons 3 (.node (.cons 5 (.node (.cons 6 (.node (.cons 7 (.node (.cons 8 (.node (.cons 9 .leaf .nil)) .nil)) .nil)) .nil)) .nil)) .nil)) (.cons 3 (.node (.cons 2 (.node (.cons 5 (.node (.cons 6 (.node (.cons 7 (.node (.cons 8 (.node (.cons 9 .leaf .nil)) .nil)) .nil)) .nil)) .nil)) .nil)) .nil))) (.cons 2 (.node (.cons 1 (.node (.cons 3 (.node (.cons 5 (.node (.cons 6 (.node (.cons 7 (.node (.cons 8 (.node (.cons 9 .leaf .nil)) .nil)) .nil)) .nil)) .nil)) .nil)) (.cons 3 (.node (.cons 1 (.node (.cons 5 (.node (.cons 6 (.node (.cons 7 (.node (.cons 8 (.node (.cons 9 .leaf .nil)) .nil)) .nil)) .nil)) .nil)) (.cons 5 (.node (.cons 1 (.node (.cons 6 (.node (.cons 7 (.node (.cons 8 (.node (.cons 9 .leaf .nil)) .nil)) .nil)) .nil)) (.cons 6 (.node (.cons 1 (.node (.cons 7 (.node (.cons 8 (.node (.cons 9 .leaf .nil)) .nil)) .nil)) .nil)) .nil))) .nil))) .nil))) (.cons 3 (.node (.cons 1 (.node (.cons 2 (.node (.cons 5 (.node (.cons 6 (.node (.cons 7 (.node (.cons 8 (.node (.cons 9 .leaf .nil)) .nil)) .nil)) .nil)) .nil)) .nil)) (.cons 2 (.node (.cons 1 (.node (.cons 5 (.node (.cons 6 (.node (.cons 7 (.node (.cons 8 (.node (.cons 9 .leaf .nil)) .nil)) .nil)) .nil)) .nil)) (.cons 5 (.node (.cons 1 (.node (.cons 6 (.node (.cons 7 (.node (.cons 8 (.node (.cons 9 .leaf .nil)) .nil)) .nil)) .nil)) (.cons 6 (.node (.cons 1 (.node (.cons 7 (.node (.cons 8 (.node (.cons 9 .leaf .nil)) .nil)) .nil)) .nil)) .nil))) .nil))) .nil))) .nil)))) (.cons 2 (.node (.cons 0 (.node (.cons 1 (.node (.cons 3 (.node (.cons 5 (.node (.cons 6 (.node (.cons 7 (.node (.cons 8 (.node (.cons 9 .leaf .nil)) .nil)) .nil)) .nil)) .nil)) .nil)) (.cons 3 (.node (.cons 1 (.node (.cons 5 (.node (.cons 6 (.node (.cons 7 (.node (.cons 8 (.node (.cons 9 .leaf .nil)) .nil)) .nil)) .nil)) .nil)) (.cons 5 (.node (.cons 1 (.node (.cons 6 (.node (.cons 7 (.node (.cons 8 (.node (.cons 9 .leaf .nil)) .nil)) .nil)) .nil)) (.cons 6 (.node (.cons 1 (.node (.cons 7 (.node (.cons 8 (.node (.cons 9 .leaf .nil)) .nil)) .nil)) .nil)) .nil))) .nil))) .nil))) (.cons 3 (.node (.cons 0 (.node (.cons 1 (.node (.cons 5 (.node (.cons 6 (.node (.cons 7 (.node (.cons 8 (.node (.cons 9 .leaf .nil)) .nil)) .nil)) .nil)) .nil)) (.cons 5 (.node (.cons 1 (.node (.cons 6 (.node (.cons 7 (.node (.cons 8 (.node (.cons 9 .leaf .nil)) .nil)) .nil)) .nil)) (.cons 6 (.node (.cons 1 (.node (.cons 7 (.node (.cons 8 (.node (.cons 9 .leaf .nil)) .nil)) .nil)) .nil)) .nil))) .nil))) (.cons 5 (.node (.cons 0 (.node (.cons 1 (.node (.cons 6 (.node (.cons 7 (.node (.cons 8 (.node (.cons 9 .leaf .nil)) .nil)) .nil)) .nil)) (.cons 6 (.node (.cons 1 (.node (.cons 7 (.node (.cons 8 (.node (.cons 9 .leaf .nil)) .nil)) .nil)) .nil)) .nil))) (.cons 6 (.node (.cons 0 (.node (.cons 1 (.node (.cons 7 (.node (.cons 8 (.node (.cons 9 .leaf .nil)) .nil)) .nil)) .nil)) .nil)) .nil))) .nil))) .nil))) (.cons 3 (.node (.cons 0 (.node (.cons 1 (.node (.cons 2 (.node (.cons 5 (.node (.cons 6 (.node (.cons 7 (.node (.cons 8 (.node (.cons 9 .leaf .nil)) .nil)) .nil)) .nil)) .nil)) .nil)) (.cons 2 (.node (.cons 1 (.node (.cons 5 (.node (.cons 6 (.node (.cons 7 (.node (.cons 8 (.node (.cons 9 .leaf .nil)) .nil)) .nil)) .nil)) .nil)) (.cons 5 (.node (.cons 1 (.node (.cons 6 (.node (.cons 7 (.node (.cons 8 (.node (.cons 9 .leaf .nil)) .nil)) .nil)) .nil)) (.cons 6 (.node (.cons 1 (.node (.cons 7 (.node (.cons 8 (.node (.cons 9 .leaf .nil)) .nil)) .nil)) .nil)) .nil))) .nil))) .nil))) (.cons 2 (.node (.cons 0 (.node (.cons 1 (.node (.cons 5 (.node (.cons 6 (.node (.cons 7 (.node (.cons 8 (.node (.cons 9 .leaf .nil)) .nil)) .nil)) .nil)) .nil)) (.cons 5 (.node (.cons 1 (.node (.cons 6 (.node (.cons 7 (.node (.cons 8 (.node (.cons 9 .leaf .nil)) .nil)) .nil)) .nil)) (.cons 6 (.node (.cons 1 (.node (.cons 7 (.node (.cons 8 (.node (.cons 9 .leaf .nil)) .nil)) .nil)) .nil)) .nil))) .nil))) (.cons 5 (.node (.cons 0 (.node (.cons 1 (.node (.cons 6 (.node (.cons 7 (.node (.cons 8 (.node (.cons 9 .leaf .nil)) .nil)) .nil)) .nil)) (.cons 6 (.node (.cons 1 (.node (.cons 7 (.node (.cons 8 (.node (.cons 9 .leaf .nil)) .nil)) .nil)) .nil)) .nil))) (.cons 6 (.node (.cons 0 (.node (.cons 1 (.node (.cons 7 (.node (.cons 8 (.node (.cons 9 .leaf .nil)) .nil)) .nil)) .nil)) .nil)) .nil))) .nil))) .nil))) .nil)))) .nil)))))
def c_rDk (d : Dl) (caps args : List D) : Prop × Out := match caps, args with | [], [x] => (x = .agg (eDl d), .ret (.int .i64 (chkD d))) | _, _ => (False, .ret .any)
theorem st_rDk {d : Dl} (h : okT d) : StC Tryz.prog 27 (c_rDk d) := by
  intro caps args; unfold c_rDk; split
  · rintro rfl; exact fc_rDCheck d h
  · exact fun h => h.elim
def c_rHd (t : Tab) (d : Dl) (caps args : List D) : Prop × Out := match caps, args with | [], [x, y] => (x = .agg (eTb t) ∧ y = .agg (eDl d), .ret (.bool (heldF t d))) | _, _ => (False, .ret .any)
theorem st_rHd (t : Tab) (d : Dl) : StC Tryz.prog 13 (c_rHd t d) := by
  intro caps args; unfold c_rHd; split
  · rintro ⟨rfl, rfl⟩; exact fc_rHeld t d
  · exact fun h => h.elim
theorem takeR_at {l : List (List Str)} {i : Nat} (h : i < l.length) : l.take (i + 1) = l.take i ++ [l.getD i []] := by
  rw [List.take_add_one, List.getElem?_eq_getElem h, List.getD_eq_getElem?_getD, List.getElem?_eq_getElem h]; rfl
theorem apo1 {t : Tab} {d : Dl} (h : tchk t ≠ 0) : apOut t d = .tup [tE, .int .i64 (tchk t)] := by
  have : wrongF t d = tchk t := by unfold wrongF; rw [if_pos h]
  unfold apOut; rw [this, if_pos h]
theorem apo2 {t : Tab} {d : Dl} (h1 : tchk t = 0) (h : chkD d ≠ 0) : apOut t d = .tup [tE, .int .i64 (chkD d)] := by
  have : wrongF t d = chkD d := by unfold wrongF; rw [if_neg (fun g => g h1), if_pos h]
  unfold apOut; rw [this, if_pos h]
theorem apo3 {t : Tab} {d : Dl} (h1 : tchk t = 0) (h2 : chkD d = 0) (h : ¬ t.1 = d.A) : apOut t d = .tup [tE, .int .i64 14] := by
  have : wrongF t d = 14 := by unfold wrongF; rw [if_neg (fun g => g h1), if_neg (fun g => g h2), if_pos h]
  unfold apOut; rw [this]; rfl
theorem apo4 {t : Tab} {d : Dl} (h1 : tchk t = 0) (h2 : chkD d = 0) (h3 : t.1 = d.A) (h : ¬ (t.2.length : Int) = d.na) : apOut t d = .tup [tE, .int .i64 15] := by
  have : wrongF t d = 15 := by unfold wrongF; rw [if_neg (fun g => g h1), if_neg (fun g => g h2), if_neg (fun g => g h3), if_pos h]
  unfold apOut; rw [this]; rfl
theorem apo5 {t : Tab} {d : Dl} (h1 : tchk t = 0) (h2 : chkD d = 0) (h3 : t.1 = d.A) (h4 : (t.2.length : Int) = d.na) (h : heldF t d = false) : apOut t d = .tup [tE, .int .i64 16] := by
  have : wrongF t d = 16 := by unfold wrongF; rw [if_neg (fun g => g h1), if_neg (fun g => g h2), if_neg (fun g => g h3), if_neg (fun g => g h4), if_pos h]
  unfold apOut; rw [this]; rfl
theorem apo6 {t : Tab} {d : Dl} (h1 : tchk t = 0) (h2 : chkD d = 0) (h3 : t.1 = d.A) (h4 : (t.2.length : Int) = d.na) (h : heldF t d = true) : apOut t d = if tchk (resT t d) ≠ 0 then .tup [tE, .int .i64 (tchk (resT t d))] else .tup [.agg (eTb (resT t d)), .int .i64 0] := by
  have : wrongF t d = 0 := by unfold wrongF; rw [if_neg (fun g => g h1), if_neg (fun g => g h2), if_neg (fun g => g h3), if_neg (fun g => g h4), h]; rfl
  unfold apOut; rw [this, if_neg (fun g => g rfl)]
theorem fc_rApply (t : Tab) (d : Dl) (h : okTD t d) (hT : okT d) (hres : okTb (resT t d)) : FC Tryz.prog 9 [] [.agg (eTb t), .agg (eDl d)] (.ret (apOut t d)) := by
  have s1 := st_rTC
  have s2 := st_rDk hT
  have s3 := st_rHd t d
  have s4 := st_rrow t d
  have hdt : dTb [.sl 1 (t.1.map eS), .sl 1 (t.2.map eR)] = t := dTb_eTb t
  have hdr : dTb [.sl 1 (d.B.map eS), .sl 1 ((resT t d).2.map eR)] = resT t d := dTb_eTb (resT t d)
  have htb := h.tb
  refine fcc2_of (fn := Tryz.f9) (r := 4) (q := 5) (i := 4) (C := tab [(26, c_rTC), (27, c_rDk d), (13, c_rHd t d), (29, c_rrow t d), (28, c_RefS)] [] [5001, 5004, 5007, 5012, 5015, 7019]) mixed (by kernel_rfl) (by kernel_rfl) rfl rfl tfTable (by kernel_rfl) (by intro ys h; cases h) ?_
  unfold eTb eDl
  simp +contextual (maxSteps := 5000000) only [go_sem, ↓reduceIte]
  refine M_join (fun _ : Unit => ⟨[(2, .loc 2 0), (3, .loc 3 0), (4, .loc 4 0), (6, .int .i64 (tchk t))], [(2, .blk (eTb t) false), (3, .blk (eDl d) false), (4, .blk [.nil, .nil] false)]⟩) (fun _ => True) ?_ ?_
  · simp +contextual (maxSteps := 5000000) only [go_sem, ↓reduceIte, c_rTC, s1, eTb, eDl, hdt, htb]
    exact ⟨(), trivial⟩
  intro _ _
  by_cases q1 : tchk t = 0
  rotate_left
  · rw [apo1 q1]
    unfold tE eTb eDl
    simp +contextual (maxSteps := 5000000) only [go_sem, ↓reduceIte, q1, finC2, finCB2, locR]
  unfold eTb eDl
  simp +contextual (maxSteps := 5000000) only [go_sem, ↓reduceIte, q1]
  refine M_join (fun _ : Unit => ⟨[(2, .loc 2 0), (3, .loc 3 0), (4, .loc 4 0), (7, .int .i64 (chkD d))], [(2, .blk (eTb t) false), (3, .blk (eDl d) false), (4, .blk [.nil, .nil] false)]⟩) (fun _ => True) ?_ ?_
  · simp +contextual (maxSteps := 5000000) only [go_sem, ↓reduceIte, c_rDk, s2, eTb, eDl]
    exact ⟨(), trivial⟩
  intro _ _
  by_cases q2 : chkD d = 0
  rotate_left
  · rw [apo2 q1 q2]
    unfold tE eTb eDl
    simp +contextual (maxSteps := 5000000) only [go_sem, ↓reduceIte, q2, finC2, finCB2, locR]
  unfold eTb eDl
  simp +contextual (maxSteps := 5000000) only [go_sem, ↓reduceIte, q2]
  refine M_join (fun _ : Unit => ⟨[(2, .loc 2 0), (3, .loc 3 0), (4, .loc 4 0), (8, .bool (decide (t.1 = d.A)))], [(2, .blk (eTb t) false), (3, .blk (eDl d) false), (4, .blk [.nil, .nil] false)]⟩) (fun _ => True) ?_ ?_
  · simp +contextual (maxSteps := 5000000) only [go_sem, ↓reduceIte, c_RefS, st_RefS, eTb, eDl, dS_eS]
    exact ⟨(), trivial⟩
  intro _ _
  by_cases q3 : t.1 = d.A
  rotate_left
  · rw [apo3 q1 q2 q3]
    unfold tE eTb eDl
    simp +contextual (maxSteps := 5000000) only [go_sem, ↓reduceIte, q3, finC2, finCB2, locR]
  by_cases q4 : (t.2.length : Int) = d.na
  rotate_left
  · rw [apo4 q1 q2 q3 q4]
    unfold tE eTb eDl
    simp +contextual (maxSteps := 5000000) only [go_sem, ↓reduceIte, q3, q4, finC2, finCB2, locR]
  unfold eTb eDl
  simp +contextual (maxSteps := 5000000) only [go_sem, ↓reduceIte, q3, q4]
  refine fun _ => M_join (fun _ : Unit => ⟨[(2, .loc 2 0), (3, .loc 3 0), (4, .loc 4 0), (9, .bool (heldF t d))], [(2, .blk (eTb t) false), (3, .blk (eDl d) false), (4, .blk [.nil, .nil] false)]⟩) (fun _ => True) ?_ ?_
  · simp +contextual (maxSteps := 5000000) only [go_sem, ↓reduceIte, c_rHd, s3, eTb, eDl]
    exact ⟨by rw [q3], (), by rw [q3]⟩
  intro _ _
  by_cases q5 : heldF t d = true
  rotate_left
  · rw [Bool.not_eq_true] at q5
    rw [apo5 q1 q2 q3 q4 q5]
    unfold tE eTb eDl
    simp +contextual (maxSteps := 5000000) only [go_sem, ↓reduceIte, q5, finC2, finCB2, locR]
  rw [apo6 q1 q2 q3 q4 q5]
  have g := (chkD_zero d).1 q2
  have hlB : d.B.length < 1000000000 := by have := h.dl.B; omega
  have hn0 := g.rows.b0
  obtain ⟨nb, hnb⟩ : ∃ n : Nat, d.nb = n := ⟨d.nb.toNat, by omega⟩
  have hn2 := h.nb
  have hrl : (resT t d).2.length = nb := by
    have := congrArg List.length (g.full t)
    rw [List.length_map, List.length_map] at this
    unfold finO rowO insO at this
    rw [setO_len, setO_len, List.length_replicate, hnb, Int.toNat_natCast] at this
    exact this.symm
  unfold eTb eDl
  simp +contextual (maxSteps := 5000000) only [go_sem, ↓reduceIte, q5]
  refine M_join (fun _ : Unit => ⟨[(2, .loc 2 0), (3, .loc 3 0), (4, .loc 4 0), (10, .loc 10 0)], [(2, .blk (eTb t) false), (3, .blk (eDl d) false), (4, .blk [.nil, .nil] false), (10, .blk [.sl 1 (d.B.map eS), .nil] false)]⟩) (fun _ => True) ?_ ?_
  · simp +contextual (maxSteps := 5000000) only [go_sem, ↓reduceIte, eTb, eDl]
    exact ⟨(), trivial⟩
  intro _ _
  unfold eTb eDl
  simp +contextual (maxSteps := 5000000) only [go_sem, ↓reduceIte]
  refine M_loopI (fun n : Nat => ⟨[(2, .loc 2 0), (3, .loc 3 0), (4, .loc 4 0), (10, .loc 10 0), (11, .int .i64 n)], [(2, .blk (eTb t) false), (3, .blk (eDl d) false), (4, .blk [.nil, .nil] false), (10, .blk [.sl 1 (d.B.map eS), .vec 62 n] false), (62, .vec 22 1 (((resT t d).2.take n).map eR) 0)]⟩) (fun n => nb - n) (fun n => n ≤ nb) 0 ?_ ?_
  · simp +contextual (maxSteps := 5000000) only [go_sem, ↓reduceIte, eTb, eDl]
    rfl
  intro n hn
  by_cases hlt : n < nb
  · have ht := takeR_at (l := (resT t d).2) (i := n) (by omega)
    have htl : ((resT t d).2.take n).length = n := by rw [List.length_take]; omega
    have hlt2 : (n : Int) < d.nb := by omega
    unfold eTb eDl
    simp +contextual (maxSteps := 5000000) only [go_sem, ↓reduceIte, hlt2]
    refine M_tree tree17 (by show chkTr _ _ _ _ = true; kernel_rfl) ?_
    unfold tree17
    simp +contextual (maxSteps := 5000000) only [go_sem, ↓reduceIte, c_rrow, s4, eTb, eDl, g, hlB, hlt2, htl]
    exact ⟨by omega, fun _ => ⟨inR64 (by omega) (by omega), fun _ => ⟨n + 1, ⟨by simp, rfl, by rw [ht, List.map_append]; rfl⟩, by omega, by omega⟩⟩⟩
  obtain rfl : n = (resT t d).2.length := by omega
  have hlt2 : ¬ ((resT t d).2.length : Int) < d.nb := by omega
  rw [List.take_length]
  unfold eTb eDl
  by_cases q6 : tchk (resT t d) = 0
  · simp +contextual (maxSteps := 5000000) only [go_sem, ↓reduceIte, hlt2, c_rTC, s1, hdr, hres, q6, finC2, finCB2, locR]
    exact ⟨wkL_self (eTb (resT t d)), rfl⟩
  · unfold tE
    simp +contextual (maxSteps := 5000000) only [go_sem, ↓reduceIte, hlt2, c_rTC, s1, hdr, hres, q6, finC2, finCB2, locR]
    exact wkL_self (eTb (resT t d))
end Go.Proofs.YtknkjakppikjeaaGreat

set_option linter.unusedSimpArgs false
namespace Go.Proofs.YtknkjakppikjeaaGreat
open Go.Tn
set_option maxHeartbeats 8000000
set_option maxRecDepth 100000
def treeT : Tr := (.node (.cons 0 (.node (.cons 1 (.node (.cons 2 (.node (.cons 3 (.node (.cons 4 (.node (.cons 5 (.node (.cons 6 (.node (.cons 7 (.node (.cons 8 (.node (.cons 9 .leaf .nil)) .nil)) .nil)) (.cons 7 (.node (.cons 6 (.node (.cons 8 (.node (.cons 9 .leaf .nil)) .nil)) (.cons 8 (.node (.cons 6 (.node (.cons 9 .leaf .nil)) .nil)) .nil))) .nil))) (.cons 6 (.node (.cons 5 (.node (.cons 7 (.node (.cons 8 (.node (.cons 9 .leaf .nil)) .nil)) .nil)) (.cons 7 (.node (.cons 5 (.node (.cons 8 (.node (.cons 9 .leaf .nil)) .nil)) .nil)) .nil))) (.cons 7 (.node (.cons 5 (.node (.cons 6 (.node (.cons 8 (.node (.cons 9 .leaf .nil)) .nil)) (.cons 8 (.node (.cons 6 (.node (.cons 9 .leaf .nil)) .nil)) .nil))) (.cons 6 (.node (.cons 5 (.node (.cons 8 (.node (.cons 9 .leaf .nil)) .nil)) .nil)) .nil))) .nil)))) (.cons 7 (.node (.cons 4 (.node (.cons 5 (.node (.cons 6 (.node (.cons 8 (.node (.cons 9 .leaf .nil)) .nil)) (.cons 8 (.node (.cons 6 (.node (.cons 9 .leaf .nil)) .nil)) .nil))) (.cons 6 (.node (.cons 5 (.node (.cons 8 (.node (.cons 9 .leaf .nil)) .nil)) .nil)) .nil))) .nil)) .nil))) (.cons 7 (.node (.cons 3 (.node (.cons 4 (.node (.cons 5 (.node (.cons 6 (.node (.cons 8 (.node (.cons 9 .leaf .nil)) .nil)) (.cons 8 (.node (.cons 6 (.node (.cons 9 .leaf .nil)) .nil)) .nil))) (.cons 6 (.node (.cons 5 (.node (.cons 8 (.node (.cons 9 .leaf .nil)) .nil)) .nil)) .nil))) .nil)) .nil)) .nil))) (.cons 7 (.node (.cons 2 (.node (.cons 3 (.node (.cons 4 (.node (.cons 5 (.node (.cons 6 (.node (.cons 8 (.node (.cons 9 .leaf .nil)) .nil)) (.cons 8 (.node (.cons 6 (.node (.cons 9 .leaf .nil)) .nil)) .nil))) (.cons 6 (.node (.cons 5 (.node (.cons 8 (.node (.cons 9 .leaf .nil)) .nil)) .nil)) .nil))) .nil)) .nil)) .nil)) .nil))) (.cons 7 (.node (.cons 1 (.node (.cons 2 (.node (.cons 3 (.node (.cons 4 (.node (.cons 5 (.node (.cons 6 (.node (.cons 8 (.node (.cons 9 .leaf .nil)) .nil)) (.cons 8 (.node (.cons 6 (.node (.cons 9 .leaf .nil)) .nil)) .nil))) (.cons 6 (.node (.cons 5 (.node (.cons 8 (.node (.cons 9 .leaf .nil)) .nil)) .nil)) .nil))) .nil)) .nil)) .nil)) .nil)) .nil))) (.cons 1 (.node (.cons 0 (.node (.cons 2 (.node (.cons 3 (.node (.cons 4 (.node (.cons 5 (.node (.cons 6 (.node (.cons 7 (.node (.cons 8 (.node (.cons 9 .leaf .nil)) .nil)) .nil)) (.cons 7 (.node (.cons 6 (.node (.cons 8 (.node (.cons 9 .leaf .nil)) .nil)) (.cons 8 (.node (.cons 6 (.node (.cons 9 .leaf .nil)) .nil)) .nil))) .nil))) (.cons 6 (.node (.cons 5 (.node (.cons 7 (.node (.cons 8 (.node (.cons 9 .leaf .nil)) .nil)) .nil)) (.cons 7 (.node (.cons 5 (.node (.cons 8 (.node (.cons 9 .leaf .nil)) .nil)) .nil)) .nil))) (.cons 7 (.node (.cons 5 (.node (.cons 6 (.node (.cons 8 (.node (.cons 9 .leaf .nil)) .nil)) (.cons 8 (.node (.cons 6 (.node (.cons 9 .leaf .nil)) .nil)) .nil))) (.cons 6 (.node (.cons 5 (.node (.cons 8 (.node (.cons 9 .leaf .nil)) .nil)) .nil)) .nil))) .nil)))) (.cons 7 (.node (.cons 4 (.node (.cons 5 (.node (.cons 6 (.node (.cons 8 (.node (.cons 9 .leaf .nil)) .nil)) (.cons 8 (.node (.cons 6 (.node (.cons 9 .leaf .nil)) .nil)) .nil))) (.cons 6 (.node (.cons 5 (.node (.cons 8 (.node (.cons 9 .leaf .nil)) .nil)) .nil)) .nil))) .nil)) .nil))) (.cons 7 (.node (.cons 3 (.node (.cons 4 (.node (.cons 5 (.node (.cons 6 (.node (.cons 8 (.node (.cons 9 .leaf .nil)) .nil)) (.cons 8 (.node (.cons 6 (.node (.cons 9 .leaf .nil)) .nil)) .nil))) (.cons 6 (.node (.cons 5 (.node (.cons 8 (.node (.cons 9 .leaf .nil)) .nil)) .nil)) .nil))) .nil)) .nil)) .nil))) (.cons 7 (.node (.cons 2 (.node (.cons 3 (.node (.cons 4 (.node (.cons 5 (.node (.cons 6 (.node (.cons 8 (.node (.cons 9 .leaf .nil)) .nil)) (.cons 8 (.node (.cons 6 (.node (.cons 9 .leaf .nil)) .nil)) .nil))) (.cons 6 (.node (.cons 5 (.node (.cons 8 (.node (.cons 9 .leaf .nil)) .nil)) .nil)) .nil))) .nil)) .nil)) .nil)) .nil))) (.cons 2 (.node (.cons 0 (.node (.cons 3 (.node (.cons 4 (.node (.cons 5 (.node (.cons 6 (.node (.cons 7 (.node (.cons 8 (.node (.cons 9 .leaf .nil)) .nil)) .nil)) (.cons 7 (.node (.cons 6 (.node (.cons 8 (.node (.cons 9 .leaf .nil)) .nil)) (.cons 8 (.node (.cons 6 (.node (.cons 9 .leaf .nil)) .nil)) .nil))) .nil))) (.cons 6 (.node (.cons 5 (.node (.cons 7 (.node (.cons 8 (.node (.cons 9 .leaf .nil)) .nil)) .nil)) (.cons 7 (.node (.cons 5 (.node (.cons 8 (.node (.cons 9 .leaf .nil)) .nil)) .nil)) .nil))) (.cons 7 (.node (.cons 5 (.node (.cons 6 (.node (.cons 8 (.node (.cons 9 .leaf .nil)) .nil)) (.cons 8 (.node (.cons 6 (.node (.cons 9 .leaf .nil)) .nil)) .nil))) (.cons 6 (.node (.cons 5 (.node (.cons 8 (.node (.cons 9 .leaf .nil)) .nil)) .nil)) .nil))) .nil)))) (.cons 7 (.node (.cons 4 (.node (.cons 5 (.node (.cons 6 (.node (.cons 8 (.node (.cons 9 .leaf .nil)) .nil)) (.cons 8 (.node (.cons 6 (.node (.cons 9 .leaf .nil)) .nil)) .nil))) (.cons 6 (.node (.cons 5 (.node (.cons 8 (.node (.cons 9 .leaf .nil)) .nil)) .nil)) .nil))) .nil)) .nil))) (.cons 7 (.node (.cons 3 (.node (.cons 4 (.node (.cons 5 (.node (.cons 6 (.node (.cons 8 (.node (.cons 9 .leaf .nil)) .nil)) (.cons 8 (.node (.cons 6 (.node (.cons 9 .leaf .nil)) .nil)) .nil))) (.cons 6 (.node (.cons 5 (.node (.cons 8 (.node (.cons 9 .leaf .nil)) .nil)) .nil)) .nil))) .nil)) .nil)) .nil))) (.cons 7 (.node (.cons 0 (.node (.cons 3 (.node (.cons 4 (.node (.cons 5 (.node (.cons 6 (.node (.cons 8 (.node (.cons 9 .leaf .nil)) .nil)) (.cons 8 (.node (.cons 6 (.node (.cons 9 .leaf .nil)) .nil)) .nil))) (.cons 6 (.node (.cons 5 (.node (.cons 8 (.node (.cons 9 .leaf .nil)) .nil)) .nil)) .nil))) .nil)) .nil)) .nil)) .nil))) (.cons 7 (.node (.cons 0 (.node (.cons 2 (.node (.cons 3 (.node (.cons 4 (.node (.cons 5 (.node (.cons 6 (.node (.cons 8 (.node (.cons 9 .leaf .nil)) .nil)) (.cons 8 (.node (.cons 6 (.node (.cons 9 .leaf .nil)) .nil)) .nil))) (.cons 6 (.node (.cons 5 (.node (.cons 8 (.node (.cons 9 .leaf .nil)) .nil)) .nil)) .nil))) .nil)) .nil)) .nil)) (.cons 2 (.node (.cons 0 (.node (.cons 3 (.node (.cons 4 (.node (.cons 5 (.node (.cons 6 (.node (.cons 8 (.node (.cons 9 .leaf .nil)) .nil)) (.cons 8 (.node (.cons 6 (.node (.cons 9 .leaf .nil)) .nil)) .nil))) (.cons 6 (.node (.cons 5 (.node (.cons 8 (.node (.cons 9 .leaf .nil)) .nil)) .nil)) .nil))) .nil)) .nil)) .nil)) .nil))) .nil)))) (.cons 7 (.node (.cons 0 (.node (.cons 1 (.node (.cons 2 (.node (.cons 3 (.node (.cons 4 (.node (.cons 5 (.node (.cons 6 (.node (.cons 8 (.node (.cons 9 .leaf .nil)) .nil)) (.cons 8 (.node (.cons 6 (.node (.cons 9 .leaf .nil)) .nil)) .nil))) (.cons 6 (.node (.cons 5 (.node (.cons 8 (.node (.cons 9 .leaf .nil)) .nil)) .nil)) .nil))) .nil)) .nil)) .nil)) .nil)) (.cons 1 (.node (.cons 0 (.node (.cons 2 (.node (.cons 3 (.node (.cons 4 (.node (.cons 5 (.node (.cons 6 (.node (.cons 8 (.node (.cons 9 .leaf .nil)) .nil)) (.cons 8 (.node (.cons 6 (.node (.cons 9 .leaf .nil)) .nil)) .nil))) (.cons 6 (.node (.cons 5 (.node (.cons 8 (.node (.cons 9 .leaf .nil)) .nil)) .nil)) .nil))) .nil)) .nil)) .nil)) (.cons 2 (.node (.cons 0 (.node (.cons 3 (.node (.cons 4 (.node (.cons 5 (.node (.cons 6 (.node (.cons 8 (.node (.cons 9 .leaf .nil)) .nil)) (.cons 8 (.node (.cons 6 (.node (.cons 9 .leaf .nil)) .nil)) .nil))) (.cons 6 (.node (.cons 5 (.node (.cons 8 (.node (.cons 9 .leaf .nil)) .nil)) .nil)) .nil))) .nil)) .nil)) .nil)) .nil))) .nil))) .nil))))
theorem Sm.okT {d : Dl} (h : Sm d) : okT d := by
  have c := h.cnt
  have := h.dels
  have := h.inss
  unfold cntN at c
  have hc : (txL (d.dels ++ d.inss)).length = (txL d.dels).length + (txL d.inss).length := by unfold txL; simp
  have ht := h.texts
  constructor <;> first | omega | exact fun s hs => by have := ht s hs; omega
def c_rAp (t : Tab) (d : Dl) (caps args : List D) : Prop × Out := match caps, args with | [], [x, y] => (x = .agg (eTb t) ∧ (y = .agg (eDl d) ∨ y = .agg (eDl (turnD d))), .ret (apOut t (dDl (match y with | .agg s => s | _ => [])))) | _, _ => (False, .ret .any)
theorem st_rAp {t : Tab} {d : Dl} (h1 : SmT t) (h2 : Sm d) : StC Tryz.prog 9 (c_rAp t d) := by
  intro caps args; unfold c_rAp; split
  · rintro ⟨rfl, rfl | rfl⟩
    · simp only [dDl_eDl]
      exact fc_rApply t d (h2.okTD h1.ok) h2.okT (res_sm h1 h2).ok
    · simp only [dDl_eDl]
      exact fc_rApply t (turnD d) (h2.turn.okTD h1.ok) h2.turn.okT (res_sm h1 h2.turn).ok
  · exact fun h => h.elim
def c_xAp (t : Tab) (d : Dl) (caps args : List D) : Prop × Out := match caps, args with | [], [x, y] => (x = .agg (eTb t) ∧ y = .agg (eDl d), .ret (apOut t d)) | _, _ => (False, .ret .any)
theorem st_xAp {t : Tab} {d : Dl} (h1 : SmT t) (h2 : Sm d) : StC Tryz.prog 8 (c_xAp t d) := by
  intro caps args; unfold c_xAp; split
  · rintro ⟨rfl, rfl⟩
    exact fc_Apply t d (h2.okTD h1.ok) (res_sm h1 h2).ok
  · exact fun h => h.elim
def c_xBk (t : Tab) (d : Dl) (caps args : List D) : Prop × Out := match caps, args with | [], [x, y] => (x = .agg (eTb t) ∧ y = .agg (eDl d), .ret (apOut t (turnD d))) | _, _ => (False, .ret .any)
theorem st_xBk {t : Tab} {d : Dl} (h1 : SmT t) (h2 : Sm d) : StC Tryz.prog 10 (c_xBk t d) := by
  intro caps args; unfold c_xBk; split
  · rintro ⟨rfl, rfl⟩
    exact fc_Back t d (h2.okTD h1.ok) (h2.turn.okTD h1.ok) (res_sm h1 h2.turn).ok
  · exact fun h => h.elim
def c_xTn (d : Dl) (caps args : List D) : Prop × Out := match caps, args with | [], [y] => (y = .agg (eDl d), .ret (.agg (eDl (turnD d)))) | _, _ => (False, .ret .any)
theorem st_xTn {d : Dl} (h2 : Sm d) : StC Tryz.prog 11 (c_xTn d) := by
  intro caps args; unfold c_xTn; split
  · rintro rfl
    exact fc_rTurn d h2.okDl
  · exact fun h => h.elim
def c_xSm (caps args : List D) : Prop × Out := match caps, args with | [], [.agg r, .agg s] => (r = s ∧ wkL r (eTb (dTb r)), .ret (.bool true)) | _, _ => (False, .ret .any)
theorem st_xSm : StC Tryz.prog 12 c_xSm := by
  intro caps args; unfold c_xSm; split
  · rename_i r s
    rintro ⟨rfl, h⟩
    have := fc_rTSame (dTb r) (dTb r)
    rw [(sameT_iff _ _).2 rfl] at this
    exact fc_wk (wkL_self []) (wk_agg2 h h) (by intro ys h; cases h) this
  · exact fun h => h.elim
theorem fc_ATells (t : Tab) (d : Dl) (h1 : slen t.1 + rlen t.2 < 2000000000) (h2 : okT d) : FC Tryz.prog 3 [] [.agg (eTb t), .agg (eDl d)] (.ret (.bool true)) := by
  have ht1 := dTb_eTb t
  have hd1 := dDl_eDl d
  cases hf1 : few4 t with
  | false =>
    refine fc_M (fn := Tryz.f3) (C := (tab [(5, c_works), (6, c_fewT), (7, c_fewD)] [] [5010, 7010])) (rs := [4]) mixed (by kernel_rfl) (by kernel_rfl) rfl rfl (by kernel_rfl) (by intro ys h; cases h) ?_
    rw [eTb_lit] at ht1 ⊢
    simp +contextual (maxSteps := 5000000) only [go_sem, ↓reduceIte, c_works, st_works, c_fewT, st_fewT, ht1, h1, hf1]
    exact wkL_self (eTb t)
  | true =>
  cases hf2 : fewF d with
  | false =>
    refine fc_M (fn := Tryz.f3) (C := (tab [(5, c_works), (6, c_fewT), (7, c_fewD)] [] [5010, 7010])) (rs := [4]) mixed (by kernel_rfl) (by kernel_rfl) rfl rfl (by kernel_rfl) (by intro ys h; cases h) ?_
    rw [eTb_lit] at ht1 ⊢
    rw [eDl_litY] at hd1 ⊢
    simp +contextual (maxSteps := 5000000) only [go_sem, ↓reduceIte, c_works, st_works, c_fewT, st_fewT, ht1, h1, hf1, c_fewD, st_fewD, hd1, h2, hf2]
    exact ⟨wkL_self (eTb t), wkL_self (eDl d)⟩
  | true =>
  have hsm := few_sm hf2
  have htm := few4_sm hf1
  have k1 := st_xAp htm hsm
  have k2 := st_xBk htm hsm
  have k3 := st_rAp htm hsm
  have k4 := st_xTn hsm
  have k5 := st_rHd t d
  have k6 := st_Hd (t := t) hsm.okDl
  have hd2 := dDl_eDl (turnD d)
  have hwt : wkL (eTb t) (eTb (dTb (eTb t))) := by rw [dTb_eTb]; exact wkL_self _
  have hwd : wkL (eDl d) (eDl (dDl (eDl d))) := by rw [dDl_eDl]; exact wkL_self _
  have hr1 := dTb_eTb (resT t d)
  have hr2 := dTb_eTb (resT t (turnD d))
  refine fc_M (fn := Tryz.f3) (C := (tab [(5, c_works), (6, c_fewT), (7, c_fewD), (8, c_xAp t d), (10, c_xBk t d), (9, c_rAp t d), (11, c_xTn d), (12, c_xSm), (13, c_rHd t d), (14, c_Hd t d)] [] [5004, 5007, 5008, 5009, 5010, 5011, 5012, 7010])) (rs := [4]) mixed (by kernel_rfl) (by kernel_rfl) rfl rfl (by kernel_rfl) (by intro ys h; cases h) ?_
  unfold eTb eDl
  simp +contextual (maxSteps := 5000000) only [go_sem, ↓reduceIte, c_works, st_works]
  refine M_join (fun _ : Unit => ⟨[(2, .loc 2 0), (3, .loc 3 0), (5, .bool true), (6, .bool true)], [(2, .blk (eTb t) false), (3, .blk (eDl d) false)]⟩) (fun _ => True) ?_ ?_
  · rw [eTb_lit] at ht1 hwt ⊢
    rw [eDl_litY] at hd1 hwd ⊢
    simp +contextual (maxSteps := 5000000) only [go_sem, ↓reduceIte, c_works, st_works, c_fewT, st_fewT, ht1, h1, hf1, c_fewD, st_fewD, hd1, h2, hf2]
    exact ⟨wkL_self (eTb t), wkL_self (eDl d), (), trivial⟩
  intro _ _
  generalize hDT : turnD d = d2 at *
  rcases ap_cases t d with ⟨hz, e⟩ | ⟨hz, e⟩
  · rcases ap_cases t d2 with ⟨hz2, e2⟩ | ⟨hz2, e2⟩
    · unfold eTb eDl
      simp +contextual (maxSteps := 5000000) only [go_sem, ↓reduceIte]
      refine M_join (fun _ : Unit => ⟨[(2, .loc 2 0), (3, .loc 3 0), (5, .bool true), (7, .loc 7 0), (8, .int .i64 (apE t d))], [(2, .blk (eTb t) false), (3, .blk (eDl d) false), (7, .blk [.nil, .nil] false)]⟩) (fun _ => True) ?_ ?_
      · have hd1x : dDl [.sl 1 (d.A.map eS), .sl 1 (d.B.map eS), .sl 2 (d.cols.map eP), .int .i64 d.na, .int .i64 d.nb, .sl 2 (d.rows.map eP), .sl 2 (d.dels.map eL), .sl 2 (d.inss.map eL), .sl 6 (d.sets.map eD6), .sl 3 (d.lost.map eSp), .sl 3 (d.gain.map eSp)] = d := hd1
        simp +contextual (maxSteps := 5000000) only [go_sem, ↓reduceIte, c_xAp, k1, e, eTb, eDl]
        exact ⟨(), trivial⟩
      intro _ _
      unfold eTb eDl
      simp +contextual (maxSteps := 5000000) only [go_sem, ↓reduceIte]
      refine M_join (fun _ : Unit => ⟨[(2, .loc 2 0), (3, .loc 3 0), (5, .bool true), (7, .loc 7 0), (8, .int .i64 (apE t d)), (9, .loc 9 0), (10, .int .i64 (apE t d))], [(2, .blk (eTb t) false), (3, .blk (eDl d) false), (7, .blk [.nil, .nil] false), (9, .blk [.nil, .nil] false)]⟩) (fun _ => True) ?_ ?_
      · have hd1x : dDl [.sl 1 (d.A.map eS), .sl 1 (d.B.map eS), .sl 2 (d.cols.map eP), .int .i64 d.na, .int .i64 d.nb, .sl 2 (d.rows.map eP), .sl 2 (d.dels.map eL), .sl 2 (d.inss.map eL), .sl 6 (d.sets.map eD6), .sl 3 (d.lost.map eSp), .sl 3 (d.gain.map eSp)] = d := hd1
        simp +contextual (maxSteps := 5000000) only [go_sem, ↓reduceIte, c_rAp, k3, e, hd1x, eTb, eDl]
        exact ⟨(), trivial⟩
      intro _ _
      unfold eTb eDl
      simp +contextual (maxSteps := 5000000) only [go_sem, ↓reduceIte]
      refine M_join (fun _ : Unit => ⟨[(2, .loc 2 0), (3, .loc 3 0), (5, .bool true), (7, .loc 7 0), (8, .int .i64 (apE t d)), (9, .loc 9 0), (10, .int .i64 (apE t d)), (11, .loc 11 0), (12, .int .i64 (apE t d2))], [(2, .blk (eTb t) false), (3, .blk (eDl d) false), (7, .blk [.nil, .nil] false), (9, .blk [.nil, .nil] false), (11, .blk [.nil, .nil] false)]⟩) (fun _ => True) ?_ ?_
      · have hd1x : dDl [.sl 1 (d.A.map eS), .sl 1 (d.B.map eS), .sl 2 (d.cols.map eP), .int .i64 d.na, .int .i64 d.nb, .sl 2 (d.rows.map eP), .sl 2 (d.dels.map eL), .sl 2 (d.inss.map eL), .sl 6 (d.sets.map eD6), .sl 3 (d.lost.map eSp), .sl 3 (d.gain.map eSp)] = d := hd1
        simp +contextual (maxSteps := 5000000) only [go_sem, ↓reduceIte, c_xBk, k2, hDT, e2, eTb, eDl]
        exact ⟨(), trivial⟩
      intro _ _
      unfold eTb eDl
      simp +contextual (maxSteps := 5000000) only [go_sem, ↓reduceIte]
      refine M_join (fun _ : Unit => ⟨[(2, .loc 2 0), (3, .loc 3 0), (5, .bool true), (7, .loc 7 0), (8, .int .i64 (apE t d)), (9, .loc 9 0), (10, .int .i64 (apE t d)), (11, .loc 11 0), (12, .int .i64 (apE t d2)), (13, .loc 13 0), (14, .int .i64 (apE t d2))], [(2, .blk (eTb t) false), (3, .blk (eDl d) false), (7, .blk [.nil, .nil] false), (9, .blk [.nil, .nil] false), (11, .blk [.nil, .nil] false), (13, .blk [.nil, .nil] false)]⟩) (fun _ => True) ?_ ?_
      · have hd2x : dDl [.sl 1 (d2.A.map eS), .sl 1 (d2.B.map eS), .sl 2 (d2.cols.map eP), .int .i64 d2.na, .int .i64 d2.nb, .sl 2 (d2.rows.map eP), .sl 2 (d2.dels.map eL), .sl 2 (d2.inss.map eL), .sl 6 (d2.sets.map eD6), .sl 3 (d2.lost.map eSp), .sl 3 (d2.gain.map eSp)] = d2 := hd2
        have hex : (∃ _ : Unit, True) := ⟨(), trivial⟩
        simp +contextual (maxSteps := 5000000) only [go_sem, ↓reduceIte]
        refine M_tree treeT (by show chkTr _ _ _ _ = true; kernel_rfl) ?_
        unfold treeT
        simp +contextual (maxSteps := 5000000) only [go_sem, ↓reduceIte, c_xTn, k4, c_rAp, k3, e2, hDT, hd2x, eTb, eDl, hex]
      intro _ _
      unfold eTb eDl
      simp +contextual (maxSteps := 5000000) only [go_sem, ↓reduceIte]
      refine M_join (fun _ : Unit => ⟨[(2, .loc 2 0), (3, .loc 3 0), (5, .bool true), (8, .int .i64 (apE t d)), (10, .int .i64 (apE t d)), (12, .int .i64 (apE t d2)), (14, .int .i64 (apE t d2)), (15, .bool true)], [(2, .blk (eTb t) false), (3, .blk (eDl d) false)]⟩) (fun _ => True) ?_ ?_
      · have hw0 : dTb [D.nil, D.nil] = ([], []) := rfl
        rw [eTb_lit (resT t d)] at hr1
        rw [eTb_lit (resT t d2)] at hr2
        simp +contextual (maxSteps := 5000000) only [go_sem, ↓reduceIte, c_xSm, st_xSm, eTb, eDl, hw0, hr1, hr2]
        exact ⟨(), trivial⟩
      intro _ _
      unfold eTb eDl
      simp +contextual (maxSteps := 5000000) only [go_sem, ↓reduceIte]
      refine M_join (fun _ : Unit => ⟨[(2, .loc 2 0), (3, .loc 3 0), (5, .bool true), (8, .int .i64 (apE t d)), (10, .int .i64 (apE t d)), (12, .int .i64 (apE t d2)), (14, .int .i64 (apE t d2)), (15, .bool true), (16, .bool (heldF t d))], [(2, .blk (eTb t) false), (3, .blk (eDl d) false)]⟩) (fun _ => True) ?_ ?_
      · simp +contextual (maxSteps := 5000000) only [go_sem, ↓reduceIte, c_rHd, k5, eTb, eDl]
        exact ⟨(), trivial⟩
      intro _ _
      unfold eTb eDl
      simp +contextual (maxSteps := 5000000) only [go_sem, ↓reduceIte, c_Hd, k6, eTb, eDl]
    · unfold eTb eDl
      simp +contextual (maxSteps := 5000000) only [go_sem, ↓reduceIte]
      refine M_join (fun _ : Unit => ⟨[(2, .loc 2 0), (3, .loc 3 0), (5, .bool true), (7, .loc 7 0), (8, .int .i64 (apE t d))], [(2, .blk (eTb t) false), (3, .blk (eDl d) false), (7, .blk [.nil, .nil] false)]⟩) (fun _ => True) ?_ ?_
      · have hd1x : dDl [.sl 1 (d.A.map eS), .sl 1 (d.B.map eS), .sl 2 (d.cols.map eP), .int .i64 d.na, .int .i64 d.nb, .sl 2 (d.rows.map eP), .sl 2 (d.dels.map eL), .sl 2 (d.inss.map eL), .sl 6 (d.sets.map eD6), .sl 3 (d.lost.map eSp), .sl 3 (d.gain.map eSp)] = d := hd1
        simp +contextual (maxSteps := 5000000) only [go_sem, ↓reduceIte, c_xAp, k1, e, eTb, eDl]
        exact ⟨(), trivial⟩
      intro _ _
      unfold eTb eDl
      simp +contextual (maxSteps := 5000000) only [go_sem, ↓reduceIte]
      refine M_join (fun _ : Unit => ⟨[(2, .loc 2 0), (3, .loc 3 0), (5, .bool true), (7, .loc 7 0), (8, .int .i64 (apE t d)), (9, .loc 9 0), (10, .int .i64 (apE t d))], [(2, .blk (eTb t) false), (3, .blk (eDl d) false), (7, .blk [.nil, .nil] false), (9, .blk [.nil, .nil] false)]⟩) (fun _ => True) ?_ ?_
      · have hd1x : dDl [.sl 1 (d.A.map eS), .sl 1 (d.B.map eS), .sl 2 (d.cols.map eP), .int .i64 d.na, .int .i64 d.nb, .sl 2 (d.rows.map eP), .sl 2 (d.dels.map eL), .sl 2 (d.inss.map eL), .sl 6 (d.sets.map eD6), .sl 3 (d.lost.map eSp), .sl 3 (d.gain.map eSp)] = d := hd1
        simp +contextual (maxSteps := 5000000) only [go_sem, ↓reduceIte, c_rAp, k3, e, hd1x, eTb, eDl]
        exact ⟨(), trivial⟩
      intro _ _
      unfold eTb eDl
      simp +contextual (maxSteps := 5000000) only [go_sem, ↓reduceIte]
      refine M_join (fun _ : Unit => ⟨[(2, .loc 2 0), (3, .loc 3 0), (5, .bool true), (7, .loc 7 0), (8, .int .i64 (apE t d)), (9, .loc 9 0), (10, .int .i64 (apE t d)), (11, .loc 11 0), (12, .int .i64 0)], [(2, .blk (eTb t) false), (3, .blk (eDl d) false), (7, .blk [.nil, .nil] false), (9, .blk [.nil, .nil] false), (11, .blk (eTb (resT t d2)) false)]⟩) (fun _ => True) ?_ ?_
      · have hd1x : dDl [.sl 1 (d.A.map eS), .sl 1 (d.B.map eS), .sl 2 (d.cols.map eP), .int .i64 d.na, .int .i64 d.nb, .sl 2 (d.rows.map eP), .sl 2 (d.dels.map eL), .sl 2 (d.inss.map eL), .sl 6 (d.sets.map eD6), .sl 3 (d.lost.map eSp), .sl 3 (d.gain.map eSp)] = d := hd1
        simp +contextual (maxSteps := 5000000) only [go_sem, ↓reduceIte, c_xBk, k2, hDT, e2, eTb, eDl]
        exact ⟨(), trivial⟩
      intro _ _
      unfold eTb eDl
      simp +contextual (maxSteps := 5000000) only [go_sem, ↓reduceIte]
      refine M_join (fun _ : Unit => ⟨[(2, .loc 2 0), (3, .loc 3 0), (5, .bool true), (7, .loc 7 0), (8, .int .i64 (apE t d)), (9, .loc 9 0), (10, .int .i64 (apE t d)), (11, .loc 11 0), (12, .int .i64 0), (13, .loc 13 0), (14, .int .i64 0)], [(2, .blk (eTb t) false), (3, .blk (eDl d) false), (7, .blk [.nil, .nil] false), (9, .blk [.nil, .nil] false), (11, .blk (eTb (resT t d2)) false), (13, .blk (eTb (resT t d2)) false)]⟩) (fun _ => True) ?_ ?_
      · have hd2x : dDl [.sl 1 (d2.A.map eS), .sl 1 (d2.B.map eS), .sl 2 (d2.cols.map eP), .int .i64 d2.na, .int .i64 d2.nb, .sl 2 (d2.rows.map eP), .sl 2 (d2.dels.map eL), .sl 2 (d2.inss.map eL), .sl 6 (d2.sets.map eD6), .sl 3 (d2.lost.map eSp), .sl 3 (d2.gain.map eSp)] = d2 := hd2
        have hex : (∃ _ : Unit, True) := ⟨(), trivial⟩
        simp +contextual (maxSteps := 5000000) only [go_sem, ↓reduceIte]
        refine M_tree treeT (by show chkTr _ _ _ _ = true; kernel_rfl) ?_
        unfold treeT
        simp +contextual (maxSteps := 5000000) only [go_sem, ↓reduceIte, c_xTn, k4, c_rAp, k3, e2, hDT, hd2x, eTb, eDl, hex]
      intro _ _
      unfold eTb eDl
      simp +contextual (maxSteps := 5000000) only [go_sem, ↓reduceIte]
      refine M_join (fun _ : Unit => ⟨[(2, .loc 2 0), (3, .loc 3 0), (5, .bool true), (8, .int .i64 (apE t d)), (10, .int .i64 (apE t d)), (12, .int .i64 0), (14, .int .i64 0), (15, .bool true)], [(2, .blk (eTb t) false), (3, .blk (eDl d) false)]⟩) (fun _ => True) ?_ ?_
      · have hw0 : dTb [D.nil, D.nil] = ([], []) := rfl
        rw [eTb_lit (resT t d)] at hr1
        rw [eTb_lit (resT t d2)] at hr2
        simp +contextual (maxSteps := 5000000) only [go_sem, ↓reduceIte, c_xSm, st_xSm, eTb, eDl, hw0, hr1, hr2]
        exact ⟨(), trivial⟩
      intro _ _
      unfold eTb eDl
      simp +contextual (maxSteps := 5000000) only [go_sem, ↓reduceIte]
      refine M_join (fun _ : Unit => ⟨[(2, .loc 2 0), (3, .loc 3 0), (5, .bool true), (8, .int .i64 (apE t d)), (10, .int .i64 (apE t d)), (12, .int .i64 0), (14, .int .i64 0), (15, .bool true), (16, .bool (heldF t d))], [(2, .blk (eTb t) false), (3, .blk (eDl d) false)]⟩) (fun _ => True) ?_ ?_
      · simp +contextual (maxSteps := 5000000) only [go_sem, ↓reduceIte, c_rHd, k5, eTb, eDl]
        exact ⟨(), trivial⟩
      intro _ _
      unfold eTb eDl
      simp +contextual (maxSteps := 5000000) only [go_sem, ↓reduceIte, c_Hd, k6, eTb, eDl]
  · rcases ap_cases t d2 with ⟨hz2, e2⟩ | ⟨hz2, e2⟩
    · unfold eTb eDl
      simp +contextual (maxSteps := 5000000) only [go_sem, ↓reduceIte]
      refine M_join (fun _ : Unit => ⟨[(2, .loc 2 0), (3, .loc 3 0), (5, .bool true), (7, .loc 7 0), (8, .int .i64 0)], [(2, .blk (eTb t) false), (3, .blk (eDl d) false), (7, .blk (eTb (resT t d)) false)]⟩) (fun _ => True) ?_ ?_
      · have hd1x : dDl [.sl 1 (d.A.map eS), .sl 1 (d.B.map eS), .sl 2 (d.cols.map eP), .int .i64 d.na, .int .i64 d.nb, .sl 2 (d.rows.map eP), .sl 2 (d.dels.map eL), .sl 2 (d.inss.map eL), .sl 6 (d.sets.map eD6), .sl 3 (d.lost.map eSp), .sl 3 (d.gain.map eSp)] = d := hd1
        simp +contextual (maxSteps := 5000000) only [go_sem, ↓reduceIte, c_xAp, k1, e, eTb, eDl]
        exact ⟨(), trivial⟩
      intro _ _
      unfold eTb eDl
      simp +contextual (maxSteps := 5000000) only [go_sem, ↓reduceIte]
      refine M_join (fun _ : Unit => ⟨[(2, .loc 2 0), (3, .loc 3 0), (5, .bool true), (7, .loc 7 0), (8, .int .i64 0), (9, .loc 9 0), (10, .int .i64 0)], [(2, .blk (eTb t) false), (3, .blk (eDl d) false), (7, .blk (eTb (resT t d)) false), (9, .blk (eTb (resT t d)) false)]⟩) (fun _ => True) ?_ ?_
      · have hd1x : dDl [.sl 1 (d.A.map eS), .sl 1 (d.B.map eS), .sl 2 (d.cols.map eP), .int .i64 d.na, .int .i64 d.nb, .sl 2 (d.rows.map eP), .sl 2 (d.dels.map eL), .sl 2 (d.inss.map eL), .sl 6 (d.sets.map eD6), .sl 3 (d.lost.map eSp), .sl 3 (d.gain.map eSp)] = d := hd1
        simp +contextual (maxSteps := 5000000) only [go_sem, ↓reduceIte, c_rAp, k3, e, hd1x, eTb, eDl]
        exact ⟨(), trivial⟩
      intro _ _
      unfold eTb eDl
      simp +contextual (maxSteps := 5000000) only [go_sem, ↓reduceIte]
      refine M_join (fun _ : Unit => ⟨[(2, .loc 2 0), (3, .loc 3 0), (5, .bool true), (7, .loc 7 0), (8, .int .i64 0), (9, .loc 9 0), (10, .int .i64 0), (11, .loc 11 0), (12, .int .i64 (apE t d2))], [(2, .blk (eTb t) false), (3, .blk (eDl d) false), (7, .blk (eTb (resT t d)) false), (9, .blk (eTb (resT t d)) false), (11, .blk [.nil, .nil] false)]⟩) (fun _ => True) ?_ ?_
      · have hd1x : dDl [.sl 1 (d.A.map eS), .sl 1 (d.B.map eS), .sl 2 (d.cols.map eP), .int .i64 d.na, .int .i64 d.nb, .sl 2 (d.rows.map eP), .sl 2 (d.dels.map eL), .sl 2 (d.inss.map eL), .sl 6 (d.sets.map eD6), .sl 3 (d.lost.map eSp), .sl 3 (d.gain.map eSp)] = d := hd1
        simp +contextual (maxSteps := 5000000) only [go_sem, ↓reduceIte, c_xBk, k2, hDT, e2, eTb, eDl]
        exact ⟨(), trivial⟩
      intro _ _
      unfold eTb eDl
      simp +contextual (maxSteps := 5000000) only [go_sem, ↓reduceIte]
      refine M_join (fun _ : Unit => ⟨[(2, .loc 2 0), (3, .loc 3 0), (5, .bool true), (7, .loc 7 0), (8, .int .i64 0), (9, .loc 9 0), (10, .int .i64 0), (11, .loc 11 0), (12, .int .i64 (apE t d2)), (13, .loc 13 0), (14, .int .i64 (apE t d2))], [(2, .blk (eTb t) false), (3, .blk (eDl d) false), (7, .blk (eTb (resT t d)) false), (9, .blk (eTb (resT t d)) false), (11, .blk [.nil, .nil] false), (13, .blk [.nil, .nil] false)]⟩) (fun _ => True) ?_ ?_
      · have hd2x : dDl [.sl 1 (d2.A.map eS), .sl 1 (d2.B.map eS), .sl 2 (d2.cols.map eP), .int .i64 d2.na, .int .i64 d2.nb, .sl 2 (d2.rows.map eP), .sl 2 (d2.dels.map eL), .sl 2 (d2.inss.map eL), .sl 6 (d2.sets.map eD6), .sl 3 (d2.lost.map eSp), .sl 3 (d2.gain.map eSp)] = d2 := hd2
        have hex : (∃ _ : Unit, True) := ⟨(), trivial⟩
        simp +contextual (maxSteps := 5000000) only [go_sem, ↓reduceIte]
        refine M_tree treeT (by show chkTr _ _ _ _ = true; kernel_rfl) ?_
        unfold treeT
        simp +contextual (maxSteps := 5000000) only [go_sem, ↓reduceIte, c_xTn, k4, c_rAp, k3, e2, hDT, hd2x, eTb, eDl, hex]
      intro _ _
      unfold eTb eDl
      simp +contextual (maxSteps := 5000000) only [go_sem, ↓reduceIte]
      refine M_join (fun _ : Unit => ⟨[(2, .loc 2 0), (3, .loc 3 0), (5, .bool true), (8, .int .i64 0), (10, .int .i64 0), (12, .int .i64 (apE t d2)), (14, .int .i64 (apE t d2)), (15, .bool true)], [(2, .blk (eTb t) false), (3, .blk (eDl d) false)]⟩) (fun _ => True) ?_ ?_
      · have hw0 : dTb [D.nil, D.nil] = ([], []) := rfl
        rw [eTb_lit (resT t d)] at hr1
        rw [eTb_lit (resT t d2)] at hr2
        simp +contextual (maxSteps := 5000000) only [go_sem, ↓reduceIte, c_xSm, st_xSm, eTb, eDl, hw0, hr1, hr2]
        exact ⟨(), trivial⟩
      intro _ _
      unfold eTb eDl
      simp +contextual (maxSteps := 5000000) only [go_sem, ↓reduceIte]
      refine M_join (fun _ : Unit => ⟨[(2, .loc 2 0), (3, .loc 3 0), (5, .bool true), (8, .int .i64 0), (10, .int .i64 0), (12, .int .i64 (apE t d2)), (14, .int .i64 (apE t d2)), (15, .bool true), (16, .bool (heldF t d))], [(2, .blk (eTb t) false), (3, .blk (eDl d) false)]⟩) (fun _ => True) ?_ ?_
      · simp +contextual (maxSteps := 5000000) only [go_sem, ↓reduceIte, c_rHd, k5, eTb, eDl]
        exact ⟨(), trivial⟩
      intro _ _
      unfold eTb eDl
      simp +contextual (maxSteps := 5000000) only [go_sem, ↓reduceIte, c_Hd, k6, eTb, eDl]
    · unfold eTb eDl
      simp +contextual (maxSteps := 5000000) only [go_sem, ↓reduceIte]
      refine M_join (fun _ : Unit => ⟨[(2, .loc 2 0), (3, .loc 3 0), (5, .bool true), (7, .loc 7 0), (8, .int .i64 0)], [(2, .blk (eTb t) false), (3, .blk (eDl d) false), (7, .blk (eTb (resT t d)) false)]⟩) (fun _ => True) ?_ ?_
      · have hd1x : dDl [.sl 1 (d.A.map eS), .sl 1 (d.B.map eS), .sl 2 (d.cols.map eP), .int .i64 d.na, .int .i64 d.nb, .sl 2 (d.rows.map eP), .sl 2 (d.dels.map eL), .sl 2 (d.inss.map eL), .sl 6 (d.sets.map eD6), .sl 3 (d.lost.map eSp), .sl 3 (d.gain.map eSp)] = d := hd1
        simp +contextual (maxSteps := 5000000) only [go_sem, ↓reduceIte, c_xAp, k1, e, eTb, eDl]
        exact ⟨(), trivial⟩
      intro _ _
      unfold eTb eDl
      simp +contextual (maxSteps := 5000000) only [go_sem, ↓reduceIte]
      refine M_join (fun _ : Unit => ⟨[(2, .loc 2 0), (3, .loc 3 0), (5, .bool true), (7, .loc 7 0), (8, .int .i64 0), (9, .loc 9 0), (10, .int .i64 0)], [(2, .blk (eTb t) false), (3, .blk (eDl d) false), (7, .blk (eTb (resT t d)) false), (9, .blk (eTb (resT t d)) false)]⟩) (fun _ => True) ?_ ?_
      · have hd1x : dDl [.sl 1 (d.A.map eS), .sl 1 (d.B.map eS), .sl 2 (d.cols.map eP), .int .i64 d.na, .int .i64 d.nb, .sl 2 (d.rows.map eP), .sl 2 (d.dels.map eL), .sl 2 (d.inss.map eL), .sl 6 (d.sets.map eD6), .sl 3 (d.lost.map eSp), .sl 3 (d.gain.map eSp)] = d := hd1
        simp +contextual (maxSteps := 5000000) only [go_sem, ↓reduceIte, c_rAp, k3, e, hd1x, eTb, eDl]
        exact ⟨(), trivial⟩
      intro _ _
      unfold eTb eDl
      simp +contextual (maxSteps := 5000000) only [go_sem, ↓reduceIte]
      refine M_join (fun _ : Unit => ⟨[(2, .loc 2 0), (3, .loc 3 0), (5, .bool true), (7, .loc 7 0), (8, .int .i64 0), (9, .loc 9 0), (10, .int .i64 0), (11, .loc 11 0), (12, .int .i64 0)], [(2, .blk (eTb t) false), (3, .blk (eDl d) false), (7, .blk (eTb (resT t d)) false), (9, .blk (eTb (resT t d)) false), (11, .blk (eTb (resT t d2)) false)]⟩) (fun _ => True) ?_ ?_
      · have hd1x : dDl [.sl 1 (d.A.map eS), .sl 1 (d.B.map eS), .sl 2 (d.cols.map eP), .int .i64 d.na, .int .i64 d.nb, .sl 2 (d.rows.map eP), .sl 2 (d.dels.map eL), .sl 2 (d.inss.map eL), .sl 6 (d.sets.map eD6), .sl 3 (d.lost.map eSp), .sl 3 (d.gain.map eSp)] = d := hd1
        simp +contextual (maxSteps := 5000000) only [go_sem, ↓reduceIte, c_xBk, k2, hDT, e2, eTb, eDl]
        exact ⟨(), trivial⟩
      intro _ _
      unfold eTb eDl
      simp +contextual (maxSteps := 5000000) only [go_sem, ↓reduceIte]
      refine M_join (fun _ : Unit => ⟨[(2, .loc 2 0), (3, .loc 3 0), (5, .bool true), (7, .loc 7 0), (8, .int .i64 0), (9, .loc 9 0), (10, .int .i64 0), (11, .loc 11 0), (12, .int .i64 0), (13, .loc 13 0), (14, .int .i64 0)], [(2, .blk (eTb t) false), (3, .blk (eDl d) false), (7, .blk (eTb (resT t d)) false), (9, .blk (eTb (resT t d)) false), (11, .blk (eTb (resT t d2)) false), (13, .blk (eTb (resT t d2)) false)]⟩) (fun _ => True) ?_ ?_
      · have hd2x : dDl [.sl 1 (d2.A.map eS), .sl 1 (d2.B.map eS), .sl 2 (d2.cols.map eP), .int .i64 d2.na, .int .i64 d2.nb, .sl 2 (d2.rows.map eP), .sl 2 (d2.dels.map eL), .sl 2 (d2.inss.map eL), .sl 6 (d2.sets.map eD6), .sl 3 (d2.lost.map eSp), .sl 3 (d2.gain.map eSp)] = d2 := hd2
        have hex : (∃ _ : Unit, True) := ⟨(), trivial⟩
        simp +contextual (maxSteps := 5000000) only [go_sem, ↓reduceIte]
        refine M_tree treeT (by show chkTr _ _ _ _ = true; kernel_rfl) ?_
        unfold treeT
        simp +contextual (maxSteps := 5000000) only [go_sem, ↓reduceIte, c_xTn, k4, c_rAp, k3, e2, hDT, hd2x, eTb, eDl, hex]
      intro _ _
      unfold eTb eDl
      simp +contextual (maxSteps := 5000000) only [go_sem, ↓reduceIte]
      refine M_join (fun _ : Unit => ⟨[(2, .loc 2 0), (3, .loc 3 0), (5, .bool true), (8, .int .i64 0), (10, .int .i64 0), (12, .int .i64 0), (14, .int .i64 0), (15, .bool true)], [(2, .blk (eTb t) false), (3, .blk (eDl d) false)]⟩) (fun _ => True) ?_ ?_
      · have hw0 : dTb [D.nil, D.nil] = ([], []) := rfl
        rw [eTb_lit (resT t d)] at hr1
        rw [eTb_lit (resT t d2)] at hr2
        simp +contextual (maxSteps := 5000000) only [go_sem, ↓reduceIte, c_xSm, st_xSm, eTb, eDl, hw0, hr1, hr2]
        exact ⟨(), trivial⟩
      intro _ _
      unfold eTb eDl
      simp +contextual (maxSteps := 5000000) only [go_sem, ↓reduceIte]
      refine M_join (fun _ : Unit => ⟨[(2, .loc 2 0), (3, .loc 3 0), (5, .bool true), (8, .int .i64 0), (10, .int .i64 0), (12, .int .i64 0), (14, .int .i64 0), (15, .bool true), (16, .bool (heldF t d))], [(2, .blk (eTb t) false), (3, .blk (eDl d) false)]⟩) (fun _ => True) ?_ ?_
      · simp +contextual (maxSteps := 5000000) only [go_sem, ↓reduceIte, c_rHd, k5, eTb, eDl]
        exact ⟨(), trivial⟩
      intro _ _
      unfold eTb eDl
      simp +contextual (maxSteps := 5000000) only [go_sem, ↓reduceIte, c_Hd, k6, eTb, eDl]
end Go.Proofs.YtknkjakppikjeaaGreat
