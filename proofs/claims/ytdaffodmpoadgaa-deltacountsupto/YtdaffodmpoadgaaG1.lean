/-
  What the functions compute that the law of this claim reaches. By an AI agent.
-/
import Derived.Test.YtdaffodmpoadgaaG0
set_option linter.unusedSimpArgs false
set_option linter.unusedVariables false

set_option linter.unusedSimpArgs false
namespace Go.Proofs.Ytdaffodmpoadgaa
open Go.Tn
set_option maxHeartbeats 8000000
set_option maxRecDepth 100000
/- pairs of so many with themselves -/
def ownAt (l : List (Int × Int)) (k : Nat) : Prop := ∀ j, j < k → l.getD j (0, 0) = ((j : Int), (j : Int))
def ownF (l : List (Int × Int)) (n : Int) : Bool := (List.range l.length).all (fun j => decide (l.getD j (0, 0) = ((j : Int), (j : Int)))) && decide ((l.length : Int) = n)
theorem fc_own (l : List (Int × Int)) (n : Int) (hl : l.length < 1000000000) : FC Try.prog 45 [] [.sl 2 (l.map eP), .int .i64 n] (.ret (.bool (ownF l n))) := by
  refine fc_M (fn := Try.f45) (C := (tab [] [])) (rs := [4]) mixed (by kernel_rfl) (by kernel_rfl) rfl rfl (by kernel_rfl) (by intro ys h; cases h) ?_
  simp +contextual (maxSteps := 5000000) only [go_sem, ↓reduceIte]
  intro _
  refine M_loopI (fun i : Nat => ⟨[(0, .sl 2 (l.map eP)), (1, .int .i64 n), (7, .sl 2 (l.map eP)), (8, .int .i64 l.length), (9, .int .i64 i)], []⟩) (fun i => l.length - i) (fun i => i ≤ l.length ∧ ownAt l i) 0 ?_ ?_
  · simp +contextual (maxSteps := 5000000) only [go_sem, ↓reduceIte]
    exact ⟨rfl, fun j hj => absurd hj (Nat.not_lt_zero j)⟩
  · intro i hi
    obtain ⟨hi, ho⟩ := hi
    by_cases hlt : i < l.length
    · have no : l.getD i (0, 0) ≠ ((i : Int), (i : Int)) → ownF l n = false := fun h => by
        unfold ownF
        rw [Bool.and_eq_false_iff]; left
        rw [List.all_eq_false]
        exact ⟨i, List.mem_range.2 hlt, by simpa using h⟩
      by_cases q1 : (l.getD i (0, 0)).1 = i
      · by_cases q2 : (l.getD i (0, 0)).2 = i
        · simp +contextual (maxSteps := 5000000) only [go_sem, ↓reduceIte, eI_at, eI_set, List.length_set, tn_add, tn_add1, tn_sub, tn_sub1, sh1, sh1b, half_cast, hlt, eP_at, q1, q2]
          refine ⟨inR64 (by omega) (by omega), fun _ => ⟨i + 1, by simp, by omega, by omega, fun j hj => ?_⟩⟩
          rcases lt_cases hj with h | rfl
          · exact ho j h
          · exact Prod.ext q1 q2
        · simp +contextual (maxSteps := 5000000) only [go_sem, ↓reduceIte, eI_at, eI_set, List.length_set, tn_add, tn_add1, tn_sub, tn_sub1, sh1, sh1b, half_cast, hlt, eP_at, q1, q2]
          exact (no (fun h => q2 (by rw [h]))).symm
      · simp +contextual (maxSteps := 5000000) only [go_sem, ↓reduceIte, eI_at, eI_set, List.length_set, tn_add, tn_add1, tn_sub, tn_sub1, sh1, sh1b, half_cast, hlt, eP_at, q1]
        exact (no (fun h => q1 (by rw [h]))).symm
    · have ha : (List.range l.length).all (fun j => decide (l.getD j (0, 0) = ((j : Int), (j : Int)))) = true := by
        rw [List.all_eq_true]
        intro j hj
        exact decide_eq_true (ho j (by have := List.mem_range.1 hj; omega))
      have hf : ownF l n = decide ((l.length : Int) = n) := by unfold ownF; rw [ha, Bool.true_and]
      rw [hf]
      simp +contextual (maxSteps := 5000000) only [go_sem, ↓reduceIte, hlt]
end Go.Proofs.Ytdaffodmpoadgaa

set_option linter.unusedSimpArgs false
namespace Go.Proofs.Ytdaffodmpoadgaa
open Go.Tn
set_option maxHeartbeats 8000000
set_option maxRecDepth 100000
theorem fc_EqualS (l k : List (Str)) : FC Try.prog 44 [] [.sl 1 (l.map eS), .sl 1 (k.map eS)] (.ret (.bool (decide (l = k)))) := by
  refine fc_M (fn := Try.f44) (C := (tab [] [])) (rs := [4]) mixed (by kernel_rfl) (by kernel_rfl) rfl rfl (by kernel_rfl) (by intro ys h; cases h) ?_
  by_cases hlen : l.length = k.length
  · simp +contextual (maxSteps := 5000000) only [go_sem, ↓reduceIte, hlen]
    intro _
    refine M_loopI (fun i : Nat => ⟨[(0, .sl 1 (l.map eS)), (1, .sl 1 (k.map eS)), (11, .sl 1 (l.map eS)), (12, .int .i64 k.length), (13, .int .i64 i)], []⟩) (fun i => l.length - i) (fun i => i ≤ l.length ∧ ∀ j, j < i → l.getD j [] = k.getD j []) 0 ?_ ?_
    · simp +contextual (maxSteps := 5000000) only [go_sem, ↓reduceIte]
      rfl
    · intro i hi
      obtain ⟨hi, ho⟩ := hi
      by_cases hlt : i < k.length
      · have ha := eS_at l i (by omega)
        have hb := eS_at k i hlt
        have hl2 : i < l.length := by omega
        generalize hx : l.getD i [] = x at ha
        generalize hy : k.getD i [] = y at hb
        by_cases q : x = y
        · subst q
          simp +contextual (maxSteps := 5000000) only [go_sem, ↓reduceIte, hlt, hl2, ha, hb, eq_self]
          try intro _
          refine ⟨inR64 (by omega) (by omega), fun _ => ⟨i + 1, by simp, by omega, by omega, fun j hj => ?_⟩⟩
          rcases lt_cases hj with h | rfl
          · exact ho j h
          · rw [hx, hy]
        · have hne : ¬ l = k := fun h => q (by rw [← hx, ← hy, h])
          have hd : decide (l = k) = false := decide_eq_false hne
          rw [hd]
          simp +contextual (maxSteps := 5000000) only [go_sem, ↓reduceIte, hlt, hl2, ha, hb, q]
      · have hd : decide (l = k) = true := decide_eq_true (eq_of_at [] hlen (fun j hj => ho j (by omega)))
        rw [hd]
        have hl3 : ¬ i < l.length := by omega
        simp +contextual (maxSteps := 5000000) only [go_sem, ↓reduceIte, hlt, hl3]
  · have hd : decide (l = k) = false := decide_eq_false (fun h => hlen (by rw [h]))
    rw [hd]
    simp +contextual (maxSteps := 5000000) only [go_sem, ↓reduceIte, hlen]
theorem fc_RefS (l k : List (Str)) : FC Try.prog 15 [] [.sl 1 (l.map eS), .sl 1 (k.map eS)] (.ret (.bool (decide (l = k)))) := by
  refine fc_M (fn := Try.f15) (C := (tab [] [])) (rs := [4]) mixed (by kernel_rfl) (by kernel_rfl) rfl rfl (by kernel_rfl) (by intro ys h; cases h) ?_
  by_cases hlen : l.length = k.length
  · simp +contextual (maxSteps := 5000000) only [go_sem, ↓reduceIte, hlen]
    intro _
    refine M_loopI (fun i : Nat => ⟨[(0, .sl 1 (l.map eS)), (1, .sl 1 (k.map eS)), (5, .int .i64 i)], []⟩) (fun i => l.length - i) (fun i => i ≤ l.length ∧ ∀ j, j < i → l.getD j [] = k.getD j []) 0 ?_ ?_
    · simp +contextual (maxSteps := 5000000) only [go_sem, ↓reduceIte]
      rfl
    · intro i hi
      obtain ⟨hi, ho⟩ := hi
      by_cases hlt : i < k.length
      · have ha := eS_at l i (by omega)
        have hb := eS_at k i hlt
        have hl2 : i < l.length := by omega
        generalize hx : l.getD i [] = x at ha
        generalize hy : k.getD i [] = y at hb
        by_cases q : x = y
        · subst q
          simp +contextual (maxSteps := 5000000) only [go_sem, ↓reduceIte, hlt, hl2, ha, hb, eq_self]
          try intro _
          refine ⟨inR64 (by omega) (by omega), fun _ => ⟨i + 1, by simp, by omega, by omega, fun j hj => ?_⟩⟩
          rcases lt_cases hj with h | rfl
          · exact ho j h
          · rw [hx, hy]
        · have hne : ¬ l = k := fun h => q (by rw [← hx, ← hy, h])
          have hd : decide (l = k) = false := decide_eq_false hne
          rw [hd]
          simp +contextual (maxSteps := 5000000) only [go_sem, ↓reduceIte, hlt, hl2, ha, hb, q]
      · have hd : decide (l = k) = true := decide_eq_true (eq_of_at [] hlen (fun j hj => ho j (by omega)))
        rw [hd]
        have hl3 : ¬ i < l.length := by omega
        simp +contextual (maxSteps := 5000000) only [go_sem, ↓reduceIte, hlt, hl3]
        try exact fun _ => rfl
  · have hd : decide (l = k) = false := decide_eq_false (fun h => hlen (by rw [h]))
    rw [hd]
    simp +contextual (maxSteps := 5000000) only [go_sem, ↓reduceIte, hlen]
theorem fc_EqualP (l k : List (Int × Int)) : FC Try.prog 47 [] [.sl 2 (l.map eP), .sl 2 (k.map eP)] (.ret (.bool (decide (l = k)))) := by
  refine fc_M (fn := Try.f47) (C := (tab [] [])) (rs := [4]) mixed (by kernel_rfl) (by kernel_rfl) rfl rfl (by kernel_rfl) (by intro ys h; cases h) ?_
  by_cases hlen : l.length = k.length
  · simp +contextual (maxSteps := 5000000) only [go_sem, ↓reduceIte, hlen]
    intro _
    refine M_loopI (fun i : Nat => ⟨[(0, .sl 2 (l.map eP)), (1, .sl 2 (k.map eP)), (11, .sl 2 (l.map eP)), (12, .int .i64 k.length), (13, .int .i64 i)], []⟩) (fun i => l.length - i) (fun i => i ≤ l.length ∧ ∀ j, j < i → l.getD j (0, 0) = k.getD j (0, 0)) 0 ?_ ?_
    · simp +contextual (maxSteps := 5000000) only [go_sem, ↓reduceIte]
      rfl
    · intro i hi
      obtain ⟨hi, ho⟩ := hi
      by_cases hlt : i < k.length
      · have ha := eP_at l i (by omega)
        have hb := eP_at k i hlt
        have hl2 : i < l.length := by omega
        generalize hx : l.getD i (0, 0) = x at ha
        generalize hy : k.getD i (0, 0) = y at hb
        by_cases q : x = y
        · subst q
          simp +contextual (maxSteps := 5000000) only [go_sem, ↓reduceIte, hlt, hl2, ha, hb, eq_self]
          try intro _
          refine ⟨inR64 (by omega) (by omega), fun _ => ⟨i + 1, by simp, by omega, by omega, fun j hj => ?_⟩⟩
          rcases lt_cases hj with h | rfl
          · exact ho j h
          · rw [hx, hy]
        · have hne : ¬ l = k := fun h => q (by rw [← hx, ← hy, h])
          have hd : decide (l = k) = false := decide_eq_false hne
          rw [hd]
          simp +contextual (maxSteps := 5000000) only [go_sem, ↓reduceIte, hlt, hl2, ha, hb]
          first | exact fun h => (h fun e1 e2 => q (Prod.ext e1 e2)).elim | exact fun _ h => (h fun e1 e2 => q (Prod.ext e1 e2)).elim
      · have hd : decide (l = k) = true := decide_eq_true (eq_of_at (0, 0) hlen (fun j hj => ho j (by omega)))
        rw [hd]
        have hl3 : ¬ i < l.length := by omega
        simp +contextual (maxSteps := 5000000) only [go_sem, ↓reduceIte, hlt, hl3]
  · have hd : decide (l = k) = false := decide_eq_false (fun h => hlen (by rw [h]))
    rw [hd]
    simp +contextual (maxSteps := 5000000) only [go_sem, ↓reduceIte, hlen]
theorem fc_RefP (l k : List (Int × Int)) : FC Try.prog 16 [] [.sl 2 (l.map eP), .sl 2 (k.map eP)] (.ret (.bool (decide (l = k)))) := by
  refine fc_M (fn := Try.f16) (C := (tab [] [])) (rs := [4]) mixed (by kernel_rfl) (by kernel_rfl) rfl rfl (by kernel_rfl) (by intro ys h; cases h) ?_
  by_cases hlen : l.length = k.length
  · simp +contextual (maxSteps := 5000000) only [go_sem, ↓reduceIte, hlen]
    intro _
    refine M_loopI (fun i : Nat => ⟨[(0, .sl 2 (l.map eP)), (1, .sl 2 (k.map eP)), (5, .int .i64 i)], []⟩) (fun i => l.length - i) (fun i => i ≤ l.length ∧ ∀ j, j < i → l.getD j (0, 0) = k.getD j (0, 0)) 0 ?_ ?_
    · simp +contextual (maxSteps := 5000000) only [go_sem, ↓reduceIte]
      rfl
    · intro i hi
      obtain ⟨hi, ho⟩ := hi
      by_cases hlt : i < k.length
      · have ha := eP_at l i (by omega)
        have hb := eP_at k i hlt
        have hl2 : i < l.length := by omega
        generalize hx : l.getD i (0, 0) = x at ha
        generalize hy : k.getD i (0, 0) = y at hb
        by_cases q : x = y
        · subst q
          simp +contextual (maxSteps := 5000000) only [go_sem, ↓reduceIte, hlt, hl2, ha, hb, eq_self]
          try intro _
          refine ⟨inR64 (by omega) (by omega), fun _ => ⟨i + 1, by simp, by omega, by omega, fun j hj => ?_⟩⟩
          rcases lt_cases hj with h | rfl
          · exact ho j h
          · rw [hx, hy]
        · have hne : ¬ l = k := fun h => q (by rw [← hx, ← hy, h])
          have hd : decide (l = k) = false := decide_eq_false hne
          rw [hd]
          simp +contextual (maxSteps := 5000000) only [go_sem, ↓reduceIte, hlt, hl2, ha, hb]
          first | exact fun h => (h fun e1 e2 => q (Prod.ext e1 e2)).elim | exact fun _ h => (h fun e1 e2 => q (Prod.ext e1 e2)).elim
      · have hd : decide (l = k) = true := decide_eq_true (eq_of_at (0, 0) hlen (fun j hj => ho j (by omega)))
        rw [hd]
        have hl3 : ¬ i < l.length := by omega
        simp +contextual (maxSteps := 5000000) only [go_sem, ↓reduceIte, hlt, hl3]
        try exact fun _ => rfl
  · have hd : decide (l = k) = false := decide_eq_false (fun h => hlen (by rw [h]))
    rw [hd]
    simp +contextual (maxSteps := 5000000) only [go_sem, ↓reduceIte, hlen]
theorem fc_Equal6 (l k : List (St6)) : FC Try.prog 49 [] [.sl 6 (l.map eD6), .sl 6 (k.map eD6)] (.ret (.bool (decide (l = k)))) := by
  refine fc_M (fn := Try.f49) (C := (tab [] [])) (rs := [4]) mixed (by kernel_rfl) (by kernel_rfl) rfl rfl (by kernel_rfl) (by intro ys h; cases h) ?_
  by_cases hlen : l.length = k.length
  · simp +contextual (maxSteps := 5000000) only [go_sem, ↓reduceIte, hlen]
    intro _
    refine M_loopI (fun i : Nat => ⟨[(0, .sl 6 (l.map eD6)), (1, .sl 6 (k.map eD6)), (11, .sl 6 (l.map eD6)), (12, .int .i64 k.length), (13, .int .i64 i)], []⟩) (fun i => l.length - i) (fun i => i ≤ l.length ∧ ∀ j, j < i → l.getD j default = k.getD j default) 0 ?_ ?_
    · simp +contextual (maxSteps := 5000000) only [go_sem, ↓reduceIte]
      rfl
    · intro i hi
      obtain ⟨hi, ho⟩ := hi
      by_cases hlt : i < k.length
      · have ha := eD6_at l i (by omega)
        have hb := eD6_at k i hlt
        have hl2 : i < l.length := by omega
        generalize hx : l.getD i default = x at ha
        generalize hy : k.getD i default = y at hb
        by_cases q : x = y
        · subst q
          simp +contextual (maxSteps := 5000000) only [go_sem, ↓reduceIte, hlt, hl2, ha, hb, eq_self]
          try intro _
          refine ⟨inR64 (by omega) (by omega), fun _ => ⟨i + 1, by simp, by omega, by omega, fun j hj => ?_⟩⟩
          rcases lt_cases hj with h | rfl
          · exact ho j h
          · rw [hx, hy]
        · have hne : ¬ l = k := fun h => q (by rw [← hx, ← hy, h])
          have hd : decide (l = k) = false := decide_eq_false hne
          rw [hd]
          simp +contextual (maxSteps := 5000000) only [go_sem, ↓reduceIte, hlt, hl2, ha, hb]
          first | exact fun h => (h fun e1 e2 e3 e4 e5 e6 => q (by cases x; cases y; simp_all)).elim | exact fun _ h => (h fun e1 e2 e3 e4 e5 e6 => q (by cases x; cases y; simp_all)).elim
      · have hd : decide (l = k) = true := decide_eq_true (eq_of_at default hlen (fun j hj => ho j (by omega)))
        rw [hd]
        have hl3 : ¬ i < l.length := by omega
        simp +contextual (maxSteps := 5000000) only [go_sem, ↓reduceIte, hlt, hl3]
  · have hd : decide (l = k) = false := decide_eq_false (fun h => hlen (by rw [h]))
    rw [hd]
    simp +contextual (maxSteps := 5000000) only [go_sem, ↓reduceIte, hlen]
theorem fc_Ref6 (l k : List (St6)) : FC Try.prog 18 [] [.sl 6 (l.map eD6), .sl 6 (k.map eD6)] (.ret (.bool (decide (l = k)))) := by
  refine fc_M (fn := Try.f18) (C := (tab [] [])) (rs := [4]) mixed (by kernel_rfl) (by kernel_rfl) rfl rfl (by kernel_rfl) (by intro ys h; cases h) ?_
  by_cases hlen : l.length = k.length
  · simp +contextual (maxSteps := 5000000) only [go_sem, ↓reduceIte, hlen]
    intro _
    refine M_loopI (fun i : Nat => ⟨[(0, .sl 6 (l.map eD6)), (1, .sl 6 (k.map eD6)), (5, .int .i64 i)], []⟩) (fun i => l.length - i) (fun i => i ≤ l.length ∧ ∀ j, j < i → l.getD j default = k.getD j default) 0 ?_ ?_
    · simp +contextual (maxSteps := 5000000) only [go_sem, ↓reduceIte]
      rfl
    · intro i hi
      obtain ⟨hi, ho⟩ := hi
      by_cases hlt : i < k.length
      · have ha := eD6_at l i (by omega)
        have hb := eD6_at k i hlt
        have hl2 : i < l.length := by omega
        generalize hx : l.getD i default = x at ha
        generalize hy : k.getD i default = y at hb
        by_cases q : x = y
        · subst q
          simp +contextual (maxSteps := 5000000) only [go_sem, ↓reduceIte, hlt, hl2, ha, hb, eq_self]
          try intro _
          refine ⟨inR64 (by omega) (by omega), fun _ => ⟨i + 1, by simp, by omega, by omega, fun j hj => ?_⟩⟩
          rcases lt_cases hj with h | rfl
          · exact ho j h
          · rw [hx, hy]
        · have hne : ¬ l = k := fun h => q (by rw [← hx, ← hy, h])
          have hd : decide (l = k) = false := decide_eq_false hne
          rw [hd]
          simp +contextual (maxSteps := 5000000) only [go_sem, ↓reduceIte, hlt, hl2, ha, hb]
          first | exact fun h => (h fun e1 e2 e3 e4 e5 e6 => q (by cases x; cases y; simp_all)).elim | exact fun _ h => (h fun e1 e2 e3 e4 e5 e6 => q (by cases x; cases y; simp_all)).elim
      · have hd : decide (l = k) = true := decide_eq_true (eq_of_at default hlen (fun j hj => ho j (by omega)))
        rw [hd]
        have hl3 : ¬ i < l.length := by omega
        simp +contextual (maxSteps := 5000000) only [go_sem, ↓reduceIte, hlt, hl3]
        try exact fun _ => rfl
  · have hd : decide (l = k) = false := decide_eq_false (fun h => hlen (by rw [h]))
    rw [hd]
    simp +contextual (maxSteps := 5000000) only [go_sem, ↓reduceIte, hlen]
theorem fc_EqualSp (l k : List (Sp)) : FC Try.prog 50 [] [.sl 3 (l.map eSp), .sl 3 (k.map eSp)] (.ret (.bool (decide (l = k)))) := by
  refine fc_M (fn := Try.f50) (C := (tab [] [])) (rs := [4]) mixed (by kernel_rfl) (by kernel_rfl) rfl rfl (by kernel_rfl) (by intro ys h; cases h) ?_
  by_cases hlen : l.length = k.length
  · simp +contextual (maxSteps := 5000000) only [go_sem, ↓reduceIte, hlen]
    intro _
    refine M_loopI (fun i : Nat => ⟨[(0, .sl 3 (l.map eSp)), (1, .sl 3 (k.map eSp)), (11, .sl 3 (l.map eSp)), (12, .int .i64 k.length), (13, .int .i64 i)], []⟩) (fun i => l.length - i) (fun i => i ≤ l.length ∧ ∀ j, j < i → l.getD j (0, 0, []) = k.getD j (0, 0, [])) 0 ?_ ?_
    · simp +contextual (maxSteps := 5000000) only [go_sem, ↓reduceIte]
      rfl
    · intro i hi
      obtain ⟨hi, ho⟩ := hi
      by_cases hlt : i < k.length
      · have ha := eSp_at l i (by omega)
        have hb := eSp_at k i hlt
        have hl2 : i < l.length := by omega
        generalize hx : l.getD i (0, 0, []) = x at ha
        generalize hy : k.getD i (0, 0, []) = y at hb
        by_cases q : x = y
        · subst q
          simp +contextual (maxSteps := 5000000) only [go_sem, ↓reduceIte, hlt, hl2, ha, hb, eq_self]
          try intro _
          refine ⟨inR64 (by omega) (by omega), fun _ => ⟨i + 1, by simp, by omega, by omega, fun j hj => ?_⟩⟩
          rcases lt_cases hj with h | rfl
          · exact ho j h
          · rw [hx, hy]
        · have hne : ¬ l = k := fun h => q (by rw [← hx, ← hy, h])
          have hd : decide (l = k) = false := decide_eq_false hne
          rw [hd]
          simp +contextual (maxSteps := 5000000) only [go_sem, ↓reduceIte, hlt, hl2, ha, hb]
          first | exact fun h => (h fun e1 e2 e3 => q (Prod.ext e1 (Prod.ext e2 e3))).elim | exact fun _ h => (h fun e1 e2 e3 => q (Prod.ext e1 (Prod.ext e2 e3))).elim
      · have hd : decide (l = k) = true := decide_eq_true (eq_of_at (0, 0, []) hlen (fun j hj => ho j (by omega)))
        rw [hd]
        have hl3 : ¬ i < l.length := by omega
        simp +contextual (maxSteps := 5000000) only [go_sem, ↓reduceIte, hlt, hl3]
  · have hd : decide (l = k) = false := decide_eq_false (fun h => hlen (by rw [h]))
    rw [hd]
    simp +contextual (maxSteps := 5000000) only [go_sem, ↓reduceIte, hlen]
theorem fc_RefSp (l k : List (Sp)) : FC Try.prog 19 [] [.sl 3 (l.map eSp), .sl 3 (k.map eSp)] (.ret (.bool (decide (l = k)))) := by
  refine fc_M (fn := Try.f19) (C := (tab [] [])) (rs := [4]) mixed (by kernel_rfl) (by kernel_rfl) rfl rfl (by kernel_rfl) (by intro ys h; cases h) ?_
  by_cases hlen : l.length = k.length
  · simp +contextual (maxSteps := 5000000) only [go_sem, ↓reduceIte, hlen]
    intro _
    refine M_loopI (fun i : Nat => ⟨[(0, .sl 3 (l.map eSp)), (1, .sl 3 (k.map eSp)), (5, .int .i64 i)], []⟩) (fun i => l.length - i) (fun i => i ≤ l.length ∧ ∀ j, j < i → l.getD j (0, 0, []) = k.getD j (0, 0, [])) 0 ?_ ?_
    · simp +contextual (maxSteps := 5000000) only [go_sem, ↓reduceIte]
      rfl
    · intro i hi
      obtain ⟨hi, ho⟩ := hi
      by_cases hlt : i < k.length
      · have ha := eSp_at l i (by omega)
        have hb := eSp_at k i hlt
        have hl2 : i < l.length := by omega
        generalize hx : l.getD i (0, 0, []) = x at ha
        generalize hy : k.getD i (0, 0, []) = y at hb
        by_cases q : x = y
        · subst q
          simp +contextual (maxSteps := 5000000) only [go_sem, ↓reduceIte, hlt, hl2, ha, hb, eq_self]
          try intro _
          refine ⟨inR64 (by omega) (by omega), fun _ => ⟨i + 1, by simp, by omega, by omega, fun j hj => ?_⟩⟩
          rcases lt_cases hj with h | rfl
          · exact ho j h
          · rw [hx, hy]
        · have hne : ¬ l = k := fun h => q (by rw [← hx, ← hy, h])
          have hd : decide (l = k) = false := decide_eq_false hne
          rw [hd]
          simp +contextual (maxSteps := 5000000) only [go_sem, ↓reduceIte, hlt, hl2, ha, hb]
          first | exact fun h => (h fun e1 e2 e3 => q (Prod.ext e1 (Prod.ext e2 e3))).elim | exact fun _ h => (h fun e1 e2 e3 => q (Prod.ext e1 (Prod.ext e2 e3))).elim
      · have hd : decide (l = k) = true := decide_eq_true (eq_of_at (0, 0, []) hlen (fun j hj => ho j (by omega)))
        rw [hd]
        have hl3 : ¬ i < l.length := by omega
        simp +contextual (maxSteps := 5000000) only [go_sem, ↓reduceIte, hlt, hl3]
        try exact fun _ => rfl
  · have hd : decide (l = k) = false := decide_eq_false (fun h => hlen (by rw [h]))
    rw [hd]
    simp +contextual (maxSteps := 5000000) only [go_sem, ↓reduceIte, hlen]
end Go.Proofs.Ytdaffodmpoadgaa

set_option linter.unusedSimpArgs false
namespace Go.Proofs.Ytdaffodmpoadgaa
open Go.Tn
set_option maxHeartbeats 8000000
set_option maxRecDepth 100000
def c_EqS (caps args : List D) : Prop × Out := match caps, args with | [], [.sl 1 a, .sl 1 b] => (a = (a.map dS).map eS ∧ b = (b.map dS).map eS, .ret (.bool (decide (a.map dS = b.map dS)))) | _, _ => (False, .ret .any)
theorem st_EqS : StC Try.prog 44 c_EqS := by
  intro caps args; unfold c_EqS; split
  · rename_i a b
    rintro ⟨h1, h2⟩
    have := fc_EqualS (a.map dS) (b.map dS)
    rw [← h1, ← h2] at this
    exact this
  · exact fun h => h.elim
def c_own (caps args : List D) : Prop × Out := match caps, args with | [], [.sl 2 a, .int .i64 n] => (a = (a.map dP).map eP ∧ a.length < 1000000000, .ret (.bool (ownF (a.map dP) n))) | _, _ => (False, .ret .any)
theorem st_own : StC Try.prog 45 c_own := by
  intro caps args; unfold c_own; split
  · rename_i a n
    rintro ⟨h1, h2⟩
    have := fc_own (a.map dP) n (by simpa using h2)
    rw [← h1] at this
    exact this
  · exact fun h => h.elim
def noneF (d : Dl) : Bool := decide (d.A = d.B) && ownF d.cols d.A.length && decide (d.na = d.nb) && ownF d.rows d.na && decide (d.dels.length + d.inss.length + d.sets.length + d.lost.length + d.gain.length = 0)
theorem fc_None (d : Dl) (h : okDl d) : FC Try.prog 12 [] [.agg (eDl d)] (.ret (.bool (noneF d))) := by
  obtain ⟨hA, hB, hco, hro, hde, hin, hse, hlo, hga, hce⟩ := h
  refine fc_M (fn := Try.f12) (C := (tab [(44, c_EqS), (45, c_own)] [] [5001])) (rs := [2]) mixed (by kernel_rfl) (by kernel_rfl) rfl rfl (by kernel_rfl) (by intro ys h; cases h) ?_
  unfold eDl
  simp +contextual (maxSteps := 5000000) only [go_sem, ↓reduceIte]
  refine M_join (fun _ : Unit => ⟨[(1, .loc 1 0), (3, .int .i64 (d.dels.length + d.inss.length + d.sets.length + d.lost.length + d.gain.length))], [(1, .blk (eDl d) false)]⟩) (fun _ => True) ?_ ?_
  · simp +contextual (maxSteps := 5000000) only [go_sem, ↓reduceIte, eDl]
    refine fun _ _ => ⟨inR64 (by omega) (by omega), fun _ _ => ⟨inR64 (by omega) (by omega), fun _ _ => ⟨inR64 (by omega) (by omega), fun _ _ => ⟨inR64 (by omega) (by omega), fun _ => ⟨(), trivial⟩⟩⟩⟩⟩
  · intro _ _
    unfold eDl noneF
    have er : ((d.dels.length : Int) + d.inss.length + d.sets.length + d.lost.length + d.gain.length = 0) = (d.dels.length + d.inss.length + d.sets.length + d.lost.length + d.gain.length = 0) := by apply propext; omega
    by_cases a : d.A = d.B
    · simp +contextual (maxSteps := 5000000) only [go_sem, ↓reduceIte, c_EqS, st_EqS, dS_eS, c_own, st_own, dP_eP, a, decide_true]
      refine fun _ => ⟨by omega, fun b c => ⟨by omega, fun e => ?_⟩⟩
      exact decide_eq_decide.2 (by omega)
    · simp +contextual (maxSteps := 5000000) only [go_sem, ↓reduceIte, c_EqS, st_EqS, dS_eS, a]
end Go.Proofs.Ytdaffodmpoadgaa

set_option linter.unusedSimpArgs false
namespace Go.Proofs.Ytdaffodmpoadgaa
open Go.Tn
set_option maxHeartbeats 8000000
set_option maxRecDepth 100000
theorem tyErrno : (tyOf Try.prog 33) = ⟨.int .i64, [.int .i64 0], [], 0, 0, false, 0, 8⟩ := by kernel_rfl
theorem tfErrno : TyFact Try.prog 33 ⟨.int .i64, [.int .i64 0], [], 0, 0, false, 0, 8⟩ := by
  have h := tyOf_fact (P := Try.prog) (t := 33) (by rw [tyErrno]; intro h; cases h)
  rwa [tyErrno] at h
theorem dg_Check : DfG Try.prog 28 33 := by
  have h0 : (Try.prog.funcs[28]?) = some Try.f28 := by kernel_rfl
  have hs : (Try.prog.funcs[28]?).isSome = true := by rw [h0]; rfl
  refine ⟨⟨Try.f28, h0, by kernel_rfl, by kernel_rfl⟩, fun ad w => ?_, fun ad x n w hc hz => ?_⟩
  · refine callsDIn_of_wpSIn (fn := Try.f28) h0 rfl hs fun c₀ cs hu => ?_
    apply wpSIn_seq
    apply wpSIn_region
    simp [wpOpsSIn, go_sem, recoverD, hu, Exit.thenS, run_ta_nil tfErrno rfl rfl, Instr.extract, Try.f28]
    apply wpSIn_seq
    apply wpSIn_region
    simp [wpOpsSIn, go_sem, Exit.thenS]
    refine wpSIn_cond (t := false) (by simp [Act.eval, Array.replicate]) ?_
    simp only [Bool.false_eq_true, if_false]
    refine wpSIn_of_wpIn rfl (wpIn_skip ?_)
    cases c₀
    simp_all [bodyPostS, results, Try.f28]
  · refine callsDIn_of_wpSIn (fn := Try.f28) h0 rfl hs fun c₀ cs hu => ?_
    apply wpSIn_seq
    apply wpSIn_region
    simp [wpOpsSIn, go_sem, recoverD, hu, Exit.thenS, run_ta_yes tfErrno rfl, Instr.extract, Try.f28]
    apply wpSIn_seq
    apply wpSIn_region
    simp [wpOpsSIn, go_sem, Exit.thenS]
    refine wpSIn_cond (t := true) (by simp [Act.eval, Array.replicate]) ?_
    simp only [if_true]
    apply wpSIn_region
    simp [wpOpsSIn, go_sem, hc, hz, bodyPostS, results, Try.f28]
end Go.Proofs.Ytdaffodmpoadgaa

set_option linter.unusedSimpArgs false
namespace Go.Proofs.Ytdaffodmpoadgaa
open Go.Tn
set_option maxHeartbeats 8000000
set_option maxRecDepth 100000
def dL (r : List D) : Ln := (iOf (r.headD .any), (rowsOf (r.tail.headD .any)).map dS)
def dSp (r : List D) : Sp := (iOf (r.headD .any), iOf (r.tail.headD .any), sOf (r.tail.tail.headD .any))
theorem dL_eL (l : List Ln) : (l.map eL).map dL = l := by
  induction l with
  | nil => rfl
  | cons x l ih =>
    rw [List.map_cons, List.map_cons, ih]
    simp only [dL, eL, List.headD_cons, List.tail_cons, rowsOf, iOf]
    rw [dS_eS]
theorem dSp_eSp (l : List Sp) : (l.map eSp).map dSp = l := by induction l <;> simp_all [eSp, dSp, iOf, sOf]
def c_mL (caps args : List D) : Prop × Out := match caps, args with
  | [], [.sl 2 rows, .fn g [] [.box [.sl 1 ks]], .fn h [] [.box [.int .i64 w]]] => (((g = 62 ∧ h = 35) ∧ rows = (rows.map dL).map eL ∧ ks = (ks.map dI).map eI) ∧ rows.length < 1000000000 ∧ ks.length < 1000000000, mtO (mtF (isL w) (rows.map dL) (ks.map dI)))
  | _, _ => (False, .ret .any)
theorem st_mL : StC Try.prog 36 c_mL := by
  intro caps args; unfold c_mL; split
  · rename_i rows g ks h w
    rintro ⟨⟨⟨rfl, rfl⟩, h1, h2⟩, h3, h4⟩
    have := fc_matchL (rows.map dL) w (ks.map dI) (by simpa using h3) (by simpa using h4)
    rw [← h1, ← h2] at this
    exact this
  · exact fun h => h.elim
def c_mS (caps args : List D) : Prop × Out := match caps, args with
  | [], [.sl 3 rows, .fn g [] [.box [.sl 1 a], .box [.sl 1 b]], .fn h [] []] => (((g = 63 ∧ h = 38) ∧ rows = (rows.map dSp).map eSp ∧ a = (a.map dI).map eI ∧ b = (b.map dI).map eI) ∧ rows.length < 1000000000 ∧ a.length < 1000000000 ∧ b.length < 1000000000, mtO (mtF isS (rows.map dSp) (crF (a.map dI) (b.map dI))))
  | _, _ => (False, .ret .any)
theorem st_mS : StC Try.prog 39 c_mS := by
  intro caps args; unfold c_mS; split
  · rename_i rows g a b h
    rintro ⟨⟨⟨rfl, rfl⟩, h1, h2, h5⟩, h3, h4, h6⟩
    have := fc_matchS (rows.map dSp) (a.map dI) (b.map dI) (by simpa using h3) (by simpa using h4) (by simpa using h6)
    rw [← h1, ← h2, ← h5] at this
    exact this
  · exact fun h => h.elim
def c_ord (caps args : List D) : Prop × Out := match caps, args with
  | [], [.agg [.int .i64 a, .int .i64 b, .int .i64 c, .int .i64 d, .str e, .str f], .agg [.int .i64 a', .int .i64 b', .int .i64 c', .int .i64 d', .str e', .str f']] => (True, .ret (.int .i64 (ordF ⟨a, b, c, d, e, f⟩ ⟨a', b', c', d', e', f'⟩)))
  | _, _ => (False, .ret .any)
theorem st_ord : StC Try.prog 21 c_ord := by
  intro caps args; unfold c_ord; split
  · exact fun _ => fc_order ⟨_, _, _, _, _, _⟩ ⟨_, _, _, _, _, _⟩
  · exact fun h => h.elim
def c_tx (d : Dl) (caps args : List D) : Prop × Out := match caps, args with
  | [], [x] => (x = .agg (eDl d), .ret (.fn 66 [] [.box (eDl d)]))
  | _, _ => (False, .ret .any)
theorem st_tx (d : Dl) : StC Try.prog 43 (c_tx d) := by
  intro caps args; unfold c_tx; split
  · rintro rfl; exact fc_texts d
  · exact fun h => h.elim
def c_tx1 (d : Dl) (caps args : List D) : Prop × Out := match caps, args with
  | [.box cs], [] => (cs = eDl d ∧ okDl d, .seq ((txF d).map eS))
  | _, _ => (False, .ret .any)
theorem st_tx1 (d : Dl) : StC Try.prog 66 (c_tx1 d) := by
  intro caps args; unfold c_tx1; split
  · rintro ⟨rfl, h⟩; exact fc_texts1 d h
  · exact fun h => h.elim
def setAt6 (d : Dl) (i : Nat) : St6 := d.sets.getD i default
def okS (d : Dl) (i : Nat) : Bool :=
  let x := setAt6 d i
  decide ((x.i, x.j) ∈ d.rows) && decide ((x.p, x.q) ∈ d.cols) && decide (x.o ≠ x.n) && (decide (i = 0) || decide (ordF (setAt6 d (i - 1)) x < 0))
def goneR (d : Dl) : List Int := rsL (d.rows.map (·.1)) d.na.toNat
def newR' (d : Dl) : List Int := rsL (d.rows.map (·.2)) d.nb.toNat
def goneC (d : Dl) : List Int := rsL (d.cols.map (·.1)) d.A.length
def newC (d : Dl) : List Int := rsL (d.cols.map (·.2)) d.B.length
def chkD (d : Dl) : Int :=
  if ¬ (0 < d.A.length ∧ 0 < d.B.length) then 8
  else if ¬ (onceF d.A = true ∧ onceF d.B = true) then 10
  else if ¬ ((d.A.length ≤ 40 ∧ d.B.length ≤ 40) ∧ d.na ≤ 400 ∧ d.nb ≤ 400) then 7
  else if chk d.cols d.A.length d.B.length ≠ 0 then chk d.cols d.A.length d.B.length
  else if chk d.rows d.na d.nb ≠ 0 then chk d.rows d.na d.nb
  else if ¬ (mtF (isL d.A.length) d.dels (goneR d) = true ∧ mtF (isL d.B.length) d.inss (newR' d) = true) then 13
  else if ¬ (mtF isS d.lost (crF (wiF (goneR d) d.na.toNat) (goneC d)) = true ∧ mtF isS d.gain (crF (wiF (newR' d) d.nb.toNat) (newC d)) = true) then 13
  else if ∃ i, i < d.sets.length ∧ okS d i = false then 13
  else if ∃ s ∈ txF d, 1000 < s.length then 7 else 0
theorem gI (l : List Int) : gndL (l.map eI).flatten = true := gnd_eI l
theorem fc_DCheck (d : Dl) (h : okDl d) (hna : d.na < 1000000000) (hnb : d.nb < 1000000000) : FC Try.prog 11 [] [.agg (eDl d)] (.ret (.int .i64 (chkD d))) := by
  have hh := h
  obtain ⟨hA, hB, hco, hro, hde, hin, hse, hlo, hga, hce⟩ := h
  refine fcd_of (fn := Try.f11) (g := 28) (et := 33) (rt := 33) (r := 2) (tf := 14) (i := 2) (C := tab [(31, c_Check), (32, c_RestA), (33, c_RestB), (30, c_once), (29, c_need), (34, c_whole), (37, c_Values), (36, c_mL), (41, c_within), (40, c_cross), (39, c_mS), (42, c_contP), (21, c_ord), (43, c_tx d), (66, c_tx1 d)] [] [5002, 5003, 5004, 5005, 5011, 5013, 5014, 5016, 5017, 9013, 9014, 9016, 9017, 9022])
    (hd := ⟨[(1, .loc 1 0), (2, .loc 2 0)], [(1, .blk (eDl d) false), (2, .blk [.int .i64 0] false)]⟩) mixed (by kernel_rfl) (by kernel_rfl) rfl rfl tfErrno rfl ⟨rfl, rfl, rfl⟩ ⟨rfl, rfl, rfl⟩ ⟨by decide, by decide⟩ ⟨by kernel_rfl, by kernel_rfl⟩ (by kernel_rfl) dg_Check ⟨rfl, rfl, trivial⟩ ?_ ?_
  · unfold eDl
    simp +contextual (maxSteps := 5000000) only [go_sem, ↓reduceIte]
  · unfold eDl
    simp +contextual (maxSteps := 5000000) only [go_sem, ↓reduceIte]
    refine M_join (fun _ : Unit => ⟨[(1, .loc 1 0), (2, .loc 2 0)], [(1, .blk (eDl d) false), (2, .blk [.int .i64 0] false)]⟩) (fun _ => 0 < d.A.length ∧ 0 < d.B.length) ?_ ?_
    · have e8 : ¬ (0 < d.A.length ∧ 0 < d.B.length) → 8 = chkD d := fun h => by unfold chkD; rw [if_pos h]
      by_cases a : (0 : Int) < d.A.length
      · by_cases b : (0 : Int) < d.B.length
        · simp +contextual (maxSteps := 5000000) only [go_sem, ↓reduceIte, a, b, c_need, st_need, eDl, finD, resB, panB, panE, locR]
          exact fun _ _ => ⟨(), by omega, by omega⟩
        · simp +contextual (maxSteps := 5000000) only [go_sem, ↓reduceIte, a, b, c_need, st_need, eDl, finD, resB, panB, panE, locR]
          exact fun _ _ => e8 (by omega)
      · simp +contextual (maxSteps := 5000000) only [go_sem, ↓reduceIte, a, c_need, st_need, eDl, finD, resB, panB, panE, locR]
        exact fun _ => e8 (by omega)
    · intro _ p1
      unfold eDl
      simp +contextual (maxSteps := 5000000) only [go_sem, ↓reduceIte]
      refine M_join (fun _ : Unit => ⟨[(1, .loc 1 0), (2, .loc 2 0)], [(1, .blk (eDl d) false), (2, .blk [.int .i64 0] false)]⟩) (fun _ => onceF d.A = true ∧ onceF d.B = true) ?_ ?_
      · have e10 : ¬ (onceF d.A = true ∧ onceF d.B = true) → 10 = chkD d := fun h => by unfold chkD; rw [if_neg (fun h => h p1), if_pos h]
        by_cases a : onceF d.A = true
        · by_cases b : onceF d.B = true
          · simp +contextual (maxSteps := 5000000) only [go_sem, ↓reduceIte, a, b, c_need, st_need, eDl, c_once, st_once, dS_eS, finD, resB, panB, panE, locR]
            exact ⟨by omega, by omega, ⟨(), trivial⟩⟩
          · simp +contextual (maxSteps := 5000000) only [go_sem, ↓reduceIte, a, b, c_need, st_need, eDl, c_once, st_once, dS_eS, finD, resB, panB, panE, locR]
            exact ⟨by omega, by omega, e10 (fun h => b h.2)⟩
        · simp +contextual (maxSteps := 5000000) only [go_sem, ↓reduceIte, a, c_need, st_need, eDl, c_once, st_once, dS_eS, finD, resB, panB, panE, locR]
          exact ⟨by omega, e10 (fun h => a h.1)⟩
      · intro _ p2
        unfold eDl
        simp +contextual (maxSteps := 5000000) only [go_sem, ↓reduceIte]
        refine M_join (fun _ : Unit => ⟨[(1, .loc 1 0), (2, .loc 2 0)], [(1, .blk (eDl d) false), (2, .blk [.int .i64 0] false)]⟩) (fun _ => (d.A.length ≤ 40 ∧ d.B.length ≤ 40) ∧ d.na ≤ 400 ∧ d.nb ≤ 400) ?_ ?_
        · have e7 : ¬ ((d.A.length ≤ 40 ∧ d.B.length ≤ 40) ∧ d.na ≤ 400 ∧ d.nb ≤ 400) → 7 = chkD d := fun h => by unfold chkD; rw [if_neg (fun h => h p1), if_neg (fun h => h p2), if_pos h]
          simp +contextual (maxSteps := 5000000) only [go_sem, ↓reduceIte, c_need, st_need, eDl, finD, resB, panB, panE, locR]
          intro _ _
          split
          · split
            · exact ⟨(), by omega⟩
            · exact e7 (by omega)
          · exact e7 (by omega)
        · intro _ p3
          unfold eDl
          simp +contextual (maxSteps := 5000000) only [go_sem, ↓reduceIte]
          refine M_join (fun _ : Unit => ⟨[(1, .loc 1 0), (2, .loc 2 0), (68, .vec 68 2), (69, .int .i64 2), (70, .int .i64 0)], [(1, .blk (eDl d) false), (2, .blk [.int .i64 0] false), (68, .vec 33 1 ([chk d.cols d.A.length d.B.length, chk d.rows d.na d.nb].map eI) 0)]⟩) (fun _ => True) ?_ ?_
          · simp +contextual (maxSteps := 5000000) only [go_sem, ↓reduceIte, eDl, c_Check, st_Check, dP_eP, eI]
            exact ⟨⟨by omega, by omega, by omega⟩, ⟨by omega, by omega, by omega⟩, ⟨(), rfl⟩⟩
          · intro _ _
            unfold eDl
            simp +contextual (maxSteps := 5000000) only [go_sem, ↓reduceIte]
            obtain ⟨cs, hcs⟩ : ∃ cs, cs = [chk d.cols d.A.length d.B.length, chk d.rows d.na d.nb] := ⟨_, rfl⟩
            have hl : cs.length = 2 := by rw [hcs]; rfl
            have ec : ∀ i, i < 2 → (∀ j, j < i → cs.getD j 0 = 0) → cs.getD i 0 ≠ 0 → cs.getD i 0 = chkD d := fun i hi hz hne => by
              unfold chkD
              rw [if_neg (fun h => h p1), if_neg (fun h => h p2), if_neg (fun h => h p3)]
              have hc : i = 0 ∨ i = 1 := by omega
              rcases hc with rfl | rfl
              · simp only [hcs, List.getD_cons_zero] at hne ⊢
                rw [if_pos hne]
              · have z0 := hz 0 (by omega)
                simp only [hcs, List.getD_cons_zero, List.getD_cons_succ] at hne z0 ⊢
                rw [if_neg (fun h => h z0), if_pos hne]
            refine M_loopI (fun i : Nat => ⟨[(1, .loc 1 0), (2, .loc 2 0), (68, .vec 68 2), (69, .int .i64 (2 : Nat)), (70, .int .i64 i)], [(1, .blk (eDl d) false), (2, .blk [.int .i64 0] false), (68, .vec 33 1 (cs.map eI) 0)]⟩)
              (fun i => 2 - i) (fun i => i ≤ 2 ∧ ∀ j, j < i → cs.getD j 0 = 0) 0 ?_ ?_
            · simp +contextual (maxSteps := 5000000) only [go_sem, ↓reduceIte, eI, hcs, eDl]
              exact ⟨rfl, rfl⟩
            · intro i hi
              by_cases hlt : i < 2
              · have hat := eI_at cs i (by omega)
                simp +contextual (maxSteps := 5000000) only [go_sem, ↓reduceIte, hat, hlt, hl, eDl, c_need, st_need, finD, resB, panB, panE, locR]
                obtain ⟨_, hz⟩ := hi
                split
                · rename_i hze
                  refine ⟨inR64 (by omega) (by omega), fun _ => ⟨i + 1, by simp, by omega, by omega, fun j hj => ?_⟩⟩
                  rcases lt_cases hj with h | rfl
                  · exact hz j h
                  · exact hze
                · rename_i hne
                  exact ec i hlt hz hne
              · obtain ⟨_, hz⟩ := hi
                have z0 := hz 0 (by omega)
                have z1 := hz 1 (by omega)
                simp only [hcs, List.getD_cons_zero, List.getD_cons_succ] at z0 z1
                simp +contextual (maxSteps := 5000000) only [go_sem, ↓reduceIte, hlt, hl, eDl, c_RestA, st_RestA, c_RestB, st_RestB, dP_eP, gI]
                refine ⟨⟨by omega, by omega⟩, ⟨by omega, by omega⟩, ?_⟩
                refine M_join (fun _ : Unit => ⟨[(1, .loc 1 0), (2, .loc 2 0), (5, .sl 1 ((goneR d).map eI)), (6, .sl 1 ((newR' d).map eI)), (7, .sl 1 ((goneC d).map eI)), (8, .sl 1 ((newC d).map eI))], [(1, .blk (eDl d) false), (2, .blk [.int .i64 0] false)]⟩) (fun _ => True) ?_ ?_
                · simp +contextual (maxSteps := 5000000) only [go_sem, ↓reduceIte, eDl, c_RestA, st_RestA, c_RestB, st_RestB, dP_eP, gI]
                  exact ⟨⟨by omega, by omega⟩, ⟨by omega, by omega⟩, ⟨(), rfl, rfl, rfl, rfl⟩⟩
                · intro _ _
                  unfold eDl
                  simp +contextual (maxSteps := 5000000) only [go_sem, ↓reduceIte]
                  have base : chkD d = if ¬ (mtF (isL d.A.length) d.dels (goneR d) = true ∧ mtF (isL d.B.length) d.inss (newR' d) = true) then 13
                      else if ¬ (mtF isS d.lost (crF (wiF (goneR d) d.na.toNat) (goneC d)) = true ∧ mtF isS d.gain (crF (wiF (newR' d) d.nb.toNat) (newC d)) = true) then 13
                      else if ∃ i, i < d.sets.length ∧ okS d i = false then 13
                      else if ∃ s ∈ txF d, 1000 < s.length then 7 else 0 := by
                    conv => lhs; unfold chkD
                    rw [if_neg (fun h => h p1), if_neg (fun h => h p2), if_neg (fun h => h p3), if_neg (fun h => h z0), if_neg (fun h => h z1)]
                  have l1 : (goneR d).length < 1000000000 := Nat.lt_of_le_of_lt (rsL_len _ _) (by omega)
                  have l2 : (newR' d).length < 1000000000 := Nat.lt_of_le_of_lt (rsL_len _ _) (by omega)
                  have l3 : (goneC d).length < 1000000000 := Nat.lt_of_le_of_lt (rsL_len _ _) (by omega)
                  have l4 : (newC d).length < 1000000000 := Nat.lt_of_le_of_lt (rsL_len _ _) (by omega)
                  refine M_join (fun _ : Unit => ⟨[(1, .loc 1 0), (2, .loc 2 0), (5, .sl 1 ((goneR d).map eI)), (6, .sl 1 ((newR' d).map eI)), (7, .sl 1 ((goneC d).map eI)), (8, .sl 1 ((newC d).map eI)), (9, .fn 34 [] [])], [(1, .blk (eDl d) false), (2, .blk [.int .i64 0] false)]⟩) (fun _ => mtF (isL d.A.length) d.dels (goneR d) = true) ?_ ?_
                  · have e13 : ¬ mtF (isL d.A.length) d.dels (goneR d) = true → 13 = chkD d := fun h => by rw [base, if_pos (fun h' => h h'.1)]
                    simp +contextual (maxSteps := 5000000) only [go_sem, ↓reduceIte, eDl, c_Values, st_Values, c_whole, st_whole, c_mL, st_mL, dL_eL, dI_eI, mtO, finD, resB, panB, panE, locR]
                    refine ⟨?_, ?_⟩
                    · show lastA _ = true
                      kernel_rfl
                    refine ⟨⟨by omega, l1⟩, ?_⟩
                    split
                    · exact ⟨(), trivial⟩
                    · rename_i h; exact e13 h
                  · intro _ p4
                    unfold eDl
                    simp +contextual (maxSteps := 5000000) only [go_sem, ↓reduceIte]
                    refine M_join (fun _ : Unit => ⟨[(1, .loc 1 0), (2, .loc 2 0), (5, .sl 1 ((goneR d).map eI)), (6, .sl 1 ((newR' d).map eI)), (7, .sl 1 ((goneC d).map eI)), (8, .sl 1 ((newC d).map eI))], [(1, .blk (eDl d) false), (2, .blk [.int .i64 0] false)]⟩) (fun _ => mtF (isL d.B.length) d.inss (newR' d) = true) ?_ ?_
                    · have e13 : ¬ mtF (isL d.B.length) d.inss (newR' d) = true → 13 = chkD d := fun h => by rw [base, if_pos (fun h' => h h'.2)]
                      simp +contextual (maxSteps := 5000000) only [go_sem, ↓reduceIte, eDl, c_Values, st_Values, c_whole, st_whole, c_mL, st_mL, dL_eL, dI_eI, mtO, finD, resB, panB, panE, locR]
                      refine ⟨?_, ?_⟩
                      · show lastA _ = true
                        kernel_rfl
                      refine ⟨⟨by omega, l2⟩, ?_⟩
                      split
                      · exact ⟨(), trivial⟩
                      · rename_i h; exact e13 h
                    · intro _ p5
                      unfold eDl
                      simp +contextual (maxSteps := 5000000) only [go_sem, ↓reduceIte]
                      have base2 : chkD d = if ¬ (mtF isS d.lost (crF (wiF (goneR d) d.na.toNat) (goneC d)) = true ∧ mtF isS d.gain (crF (wiF (newR' d) d.nb.toNat) (newC d)) = true) then 13
                          else if ∃ i, i < d.sets.length ∧ okS d i = false then 13
                          else if ∃ s ∈ txF d, 1000 < s.length then 7 else 0 := by
                        rw [base, if_neg (fun h => h ⟨p4, p5⟩)]
                      have l5 : (wiF (goneR d) d.na.toNat).length < 1000000000 := Nat.lt_of_le_of_lt (rsL_len _ _) (by omega)
                      have l6 : (wiF (newR' d) d.nb.toNat).length < 1000000000 := Nat.lt_of_le_of_lt (rsL_len _ _) (by omega)
                      refine M_join (fun _ : Unit => ⟨[(1, .loc 1 0), (2, .loc 2 0), (5, .sl 1 ((goneR d).map eI)), (6, .sl 1 ((newR' d).map eI)), (7, .sl 1 ((goneC d).map eI)), (8, .sl 1 ((newC d).map eI)), (10, .fn 38 [] [])], [(1, .blk (eDl d) false), (2, .blk [.int .i64 0] false)]⟩) (fun _ => mtF isS d.lost (crF (wiF (goneR d) d.na.toNat) (goneC d)) = true) ?_ ?_
                      · have e13 : ¬ mtF isS d.lost (crF (wiF (goneR d) d.na.toNat) (goneC d)) = true → 13 = chkD d := fun h => by rw [base2, if_pos (fun h' => h h'.1)]
                        simp +contextual (maxSteps := 5000000) only [go_sem, ↓reduceIte, eDl, c_within, st_within, c_cross, st_cross, c_mS, st_mS, dSp_eSp, dI_eI, gI, mtO, finD, resB, panB, panE, locR]
                        refine ⟨?_, ?_⟩
                        · show lastA _ = true
                          kernel_rfl
                        refine ⟨⟨l1, by omega⟩, ⟨by omega, l5, l3⟩, ?_⟩
                        split
                        · exact ⟨(), trivial⟩
                        · rename_i h; exact e13 h
                      · intro _ p6
                        unfold eDl
                        simp +contextual (maxSteps := 5000000) only [go_sem, ↓reduceIte]
                        refine M_join (fun _ : Unit => ⟨[(1, .loc 1 0), (2, .loc 2 0)], [(1, .blk (eDl d) false), (2, .blk [.int .i64 0] false)]⟩) (fun _ => mtF isS d.gain (crF (wiF (newR' d) d.nb.toNat) (newC d)) = true) ?_ ?_
                        · have e13 : ¬ mtF isS d.gain (crF (wiF (newR' d) d.nb.toNat) (newC d)) = true → 13 = chkD d := fun h => by rw [base2, if_pos (fun h' => h h'.2)]
                          simp +contextual (maxSteps := 5000000) only [go_sem, ↓reduceIte, eDl, c_within, st_within, c_cross, st_cross, c_mS, st_mS, dSp_eSp, dI_eI, gI, mtO, finD, resB, panB, panE, locR]
                          refine ⟨?_, ?_⟩
                          · show lastA _ = true
                            kernel_rfl
                          refine ⟨⟨l2, by omega⟩, ⟨by omega, l6, l4⟩, ?_⟩
                          split
                          · exact ⟨(), trivial⟩
                          · rename_i h; exact e13 h
                        · intro _ p7
                          have base3 : chkD d = if ∃ i, i < d.sets.length ∧ okS d i = false then 13
                              else if ∃ s ∈ txF d, 1000 < s.length then 7 else 0 := by
                            rw [base2, if_neg (fun h => h ⟨p6, p7⟩)]
                          unfold eDl
                          simp +contextual (maxSteps := 5000000) only [go_sem, ↓reduceIte]
                          intro _
                          refine M_loopI (fun i : Nat => ⟨[(1, .loc 1 0), (2, .loc 2 0), (142, .sl 6 (d.sets.map eD6)), (143, .int .i64 d.sets.length), (144, .int .i64 i)], [(1, .blk (eDl d) false), (2, .blk [.int .i64 0] false)]⟩) (fun i => d.sets.length - i) (fun i => i ≤ d.sets.length ∧ ∀ j, j < i → okS d j = true) 0 ?_ ?_
                          · simp +contextual (maxSteps := 5000000) only [go_sem, ↓reduceIte, eDl]
                            rfl
                          · intro i hi
                            obtain ⟨hi, hok⟩ := hi
                            by_cases hlt : i < d.sets.length
                            · have hat := eD6_at d.sets i hlt
                              have hat2 := eD6_at d.sets (i - 1) (by omega)
                              have eb : okS d i = false → 13 = chkD d := fun h => by rw [base3, if_pos ⟨i, hlt, h⟩]
                              have eg : okS d i = true → ∀ j, j < i + 1 → okS d j = true := fun h j hj => by
                                rcases lt_cases hj with h' | rfl
                                · exact hok j h'
                                · exact h
                              have oks : okS d i = (decide (((d.sets.getD i default).i, (d.sets.getD i default).j) ∈ d.rows) && decide (((d.sets.getD i default).p, (d.sets.getD i default).q) ∈ d.cols) && decide ((d.sets.getD i default).o ≠ (d.sets.getD i default).n) && (decide (i = 0) || decide (ordF (d.sets.getD (i - 1) default) (d.sets.getD i default) < 0))) := rfl
                              generalize hx : d.sets.getD i default = x at hat oks
                              generalize hy : d.sets.getD (i - 1) default = y at hat2 oks
                              by_cases q1 : (x.i, x.j) ∈ d.rows
                              · by_cases q2 : (x.p, x.q) ∈ d.cols
                                · by_cases q3 : x.o = x.n
                                  · simp +contextual (maxSteps := 5000000) only [go_sem, ↓reduceIte, eI_at, eI_set, List.length_set, tn_add, tn_add1, tn_sub, tn_sub1, sh1, sh1b, half_cast, hat, hlt, eDl, c_contP, st_contP, dP_eP, q1, q2, q3, c_need, st_need, finD, resB, panB, panE, locR]
                                    refine ⟨by omega, by omega, ?_, ?_⟩
                                    · show lastA _ = true
                                      kernel_rfl
                                    exact eb (by rw [oks, q3]; simp)
                                  · by_cases q4 : i = 0
                                    · subst q4
                                      simp +contextual (maxSteps := 5000000) only [go_sem, ↓reduceIte, eI_at, eI_set, List.length_set, tn_add, tn_add1, tn_sub, tn_sub1, sh1, sh1b, half_cast, hat, hlt, eDl, c_contP, st_contP, dP_eP, q1, q2, q3, z0, c_need, st_need, finD, resB, panB, panE, locR, Int.toNat_zero, Int.reduceToNat, Nat.sub_zero, Nat.le_refl]
                                      refine ⟨by omega, by omega, ?_, ?_⟩
                                      · show lastA _ = true
                                        kernel_rfl
                                      rw [if_neg (by simp)]
                                      exact ⟨inR64 (by omega) (by omega), fun _ => ⟨0 + 1, by simp, by omega, by omega, eg (by rw [oks, decide_eq_true q1, decide_eq_true q2]; simp [q3])⟩⟩
                                    · simp +contextual (maxSteps := 5000000) only [go_sem, ↓reduceIte, eI_at, eI_set, List.length_set, tn_add, tn_add1, tn_sub, tn_sub1, sh1, sh1b, half_cast, hat, hat2, hlt, eDl, c_contP, st_contP, dP_eP, q1, q2, q3, q4, c_ord, st_ord, c_need, st_need, finD, resB, panB, panE, locR]
                                      refine ⟨by omega, by omega, ?_, ?_⟩
                                      · show lastA _ = true
                                        kernel_rfl
                                      rw [if_pos (by omega)]
                                      refine ⟨inR64 (by omega) (by omega), fun _ => ⟨⟨by omega, by omega⟩, fun _ => ?_⟩⟩
                                      split
                                      · rename_i q5
                                        have q5' : ordF y x < 0 := q5
                                        exact ⟨inR64 (by omega) (by omega), fun _ => ⟨i + 1, by simp, by omega, by omega, eg (by rw [oks, decide_eq_true q1, decide_eq_true q2, decide_eq_true q5']; simp [q3])⟩⟩
                                      · rename_i q5
                                        have q5' : ¬ ordF y x < 0 := q5
                                        exact eb (by rw [oks, decide_eq_false q5']; simp [q4])
                                · simp +contextual (maxSteps := 5000000) only [go_sem, ↓reduceIte, eI_at, eI_set, List.length_set, tn_add, tn_add1, tn_sub, tn_sub1, sh1, sh1b, half_cast, hat, hlt, eDl, c_contP, st_contP, dP_eP, q1, q2, c_need, st_need, finD, resB, panB, panE, locR]
                                  exact ⟨by omega, by omega, eb (by rw [oks, decide_eq_false q2]; simp)⟩
                              · simp +contextual (maxSteps := 5000000) only [go_sem, ↓reduceIte, eI_at, eI_set, List.length_set, tn_add, tn_add1, tn_sub, tn_sub1, sh1, sh1b, half_cast, hat, hlt, eDl, c_contP, st_contP, dP_eP, q1, c_need, st_need, finD, resB, panB, panE, locR]
                                exact ⟨by omega, eb (by rw [oks, decide_eq_false q1]; simp)⟩
                            · have base4 : chkD d = if ∃ s ∈ txF d, 1000 < s.length then 7 else 0 := by
                                rw [base3, if_neg]
                                rintro ⟨j, hj, h⟩
                                rw [hok j (by omega)] at h; cases h
                              have ht := st_tx d
                              simp +contextual (maxSteps := 5000000) only [go_sem, ↓reduceIte, hlt, eDl, c_tx, ht]
                              have ht1 := st_tx1 d
                              refine M_range (f := 66) (caps := [.box (eDl d)]) (ys := (txF d).map eS) (pre := (c_tx1 d [.box (eDl d)] []).1) ?_ ?_ ?_ (σ := Unit) [(2, .loc 2 0)] (fun j _ => [(2, .blk [.int .i64 0] false)]) (fun j _ => j ≤ (txF d).length ∧ ∀ k, k < j → ((txF d).getD k []).length ≤ 1000) () ?_ ?_ ?_ ?_
                              · simp +contextual (maxSteps := 5000000) only [go_sem, ↓reduceIte, eDl]
                              · simp +contextual (maxSteps := 5000000) only [go_sem, ↓reduceIte, c_tx1, eDl]
                              · simp +contextual (maxSteps := 5000000) only [go_sem, ↓reduceIte, c_tx1, ht1, eDl]
                                exact hh
                              · simp +contextual (maxSteps := 5000000) only [go_sem, ↓reduceIte]
                                intro y hy
                                obtain ⟨x, _, rfl⟩ := List.mem_map.1 hy
                                rfl
                              · simp +contextual (maxSteps := 5000000) only [go_sem, ↓reduceIte]
                              · intro j _ hj hlt2
                                obtain ⟨hj, hm⟩ := hj
                                have hlt3 : j < (txF d).length := by simpa using hlt2
                                have hY : ((txF d).map eS).getD j [] = [.str ((txF d).getD j [])] := eS_at (txF d) j hlt3
                                rw [hY]
                                by_cases q : ((((txF d).getD j []).length : Nat) : Int) ≤ 1000
                                · simp +contextual (maxSteps := 5000000) only [go_sem, ↓reduceIte, putPs, c_need, st_need, q, finD, resB, panB, panE, locR]
                                  refine fun _ => ⟨(), by omega, fun k hk => ?_⟩
                                  rcases lt_cases hk with h | rfl
                                  · exact hm k h
                                  · omega
                                · simp +contextual (maxSteps := 5000000) only [go_sem, ↓reduceIte, putPs, c_need, st_need, q, finD, resB, panB, panE, locR]
                                  refine fun _ => ?_
                                  rw [base4, if_pos ⟨_, getD_mem (d := ([] : Str)) hlt3, by omega⟩]
                              · intro _ hs
                                simp +contextual (maxSteps := 5000000) only [go_sem, ↓reduceIte, finD, resB, panB, panE, locR]
                                obtain ⟨_, hm⟩ := hs
                                rw [base4, if_neg]
                                rintro ⟨x, hx, hlen⟩
                                obtain ⟨k, hk, e⟩ := List.getElem_of_mem hx
                                have := hm k (by simpa using hk)
                                rw [List.getD_eq_getElem?_getD, List.getElem?_eq_getElem hk, Option.getD_some, e] at this
                                omega
end Go.Proofs.Ytdaffodmpoadgaa

set_option linter.unusedSimpArgs false
namespace Go.Proofs.Ytdaffodmpoadgaa
open Go.Tn
set_option maxHeartbeats 8000000
set_option maxRecDepth 100000
/- the longest text -/
def mxL (l : List Str) : Nat := l.foldl (fun n s => max n s.length) 0
theorem mxL_snoc (l : List Str) (x : Str) : mxL (l ++ [x]) = max (mxL l) x.length := by simp [mxL]
theorem mxL_take {l : List Str} {P : List Str} {i : Nat} (h : i < l.length) : mxL (P ++ l.take (i + 1)) = max (mxL (P ++ l.take i)) (l.getD i []).length := by
  rw [← mxL_snoc, List.append_assoc, List.take_add_one, List.getElem?_eq_getElem h, List.getD_eq_getElem?_getD, List.getElem?_eq_getElem h]; rfl
structure okT (d : Dl) : Prop where
  A : d.A.length < 2000000
  B : d.B.length < 2000000
  cols : d.cols.length < 2000000
  rows : d.rows.length < 2000000
  dels : d.dels.length < 2000000
  inss : d.inss.length < 2000000
  sets : d.sets.length < 2000000
  lost : d.lost.length < 2000000
  gain : d.gain.length < 2000000
  cells : (txL (d.dels ++ d.inss)).length < 2000000
  texts : ∀ s ∈ txF d, s.length < 2000000
theorem fc_longest (d : Dl) (h : okT d) : FC Try.prog 14 [] [.agg (eDl d)] (.ret (.int .i64 (mxL (txF d)))) := by
  obtain ⟨hA, hB, hco, hro, hde, hin, hse, hlo, hga, hce, _⟩ := h
  unfold eDl
  refine fc_M (fn := Try.f14) (C := (tab [] [] [8010, 8022])) (rs := [2]) mixed (by kernel_rfl) (by kernel_rfl) rfl rfl (by kernel_rfl) (by intro ys h; cases h) ?_
  simp +contextual (maxSteps := 5000000) only [go_sem, ↓reduceIte]
  refine M_loopI (fun i : Nat => ⟨[(1, .loc 1 0), (3, .int .i64 (mxL (d.A.take i))), (4, .int .i64 i)], [(1, .blk (eDl d) false)]⟩) (fun i => d.A.length - i) (fun i => i ≤ d.A.length) 0 ?_ ?_
  · simp +contextual (maxSteps := 5000000) only [go_sem, ↓reduceIte, eDl]
    exact ⟨rfl, rfl⟩
  intro i hi
  by_cases hlt : i < d.A.length
  · have hat := eS_at d.A i hlt
    have hm := mxL_take (P := []) hlt
    simp only [List.nil_append] at hm
    simp +contextual (maxSteps := 5000000) only [go_sem, ↓reduceIte, hlt, hat, eDl]
    exact fun _ _ => ⟨inR64 (by omega) (by omega), fun _ => ⟨i + 1, ⟨by rw [hm]; omega, by simp⟩, by omega, by omega⟩⟩
  obtain rfl : i = d.A.length := by omega
  simp +contextual (maxSteps := 5000000) only [go_sem, ↓reduceIte, eDl, hlt, Nat.lt_irrefl, List.take_length]
  clear hlt hi
  refine fun _ => M_loopI (fun i : Nat => ⟨[(1, .loc 1 0), (3, .int .i64 (mxL (d.A ++ d.B.take i))), (5, .int .i64 i)], [(1, .blk (eDl d) false)]⟩) (fun i => d.B.length - i) (fun i => i ≤ d.B.length) 0 ?_ ?_
  · simp +contextual (maxSteps := 5000000) only [go_sem, ↓reduceIte, eDl]
    rfl
  intro i hi
  by_cases hlt : i < d.B.length
  · have hat := eS_at d.B i hlt
    have hm := mxL_take (P := d.A) hlt
    simp +contextual (maxSteps := 5000000) only [go_sem, ↓reduceIte, hlt, hat, eDl]
    exact fun _ _ => ⟨inR64 (by omega) (by omega), fun _ => ⟨i + 1, ⟨by rw [hm]; omega, by simp⟩, by omega, by omega⟩⟩
  obtain rfl : i = d.B.length := by omega
  simp +contextual (maxSteps := 5000000) only [go_sem, ↓reduceIte, eDl, hlt, Nat.lt_irrefl, List.take_length]
  refine fun _ => ⟨by omega, fun _ => ⟨by omega, fun _ => ?_⟩⟩
  have e1 : d.dels.length + d.inss.length = (d.dels ++ d.inss).length := by simp
  have e2 : txF d = d.A ++ d.B ++ txL (d.dels ++ d.inss) ++ txS d.sets ++ txP (d.lost ++ d.gain) := rfl
  have e3 : d.dels.map eL ++ d.inss.map eL = (d.dels ++ d.inss).map eL := by simp
  have hll : (d.dels ++ d.inss).length < 4000000 := by simp; omega
  rw [e2, e1, e3]
  clear e1 e2 e3
  generalize d.A ++ d.B = P0
  generalize hL : d.dels ++ d.inss = L at hce hll ⊢
  refine M_loopI (fun i : Nat => ⟨[(1, .loc 1 0), (3, .int .i64 (mxL (P0 ++ txL (L.take i)))), (6, .vec 42 L.length), (7, .int .i64 i)], [(1, .blk (eDl d) false), (42, .vec 41 2 (L.map eL) 0)]⟩) (fun i => L.length - i) (fun i => i ≤ L.length) 0 ?_ ?_
  · simp +contextual (maxSteps := 5000000) only [go_sem, ↓reduceIte, eDl, txL, List.flatMap_nil]
    rfl
  intro i hi
  by_cases hlt : i < L.length
  · have hat := eL_at L i hlt
    simp +contextual (maxSteps := 5000000) only [go_sem, ↓reduceIte, hlt, hat, eDl]
    have ht : txL (L.take (i + 1)) = txL (L.take i) ++ (L.getD i (0, [])).2 := flat_succ (d := (0, [])) (·.2) hlt
    generalize L.getD i (0, []) = x at hat ht
    refine M_loopI (fun k : Nat => ⟨[(1, .loc 1 0), (3, .int .i64 (mxL (P0 ++ txL (L.take i) ++ x.2.take k))), (6, .vec 42 L.length), (7, .int .i64 i), (8, .int .i64 k)], [(1, .blk (eDl d) false), (42, .vec 41 2 (L.map eL) 0)]⟩) (fun k => x.2.length - k) (fun k => k ≤ x.2.length) 0 ?_ ?_
    · simp +contextual (maxSteps := 5000000) only [go_sem, ↓reduceIte, eDl]
      rfl
    intro k hk
    by_cases hlk : k < x.2.length
    · have hat2 := eS_at x.2 k hlk
      have hm := mxL_take (P := P0 ++ txL (L.take i)) hlk
      simp +contextual (maxSteps := 5000000) only [go_sem, ↓reduceIte, hlt, hlk, hat, hat2, eDl]
      exact fun _ _ => ⟨inR64 (by omega) (by omega), fun _ => ⟨k + 1, ⟨by rw [hm]; omega, by simp⟩, by omega, by omega⟩⟩
    · obtain rfl : k = x.2.length := by omega
      simp +contextual (maxSteps := 5000000) only [go_sem, ↓reduceIte, hlt, hat, Nat.lt_irrefl, eDl]
      exact fun _ => ⟨inR64 (by omega) (by omega), fun _ => ⟨i + 1, ⟨by rw [ht, List.take_length, List.append_assoc], by simp⟩, by omega, by omega⟩⟩
  obtain rfl : i = L.length := by omega
  simp +contextual (maxSteps := 5000000) only [go_sem, ↓reduceIte, eDl, hlt, Nat.lt_irrefl, List.take_length]
  generalize P0 ++ txL L = P1
  clear hce hll hlt hi hL
  refine M_loopI (fun i : Nat => ⟨[(1, .loc 1 0), (3, .int .i64 (mxL (P1 ++ txS (d.sets.take i)))), (9, .int .i64 i)], [(1, .blk (eDl d) false)]⟩) (fun i => d.sets.length - i) (fun i => i ≤ d.sets.length) 0 ?_ ?_
  · simp +contextual (maxSteps := 5000000) only [go_sem, ↓reduceIte, eDl, txS, List.flatMap_nil]
    rfl
  intro i hi
  by_cases hlt : i < d.sets.length
  · have hat := eD6_at d.sets i hlt
    have ht : txS (d.sets.take (i + 1)) = txS (d.sets.take i) ++ [(d.sets.getD i default).o, (d.sets.getD i default).n] := flat_succ (d := default) (fun s : St6 => [s.o, s.n]) hlt
    have hm : mxL (P1 ++ txS (d.sets.take (i + 1))) = max (max (mxL (P1 ++ txS (d.sets.take i))) (d.sets.getD i default).o.length) (d.sets.getD i default).n.length := by
      rw [ht, ← mxL_snoc, ← mxL_snoc]; simp
    simp +contextual (maxSteps := 5000000) only [go_sem, ↓reduceIte, hlt, hat, eDl]
    exact fun _ => ⟨inR64 (by omega) (by omega), fun _ => ⟨i + 1, ⟨by rw [hm]; omega, by simp⟩, by omega, by omega⟩⟩
  obtain rfl : i = d.sets.length := by omega
  simp +contextual (maxSteps := 5000000) only [go_sem, ↓reduceIte, eDl, hlt, Nat.lt_irrefl, List.take_length]
  refine fun _ => ⟨by omega, fun _ => ⟨by omega, fun _ => ?_⟩⟩
  have e1 : d.lost.length + d.gain.length = (d.lost ++ d.gain).length := by simp
  have e3 : d.lost.map eSp ++ d.gain.map eSp = (d.lost ++ d.gain).map eSp := by simp
  have hll : (d.lost ++ d.gain).length < 4000000 := by simp; omega
  rw [e1, e3]
  clear e1 e3
  generalize P1 ++ txS d.sets = P2
  generalize hL : d.lost ++ d.gain = L at hll ⊢
  refine M_loopI (fun i : Nat => ⟨[(1, .loc 1 0), (3, .int .i64 (mxL (P2 ++ txP (L.take i)))), (10, .vec 100 L.length), (11, .int .i64 i)], [(1, .blk (eDl d) false), (100, .vec 54 3 (L.map eSp) 0)]⟩) (fun i => L.length - i) (fun i => i ≤ L.length) 0 ?_ ?_
  · simp +contextual (maxSteps := 5000000) only [go_sem, ↓reduceIte, eDl, txP, List.map_nil]
    rfl
  intro i hi
  by_cases hlt : i < L.length
  · have hat := eSp_at L i hlt
    have hm : mxL (P2 ++ txP (L.take (i + 1))) = max (mxL (P2 ++ txP (L.take i))) (L.getD i (0, 0, [])).2.2.length := by
      rw [txP_succ hlt, ← mxL_snoc]; simp
    simp +contextual (maxSteps := 5000000) only [go_sem, ↓reduceIte, hlt, hat, eDl]
    exact fun _ => ⟨inR64 (by omega) (by omega), fun _ => ⟨i + 1, ⟨by rw [hm]; omega, by simp⟩, by omega, by omega⟩⟩
  obtain rfl : i = L.length := by omega
  simp +contextual (maxSteps := 5000000) only [go_sem, ↓reduceIte, eDl, hlt, Nat.lt_irrefl, List.take_length]
theorem mxL_lt {l : List Str} {b : Nat} (hb : 0 < b) (h : ∀ s ∈ l, s.length < b) : mxL l < b := by
  have gen : ∀ (l : List Str) (n : Nat), n < b → (∀ s ∈ l, s.length < b) → l.foldl (fun n s => max n s.length) n < b := by
    intro l
    induction l with
    | nil => intro n hn _; exact hn
    | cons s l ih => intro n hn h; exact ih _ (by have := h s (by simp); show max n s.length < b; omega) (fun x hx => h x (List.mem_cons_of_mem _ hx))
  exact gen l 0 hb h
def c_longest (d : Dl) (caps args : List D) : Prop × Out := match caps, args with
  | [], [x] => (x = .agg (eDl d), .ret (.int .i64 (mxL (txF d))))
  | _, _ => (False, .ret .any)
theorem st_longest {d : Dl} (h : okT d) : StC Try.prog 14 (c_longest d) := by
  intro caps args; unfold c_longest; split
  · rintro rfl; exact fc_longest d h
  · exact fun h => h.elim
def cntN (d : Dl) : Nat := d.A.length + d.B.length + d.cols.length + d.rows.length + d.dels.length + d.inss.length + d.sets.length + d.lost.length + d.gain.length
def fewF (d : Dl) : Bool := decide (cntN d ≤ 300 ∧ d.na ≤ 60 ∧ d.nb ≤ 60) && decide (mxL (txF d) + (txL d.dels).length + (txL d.inss).length ≤ 2000)
theorem fc_Few (d : Dl) (h : okT d) : FC Try.prog 7 [] [.agg (eDl d)] (.ret (.bool (fewF d))) := by
  have hl := st_longest h
  have hmx := mxL_lt (by omega) h.texts
  obtain ⟨hA, hB, hco, hro, hde, hin, hse, hlo, hga, hce, _⟩ := h
  unfold eDl
  refine fc_M (fn := Try.f7) (C := (tab [(14, c_longest d)] [] [5001])) (rs := [2]) mixed (by kernel_rfl) (by kernel_rfl) rfl rfl (by kernel_rfl) (by intro ys h; cases h) ?_
  simp +contextual (maxSteps := 5000000) only [go_sem, ↓reduceIte]
  refine M_join (fun _ : Unit => ⟨[(1, .loc 1 0), (3, .int .i64 (cntN d : Nat))], [(1, .blk (eDl d) false)]⟩) (fun _ => True) ?_ ?_
  · simp +contextual (maxSteps := 5000000) only [go_sem, ↓reduceIte, eDl, cntN]
    repeat' first | (refine ⟨inR64 (by omega) (by omega), ?_⟩) | intro _
    refine ⟨(), ?_⟩
    omega
  intro _ _
  unfold fewF eDl
  by_cases q1 : (300 : Int) < (cntN d : Nat)
  · have e : decide (cntN d ≤ 300 ∧ d.na ≤ 60 ∧ d.nb ≤ 60) = false := decide_eq_false (by omega)
    rw [e]
    simp +contextual (maxSteps := 5000000) only [go_sem, ↓reduceIte, q1]
  by_cases q2 : 60 < d.na
  · have e : decide (cntN d ≤ 300 ∧ d.na ≤ 60 ∧ d.nb ≤ 60) = false := decide_eq_false (by omega)
    rw [e]
    simp +contextual (maxSteps := 5000000) only [go_sem, ↓reduceIte, q1, q2]
  by_cases q3 : 60 < d.nb
  · have e : decide (cntN d ≤ 300 ∧ d.na ≤ 60 ∧ d.nb ≤ 60) = false := decide_eq_false (by omega)
    rw [e]
    simp +contextual (maxSteps := 5000000) only [go_sem, ↓reduceIte, q1, q2, q3]
  have e : decide (cntN d ≤ 300 ∧ d.na ≤ 60 ∧ d.nb ≤ 60) = true := decide_eq_true (by omega)
  rw [e, Bool.true_and]
  have hn : cntN d ≤ 300 := by omega
  have hn1 : d.dels.length ≤ 300 := by unfold cntN at hn; omega
  have hn2 : d.inss.length ≤ 300 := by unfold cntN at hn; omega
  have hc1 : (txL d.dels).length < 2000000 := by unfold txL at hce ⊢; simp only [List.flatMap_append, List.length_append] at hce; omega
  have hc2 : (txL d.inss).length < 2000000 := by unfold txL at hce ⊢; simp only [List.flatMap_append, List.length_append] at hce; omega
  clear e hn
  simp +contextual (maxSteps := 5000000) only [go_sem, ↓reduceIte, c_longest, hl, eDl, q1, q2, q3]
  clear q1 q2 q3
  generalize mxL (txF d) = m0 at hmx
  refine M_loopI (fun i : Nat => ⟨[(1, .loc 1 0), (4, .int .i64 (m0 + (txL (d.dels.take i)).length : Nat)), (5, .int .i64 i)], [(1, .blk (eDl d) false)]⟩) (fun i => d.dels.length - i) (fun i => i ≤ d.dels.length) 0 ?_ ?_
  · simp +contextual (maxSteps := 5000000) only [go_sem, ↓reduceIte, eDl, txL, List.flatMap_nil]
    rfl
  intro i hi
  by_cases hlt : i < d.dels.length
  · have hat := eL_at d.dels i hlt
    have ht : txL (d.dels.take (i + 1)) = txL (d.dels.take i) ++ (d.dels.getD i (0, [])).2 := flat_succ (d := (0, [])) (·.2) hlt
    have hb : (txL (d.dels.take (i + 1))).length ≤ (txL d.dels).length := flat_le d.dels (·.2) (i + 1)
    rw [ht, List.length_append] at hb
    simp +contextual (maxSteps := 5000000) only [go_sem, ↓reduceIte, hlt, hat, eDl]
    exact fun _ _ => ⟨inR64 (by omega) (by omega), fun _ => ⟨inR64 (by omega) (by omega), fun _ => ⟨i + 1, ⟨by rw [ht, List.length_append]; omega, by simp⟩, by omega, by omega⟩⟩⟩
  obtain rfl : i = d.dels.length := by omega
  simp +contextual (maxSteps := 5000000) only [go_sem, ↓reduceIte, eDl, hlt, Nat.lt_irrefl, List.take_length]
  intro _
  refine M_loopI (fun i : Nat => ⟨[(1, .loc 1 0), (4, .int .i64 (m0 + (txL d.dels).length + (txL (d.inss.take i)).length : Nat)), (6, .int .i64 i)], [(1, .blk (eDl d) false)]⟩) (fun i => d.inss.length - i) (fun i => i ≤ d.inss.length) 0 ?_ ?_
  · simp +contextual (maxSteps := 5000000) only [go_sem, ↓reduceIte, eDl, txL, List.flatMap_nil]
    rfl
  intro i hi
  by_cases hlt : i < d.inss.length
  · have hat := eL_at d.inss i hlt
    have ht : txL (d.inss.take (i + 1)) = txL (d.inss.take i) ++ (d.inss.getD i (0, [])).2 := flat_succ (d := (0, [])) (·.2) hlt
    have hb : (txL (d.inss.take (i + 1))).length ≤ (txL d.inss).length := flat_le d.inss (·.2) (i + 1)
    rw [ht, List.length_append] at hb
    simp +contextual (maxSteps := 5000000) only [go_sem, ↓reduceIte, hlt, hat, eDl]
    exact fun _ _ => ⟨inR64 (by omega) (by omega), fun _ => ⟨inR64 (by omega) (by omega), fun _ => ⟨i + 1, ⟨by rw [ht, List.length_append]; omega, by simp⟩, by omega, by omega⟩⟩⟩
  obtain rfl : i = d.inss.length := by omega
  simp +contextual (maxSteps := 5000000) only [go_sem, ↓reduceIte, eDl, hlt, Nat.lt_irrefl, List.take_length]
  exact fun _ => decide_eq_decide.2 (by omega)
end Go.Proofs.Ytdaffodmpoadgaa

set_option linter.unusedSimpArgs false
namespace Go.Proofs.Ytdaffodmpoadgaa
open Go.Tn
set_option maxHeartbeats 8000000
set_option maxRecDepth 100000
theorem fc_lines (l : List Ln) (hl : l.length < 1000000) (hc : ∀ x ∈ l, x.2.length < 1000000000) : FC Try.prog 24 [] [.sl 2 (l.map eL)] (.own 41 2 (l.map eL)) := by
  have hs1 := st_CloneS
  refine fc_M (fn := Try.f24) (C := (tab [(22, c_Clone 9 1)] [])) (rs := [2]) mixed (by kernel_rfl) (by kernel_rfl) rfl rfl (by kernel_rfl) (by intro ys h; cases h) ?_
  simp +contextual (maxSteps := 5000000) only [go_sem, ↓reduceIte]
  intro _
  refine M_loopI (fun i : Nat => ⟨[(3, .vec 20 i), (6, .sl 2 (l.map eL)), (7, .int .i64 l.length), (8, .int .i64 i)], [(20, .vec 41 2 ((l.take i).map eL) 0)]⟩) (fun i => l.length - i) (fun i => i ≤ l.length) 0 ?_ ?_
  · simp +contextual (maxSteps := 5000000) only [go_sem, ↓reduceIte]
    rfl
  · intro i hi
    by_cases hlt : i < l.length
    · have hat := eL_at l i hlt
      have hm := hc _ (getD_mem (d := ((0 : Int), ([] : List (List UInt8)))) hlt)
      simp +contextual (maxSteps := 5000000) only [go_sem, ↓reduceIte, eI_at, eI_set, List.length_set, tn_add, tn_add1, tn_sub, tn_sub1, sh1, sh1b, half_cast, hlt, hat, c_Clone, hs1, gS]
      exact ⟨hm, ⟨by omega, by omega⟩, fun _ => ⟨inR64 (by omega) (by omega), fun _ => ⟨i + 1, ⟨⟨rfl, by simp⟩, take_map_succ eL (0, []) l i hlt⟩, by omega, by omega⟩⟩⟩
    · obtain rfl : i = l.length := by omega
      simp +contextual (maxSteps := 5000000) only [go_sem, ↓reduceIte, hlt, Nat.lt_irrefl, List.take_length]
theorem fc_turned (a b : Int) : FC Try.prog 54 [] [.agg [.int .i64 a, .int .i64 b]] (.ret (.agg [.int .i64 b, .int .i64 a])) := by
  have ty : tyOf Try.prog 86 = ⟨.struct, [.int .i64 0, .int .i64 0], [(0, 1, false), (1, 1, false)], 0, 0, true, 0, 16⟩ := by kernel_rfl
  have hf := tyOf_fact (P := Try.prog) (t := 86) (by rw [ty]; intro h; cases h)
  rw [ty] at hf
  refine fcc_of (fn := Try.f54) (rt := 86) (r := 2) (i := 2) (C := tab [] []) mixed (by kernel_rfl) (by kernel_rfl) rfl rfl hf (by kernel_rfl) (by intro ys h; cases h) ?_
  simp +contextual (maxSteps := 5000000) only [go_sem, ↓reduceIte, finC, finCB, locR]
end Go.Proofs.Ytdaffodmpoadgaa

set_option linter.unusedSimpArgs false
namespace Go.Proofs.Ytdaffodmpoadgaa
open Go.Tn
set_option maxHeartbeats 8000000
set_option maxRecDepth 100000
def sw (p : Int × Int) : Int × Int := (p.2, p.1)
def leB (x y : Int × Int) : Bool := decide (x.2 ≤ y.2)
theorem pre_leB : Ps.Pre leB := ⟨fun a b c => by simp only [leB, decide_eq_true_eq]; omega, fun a b => by simp only [leB, decide_eq_true_eq]; omega⟩
def turnP (l : List (Int × Int)) : List (Int × Int) := Ps.srt leB (l.map sw)
theorem turnP_len (l : List (Int × Int)) : (turnP l).length = l.length := by unfold turnP; rw [Ps.srt_len, List.length_map]
def c_turned (caps args : List D) : Prop × Out := match caps, args with
  | [], [.agg [.int .i64 a, .int .i64 b]] => (True, .ret (.agg [.int .i64 b, .int .i64 a]))
  | _, _ => (False, .ret .any)
theorem st_turned : StC Try.prog 54 c_turned := by
  intro caps args; unfold c_turned; split
  · exact fun _ => fc_turned _ _
  · exact fun h => h.elim
def eR (p : Int × Int) : List D := [.int .i64 p.2, .int .i64 p.1]
theorem eR_eq (l : List (Int × Int)) : l.map eR = (l.map sw).map eP := by rw [List.map_map]; rfl
theorem eP_set2 (l : List (Int × Int)) (i : Nat) (a b : Int) : (l.map eP).set i [.int .i64 a, .int .i64 b] = (l.set i (a, b)).map eP := by rw [List.map_set]; rfl
theorem seg_all {α : Type} (f : List α → List α) (l : List α) : Ps.seg f l 0 l.length = f l := by unfold Ps.seg; simp
theorem fc_pTurn (l : List (Int × Int)) (hl : l.length < 1000000000) : FC Try.prog 23 [] [.sl 2 (l.map eP)] (.own 36 2 ((turnP l).map eP)) := by
  refine fc_M (fn := Try.f23) (C := (tab [(54, c_turned)] [])) (rs := [2]) mixed (by kernel_rfl) (by kernel_rfl) rfl rfl (by kernel_rfl) (by intro ys h; cases h) ?_
  simp +contextual (maxSteps := 5000000) only [go_sem, ↓reduceIte]
  intro _
  refine M_loopI (fun i : Nat => ⟨[(3, .vec 21 i), (11, .sl 2 (l.map eP)), (12, .int .i64 l.length), (13, .int .i64 i)], [(21, .vec 86 2 ((l.take i).map eR) 0)]⟩) (fun i => l.length - i) (fun i => i ≤ l.length) 0 ?_ ?_
  · simp +contextual (maxSteps := 5000000) only [go_sem, ↓reduceIte]
    rfl
  · intro i hi
    by_cases hlt : i < l.length
    · have hat := eP_at l i hlt
      simp +contextual (maxSteps := 5000000) only [go_sem, ↓reduceIte, eI_at, eI_set, List.length_set, tn_add, tn_add1, tn_sub, tn_sub1, sh1, sh1b, half_cast, hlt, hat, c_turned, st_turned]
      exact ⟨⟨by omega, by omega⟩, fun _ => ⟨inR64 (by omega) (by omega), fun _ => ⟨i + 1, ⟨⟨rfl, by simp⟩, take_map_succ eR (0, 0) l i hlt⟩, by omega, by omega⟩⟩⟩
    · obtain rfl : i = l.length := by omega
      simp +contextual (maxSteps := 5000000) only [go_sem, ↓reduceIte, hlt, Nat.lt_irrefl, List.take_length, eR_eq]
      have hk : (l.map sw).length = l.length := List.length_map _
      have et : turnP l = Ps.srt leB (l.map sw) := rfl
      rw [et]
      generalize hkk : l.map sw = k at hk
      rw [← hk]
      clear hi hlt et
      refine M_loopI (fun s : List ((Int × Int) × Nat) × Nat => ⟨[(3, .vec 21 k.length), (24, .int .i64 k.length), (25, .int .i64 s.2)], [(21, .vec 86 2 ((s.1.map (·.1)).map eP) 0)]⟩) (fun s => k.length - s.2) (fun s => Ps.OutI leB k 0 s.1 (max s.2 1) ∧ s.2 ≤ k.length) (k.zipIdx, 0) ?_ ?_
      · simp +contextual (maxSteps := 5000000) only [go_sem, ↓reduceIte, Ps.zip_fst]
        exact ⟨rfl, Ps.out_start k 0⟩
      · intro ⟨t, i⟩ hi
        obtain ⟨i1, i2⟩ := hi
        simp only at i1 i2
        by_cases hlt : i < k.length
        · simp +contextual (maxSteps := 5000000) only [go_sem, ↓reduceIte, hlt]
          have hlen : t.length = k.length := by rw [i1.pm.length_eq]; simp
          refine M_loopI (fun s : List ((Int × Int) × Nat) × Nat => ⟨[(3, .vec 21 k.length), (24, .int .i64 k.length), (25, .int .i64 i), (7, .int .i64 s.2)], [(21, .vec 86 2 ((s.1.map (·.1)).map eP) 0)]⟩) (fun s => s.2)
            (fun s => (i = 0 ∧ s.2 = 0 ∧ s.1 = t) ∨ (0 < i ∧ Ps.InI leB k 0 i s.1 s.2)) (t, i) ?_ ?_
          · simp +contextual (maxSteps := 5000000) only [go_sem, ↓reduceIte]
            by_cases h0 : i = 0
            · exact .inl h0
            · have : max i 1 = i := by omega
              rw [this] at i1
              exact .inr ⟨by omega, Ps.in_start i1 (by omega)⟩
          · intro ⟨u, j⟩ hj
            simp only at hj
            by_cases hj0 : j = 0
            · subst hj0
              have z0 : ¬ ((0 : Int) < ((0 : Nat) : Int)) := by simp
              simp +contextual (maxSteps := 5000000) only [go_sem, ↓reduceIte, eI_at, eI_set, List.length_set, tn_add, tn_add1, tn_sub, tn_sub1, sh1, sh1b, half_cast, hlt, z0]
              have end1 : Ps.OutI leB k 0 u (max (i + 1) 1) := by
                obtain ⟨h0, _, h2⟩ | ⟨h0, hj⟩ := hj
                · subst h0; rw [h2]; exact i1
                · have : max (i + 1) 1 = i + 1 := by omega
                  rw [this]
                  exact Ps.in_end pre_leB hj (by omega) hlt (.inl rfl)
              exact ⟨inR64 (by omega) (by omega), fun _ => ⟨(u, i + 1), ⟨by simp, rfl⟩, by simp only; omega, end1, by simp only; omega⟩⟩
            · obtain ⟨h0, h1, _⟩ | ⟨h0, hj⟩ := hj
              · omega
              have hul := Ps.in_len hj
              have hji := hj.ji
              have z0 : (0 : Int) < (j : Int) := by omega
              obtain ⟨x, hx⟩ : ∃ x, u[j]? = some x := ⟨u[j]'(by omega), List.getElem?_eq_getElem (by omega)⟩
              obtain ⟨y, hy⟩ : ∃ y, u[j - 1]? = some y := ⟨u[j - 1]'(by omega), List.getElem?_eq_getElem (by omega)⟩
              have hat1 := eP_at (u.map (·.1)) j (by simp; omega)
              have hat2 := eP_at (u.map (·.1)) (j - 1) (by simp; omega)
              rw [Ps.tag_at (0, 0) hx] at hat1
              rw [Ps.tag_at (0, 0) hy] at hat2
              have hat3 := eP_at ((u.map (·.1)).set j (y.1.1, y.1.2)) (j - 1) (by simp; omega)
              have lbA : leB y.1 x.1 = decide (y.1.2 ≤ x.1.2) := rfl
              have est : ∀ x' y', u[j]? = some x' → u[j - 1]? = some y' → leB y'.1 x'.1 = decide (y.1.2 ≤ x.1.2) := fun x' y' hx' hy' => by
                rw [hx] at hx'; cases hx'
                rw [hy] at hy'; cases hy'
                rfl
              by_cases q : x.1.2 < y.1.2
              · simp +contextual (maxSteps := 5000000) only [go_sem, ↓reduceIte, eI_at, eI_set, List.length_set, tn_add, tn_add1, tn_sub, tn_sub1, sh1, sh1b, half_cast, hlt, z0, hat1, hat2, hat3, q, eP_set2]
                refine ⟨⟨hul, by omega⟩, fun _ => ⟨inR64 (by omega) (by omega), fun _ => ⟨⟨by omega, by omega⟩, fun _ => ⟨by omega, fun _ => ⟨by omega, fun _ => ⟨by omega, fun _ => ⟨(Ps.swp (((0, 0), 0)) u j (j - 1), j - 1), ⟨by simp only; omega, ?_⟩, by simp only; omega, .inr ⟨h0, Ps.in_step pre_leB _ hj hlt (by omega) fun x' y' hx' hy' => ?_⟩⟩⟩⟩⟩⟩⟩⟩
                · simp only
                  rw [Ps.swp_map]
                  unfold Ps.swp
                  simp only [Ps.tag_at (0, 0) hx, Ps.tag_at (0, 0) hy]
                · rw [est x' y' hx' hy']; simp; omega
              · simp +contextual (maxSteps := 5000000) only [go_sem, ↓reduceIte, eI_at, eI_set, List.length_set, tn_add, tn_add1, tn_sub, tn_sub1, sh1, sh1b, half_cast, hlt, z0, hat1, hat2, q]
                refine ⟨⟨hul, by omega⟩, fun _ => ⟨inR64 (by omega) (by omega), fun _ => ⟨⟨by omega, by omega⟩, fun _ => ⟨by omega, fun _ => ⟨inR64 (by omega) (by omega), fun _ => ⟨(u, i + 1), ⟨by simp, rfl⟩, by simp only; omega, ?_, by simp only; omega⟩⟩⟩⟩⟩⟩
                have : max (i + 1) 1 = i + 1 := by omega
                simp only [this]
                exact Ps.in_end pre_leB hj (by omega) hlt (.inr fun x' y' hx' hy' => by rw [est x' y' hx' hy']; simp; omega)
        · obtain rfl : i = k.length := by omega
          simp +contextual (maxSteps := 5000000) only [go_sem, ↓reduceIte, hlt, Nat.lt_irrefl]
          have ht := Ps.out_end pre_leB i1 (Nat.zero_le _) (Nat.le_refl _) (by omega) (by omega)
          rw [seg_all] at ht
          have hlen : t.length = k.length := by rw [i1.pm.length_eq]; simp
          refine ⟨hlen, fun _ => ?_⟩
          rw [ht]
          have hsl : (Ps.srt leB k).length = k.length := Ps.srt_len _
          generalize Ps.srt leB k = r at hsl
          rw [← hsl]
          rw [← hsl] at hk
          clear ht i1 i2 hlt hlen hkk hsl
          refine M_loopI (fun i : Nat => ⟨[(8, .vec 73 i), (64, .vec 21 r.length), (65, .int .i64 r.length), (66, .int .i64 i)], [(21, .vec 86 2 (r.map eP) 0), (73, .vec 36 2 ((r.take i).map eP) 0)]⟩) (fun i => r.length - i) (fun i => i ≤ r.length) 0 ?_ ?_
          · simp +contextual (maxSteps := 5000000) only [go_sem, ↓reduceIte]
            rfl
          · intro i hi
            by_cases hlt : i < r.length
            · have hat := eP_at r i hlt
              simp +contextual (maxSteps := 5000000) only [go_sem, ↓reduceIte, eI_at, eI_set, List.length_set, tn_add, tn_add1, tn_sub, tn_sub1, sh1, sh1b, half_cast, hlt, hat]
              exact ⟨⟨by omega, by omega⟩, fun _ => ⟨inR64 (by omega) (by omega), fun _ => ⟨i + 1, ⟨⟨rfl, by simp⟩, take_map_succ eP (0, 0) r i hlt⟩, by omega, by omega⟩⟩⟩
            · obtain rfl : i = r.length := by omega
              simp +contextual (maxSteps := 5000000) only [go_sem, ↓reduceIte, hlt, Nat.lt_irrefl, List.take_length]
def c_pTurn (caps args : List D) : Prop × Out := match caps, args with
  | [], [.sl 2 rows] => (rows = (rows.map dP).map eP ∧ rows.length < 1000000000, .own 36 2 ((turnP (rows.map dP)).map eP))
  | _, _ => (False, .ret .any)
theorem st_pTurn : StC Try.prog 23 c_pTurn := by
  intro caps args; unfold c_pTurn; split
  · rename_i rows
    rintro ⟨h1, h2⟩
    have := fc_pTurn (rows.map dP) (by simpa using h2)
    rw [← h1] at this
    exact this
  · exact fun h => h.elim
def c_lines (caps args : List D) : Prop × Out := match caps, args with
  | [], [.sl 2 rows] => (rows = (rows.map dL).map eL ∧ rows.length < 1000000 ∧ ∀ x ∈ rows.map dL, x.2.length < 1000000000, .own 41 2 ((rows.map dL).map eL))
  | _, _ => (False, .ret .any)
theorem st_lines : StC Try.prog 24 c_lines := by
  intro caps args; unfold c_lines; split
  · rename_i rows
    rintro ⟨h1, h2, h3⟩
    have := fc_lines (rows.map dL) (by simpa using h2) h3
    rw [← h1] at this
    rw [← h1]
    exact this
  · exact fun h => h.elim
end Go.Proofs.Ytdaffodmpoadgaa

set_option linter.unusedSimpArgs false
namespace Go.Proofs.Ytdaffodmpoadgaa
open Go.Tn
set_option maxHeartbeats 4000000
set_option maxRecDepth 100000
theorem st6_eta (s : St6) : (⟨s.i, s.j, s.p, s.q, s.o, s.n⟩ : St6) = s := rfl
theorem eD6_set (l : List St6) (i : Nat) (a : St6) : (l.map eD6).set i [.int .i64 a.i, .int .i64 a.j, .int .i64 a.p, .int .i64 a.q, .str a.o, .str a.n] = (l.set i a).map eD6 := by rw [List.map_set]; rfl
theorem fcm_swapRange (l : List St6) (a b k : Nat) (f : D) (n : Nat) (hn : l.length = n) (h1 : a + k ≤ b) (h2 : b + k ≤ n) (h3 : n < 1000000000) :
    FCM Try.prog 78 [(true, .vec 1000 n), (false, .int .i64 a), (false, .int .i64 b), (false, .int .i64 k), (false, f)] [(1000, .vec 38 6 (l.map eD6) 0)] [(1000, .vec 38 6 ((Ps.swr l a b k).map eD6) 0)] (.ret (.tup [])) := by
  refine fcm_M (fn := Try.f78) (C := (tab [] [])) (rs := []) mixed (by kernel_rfl) (by kernel_rfl) rfl rfl (by kernel_rfl) ?_ ?_
  · simp +contextual (maxSteps := 5000000) only [go_sem, ↓reduceIte]
  simp +contextual (maxSteps := 5000000) only [go_sem, ↓reduceIte]
  refine M_loopI (fun i : Nat => ⟨[(0, .vec 1000 n), (1, .int .i64 a), (2, .int .i64 b), (3, .int .i64 k), (10, .int .i64 i)], [(1000, .vec 38 6 ((Ps.swr l a b i).map eD6) 0)]⟩) (fun i => k - i) (fun i => i ≤ k) 0 ?_ ?_
  · simp +contextual (maxSteps := 5000000) only [go_sem, ↓reduceIte]
    simp [Ps.swr_zero]
  · intro i hi
    have hlen := Ps.swr_len (l := l) (a := a) (b := b) (n := i) (by omega) (by omega)
    simp +contextual (maxSteps := 5000000) only [go_sem, ↓reduceIte, eD6_at, eD6_set, List.length_set, tn_add]
    simp only [aa, inR_iff]
    split
    · rename_i hlt
      and_intros
      all_goals first | omega | skip
      refine ⟨i + 1, ⟨by omega, ?_⟩, by omega, by omega⟩
      rw [← Ps.swr_succ default (by omega) (by omega)]
      rfl
    · rename_i hge
      have : i = k := by omega
      subst this
      rfl

def cm_sr1 (i n : Nat) (a b k : Int) : Option LObj → MS
  | some (.vec e 6 rows 0) => .yes ((e = 38 ∧ rows = (rows.map d6).map eD6) ∧ (rows.length = n ∧ n < 1000000000) ∧ (0 ≤ a ∧ 0 ≤ k ∧ a + k ≤ b ∧ b + k ≤ n)) [i] [(i, .vec e 6 ((Ps.swr (rows.map d6) a.toNat b.toNat k.toNat).map eD6) 0)] (.ret (.tup []))
  | _ => .bad
def cm_sr (ds : List D) (H : Hp) : MS := match ds with | [.vec i n, .int .i64 a, .int .i64 b, .int .i64 k, _] => cm_sr1 i n a b k (H i) | _ => .bad
theorem objs_one {H : Hp} {i : Nat} {o : LObj} (h : H i = some o) : objs H [i] = [(i, o)] := by simp only [objs, h, objs1]
theorem stm_sr : StMC Try.prog 78 [0] cm_sr := by
  intro ds H pre mu o1 out h hp
  unfold cm_sr at h
  split at h
  · rename_i i n a b k f
    unfold cm_sr1 at h
    split at h
    · rename_i e rows hi
      cases h
      obtain ⟨⟨rfl, hr⟩, ⟨rfl, h3⟩, ha, hk, h1, h2⟩ := hp
      rw [objs_one hi]
      have := (fcm_swapRange (rows.map d6) a.toNat b.toNat k.toNat f rows.length (by simp) (by omega) (by omega) h3).one i trivial (by simp [plainO])
      rw [← hr, Int.toNat_of_nonneg ha, Int.toNat_of_nonneg (by omega), Int.toNat_of_nonneg hk] at this
      simp only [renF, ren1, renLO, renO, renM, ren, renL, sw_l] at this
      exact this
    · cases h
  · cases h
theorem fcm_rotate (l : List St6) (a m b : Nat) (f : D) (hf : cleanL [f] = true) (n : Nat) (hn : l.length = n) (h1 : a < m) (h2 : m < b) (h4 : b ≤ n) (h3 : n < 1000000000) :
    FCM Try.prog 77 [(true, .vec 1000 n), (false, .int .i64 a), (false, .int .i64 m), (false, .int .i64 b), (false, f)] [(1000, .vec 38 6 (l.map eD6) 0)] [(1000, .vec 38 6 ((Ps.rot l a m b).map eD6) 0)] (.ret (.tup [])) := by
  have cf := clr_of hf
  refine fcm_M (fn := Try.f77) (C := (tab [] [(78, [0], cm_sr)])) (rs := []) mixed (by kernel_rfl) (by kernel_rfl) rfl rfl (by kernel_rfl) ?_ ?_
  · simp +contextual (maxSteps := 5000000) only [go_sem, ↓reduceIte]
  simp +contextual (maxSteps := 5000000) only [go_sem, ↓reduceIte]
  simp only [aa, inR_iff]
  and_intros
  all_goals first | omega | skip
  refine M_loopI (fun s : List St6 × Nat × Nat => ⟨[(0, .vec 1000 n), (1, .int .i64 a), (2, .int .i64 m), (3, .int .i64 b), (4, f), (10, .int .i64 s.2.1), (11, .int .i64 s.2.2)], [(1000, .vec 38 6 (s.1.map eD6) 0)]⟩) (fun s => s.2.1 + s.2.2)
    (fun s => s.1.length = n ∧ 0 < s.2.1 ∧ 0 < s.2.2 ∧ s.2.1 ≤ m ∧ m + s.2.2 ≤ n ∧ Ps.rot s.1 (m - s.2.1) m (m + s.2.2) = Ps.rot l a m b) (l, m - a, b - m) ?_ ?_
  · simp +contextual (maxSteps := 5000000) only [go_sem, ↓reduceIte, cf.cv6, cf.rf6, cf.nw6, cf.fz6, cf.wkN, cf.wk, cf.inO]
    have e1 : m - (m - a) = a := by omega
    have e2 : m + (b - m) = b := by omega
    rw [e1, e2]
    and_intros
    all_goals first | omega | trivial
  · intro ⟨k, i, j⟩ hi
    obtain ⟨i1, i2, i3, i4, i5, i6⟩ := hi
    simp only at i1 i2 i3 i4 i5 i6
    subst hn
    have q1 : ((m : Int) - (i : Int)).toNat = m - i := by omega
    have q2 : ((m : Int) + (j : Int) - (i : Int)).toNat = m + j - i := by omega
    simp +contextual (maxSteps := 5000000) only [go_sem, ↓reduceIte, eD6_at, eD6_set, List.length_set, tn_add, cm_sr, cm_sr1, stm_sr, d6_eD6, cf.cv6, cf.rf6, cf.nw6, cf.fz6, cf.wkN, cf.wk, cf.inO]
    simp only [aa, inR_iff, q1, q2]
    split
    · split
      · have := Ps.swr_len (l := k) (a := m - i) (b := m) (n := j) (by omega) (by omega)
        and_intros
        all_goals first | omega | skip
        refine ⟨(Ps.swr k (m - i) m j, i - j, j), ⟨⟨⟨by simp only; omega, rfl⟩, rfl⟩, by simp only; omega, by simp only; omega, by simp only; omega, by simp only; omega, by simp only; omega, by simp only; omega, ?_⟩⟩
        simp only
        rw [show m - (i - j) = m - i + j from by omega, Ps.rot_great (by omega) (by omega) (by omega)]
        exact i6
      · have := Ps.swr_len (l := k) (a := m - i) (b := m + j - i) (n := i) (by omega) (by omega)
        and_intros
        all_goals first | omega | skip
        refine ⟨(Ps.swr k (m - i) (m + j - i) i, i, j - i), ⟨⟨⟨rfl, by simp only; omega⟩, rfl⟩, by simp only; omega, by simp only; omega, by simp only; omega, by simp only; omega, by simp only; omega, by simp only; omega, ?_⟩⟩
        simp only
        rw [show m + (j - i) = m + j - i from by omega, Ps.rot_small (by omega) (by omega) (by omega)]
        exact i6
    · rename_i hij
      have hij : i = j := by omega
      subst hij
      and_intros
      all_goals first | omega | skip
      rw [Ps.rot_same (by omega) (by omega), i6]
end Go.Proofs.Ytdaffodmpoadgaa

set_option linter.unusedSimpArgs false
namespace Go.Proofs.Ytdaffodmpoadgaa
open Go.Tn
set_option maxHeartbeats 4000000
set_option maxRecDepth 100000
/-- a closure that compares two numbers -/
def c_cl (cs : List D) (cm : St6 → St6 → Int) (l : List St6) (caps args : List D) : Prop × Out :=
  match args with
  | [.agg [.int .i64 a, .int .i64 b, .int .i64 c, .int .i64 d, .str e, .str f], .agg [.int .i64 a2, .int .i64 b2, .int .i64 c2, .int .i64 d2, .str e2, .str f2]] => (caps = cs ∧ (⟨a, b, c, d, e, f⟩ : St6) ∈ l ∧ (⟨a2, b2, c2, d2, e2, f2⟩ : St6) ∈ l, .ret (.int .i64 (cm ⟨a, b, c, d, e, f⟩ ⟨a2, b2, c2, d2, e2, f2⟩)))
  | _ => (False, .ret .any)
theorem st_cl {P : Program} {g : Nat} {cs : List D} {cm : St6 → St6 → Int} {l : List St6} (h : ∀ x ∈ l, ∀ y ∈ l, FC P g cs [.agg (eD6 x), .agg (eD6 y)] (.ret (.int .i64 (cm x y)))) : StC P g (c_cl cs cm l) := by
  intro caps args
  unfold c_cl
  split
  · rintro ⟨rfl, hx, hy⟩; exact h _ hx _ hy
  · exact fun h => h.elim
theorem fcm_insertion (g : Nat) (cs : List D) (hcs : cleanL [.fn g [] cs] = true) (cm : St6 → St6 → Int) (le : St6 → St6 → Bool) (hle : ∀ x y, le x y = decide (0 ≤ cm y x)) (hp : Ps.Pre le) (l : List St6)
    (hc : ∀ x ∈ l, ∀ y ∈ l, FC Try.prog g cs [.agg (eD6 x), .agg (eD6 y)] (.ret (.int .i64 (cm x y)))) (a b : Nat) (n : Nat) (hn : l.length = n) (h1 : a ≤ b) (h2 : b ≤ n) (h3 : n < 1000000000) :
    FCM Try.prog 70 [(true, .vec 1000 n), (false, .int .i64 a), (false, .int .i64 b), (false, .fn g [] cs)] [(1000, .vec 38 6 (l.map eD6) 0)] [(1000, .vec 38 6 ((Ps.seg (Ps.srt le) l a b).map eD6) 0)] (.ret (.tup [])) := by
  have cl := clrL_of (cl_fn hcs)
  have hst := st_cl hc
  refine fcm_M (fn := Try.f70) (C := (tab [(g, c_cl cs cm l)] [])) (rs := []) mixed (by kernel_rfl) (by kernel_rfl) rfl rfl (by kernel_rfl) ?_ ?_
  · simp +contextual (maxSteps := 5000000) only [go_sem, ↓reduceIte]
  simp +contextual (maxSteps := 5000000) only [go_sem, ↓reduceIte]
  refine ⟨⟨by omega, by omega⟩, fun _ => ?_⟩
  refine M_loopI (fun s : List (St6 × Nat) × Nat => ⟨[(0, .vec 1000 n), (1, .int .i64 a), (2, .int .i64 b), (3, .fn g [] cs), (8, .int .i64 s.2)], [(1000, .vec 38 6 ((s.1.map (·.1)).map eD6) 0)]⟩) (fun s => b + 1 - s.2)
    (fun s => Ps.OutI le l a s.1 s.2 ∧ a + 1 ≤ s.2 ∧ (s.2 ≤ b ∨ s.2 = a + 1)) (l.zipIdx, a + 1) ?_ ?_
  · simp +contextual (maxSteps := 5000000) only [go_sem, ↓reduceIte, cl.cv5, cl.rf5, cl.nw5, cl.fz5, cl.wkL, cl.inOL, Ps.zip_fst]
    and_intros
    all_goals first | omega | exact Ps.out_start l a | skip
  · intro ⟨t, i⟩ hi
    obtain ⟨i1, i2, i3⟩ := hi
    simp only at i1 i2 i3
    simp +contextual (maxSteps := 5000000) only [go_sem, ↓reduceIte]
    split
    · rename_i hlt
      refine M_loopI (fun s : List (St6 × Nat) × Nat => ⟨[(0, .vec 1000 n), (1, .int .i64 a), (2, .int .i64 b), (3, .fn g [] cs), (8, .int .i64 i), (9, .int .i64 s.2)], [(1000, .vec 38 6 ((s.1.map (·.1)).map eD6) 0)]⟩) (fun s => s.2)
        (fun s => Ps.InI le l a i s.1 s.2) (t, i) ?_ ?_
      · simp +contextual (maxSteps := 5000000) only [go_sem, ↓reduceIte, cl.cv5, cl.rf5, cl.nw5, cl.fz5, cl.wkL, cl.inOL]
        exact Ps.in_start i1 (by omega)
      · intro ⟨t, j⟩ hj
        simp only at hj
        have hlen := Ps.in_len hj
        have haj := hj.aj
        have hji := hj.ji
        simp +contextual (maxSteps := 5000000) only [go_sem, ↓reduceIte, eD6_at, eD6_set, List.length_set, tn_add, tn_sub1, c_cl, hst, cl.cv6, cl.rf6, cl.nw6, cl.fz6, cl.cv5, cl.rf5, cl.nw5, cl.fz5, cl.wkL, cl.inOL]
        simp only [aa, inR_iff]
        have hi' : i < l.length := by omega
        split
        · rename_i hja
          have g1 : ∃ x, t[j]? = some x := ⟨t[j]'(by omega), List.getElem?_eq_getElem (by omega)⟩
          have g2 : ∃ y, t[j - 1]? = some y := ⟨t[j - 1]'(by omega), List.getElem?_eq_getElem (by omega)⟩
          obtain ⟨x, hx⟩ := g1
          obtain ⟨y, hy⟩ := g2
          have hcm := hle y.1 x.1
          simp only [st6_eta]
          rw [Ps.tag_at default hx, Ps.tag_at default hy]
          refine ⟨⟨by omega, by omega⟩, ⟨by omega, by omega⟩, ⟨by omega, by omega⟩, by omega, ⟨?_, ?_⟩, ?_⟩
          · rw [← Ps.tag_at default hx]; exact Ps.tag_mem hj.pm default (by omega)
          · rw [← Ps.tag_at default hy]; exact Ps.tag_mem hj.pm default (by omega)
          split
          · rename_i hneg
            refine ⟨by omega, by omega, ⟨(Ps.swp (default, 0) t j (j - 1), j - 1), ⟨by simp only; omega, ?_⟩, by simp only; omega, ?_⟩⟩
            · simp only
              rw [Ps.swp_map]
              unfold Ps.swp
              simp only [Ps.tag_at default hx, Ps.tag_at default hy]
            · refine Ps.in_step hp (default, 0) hj hi' hja fun x' y' hx' hy' => ?_
              rw [hx] at hx'; cases hx'
              rw [hy] at hy'; cases hy'
              rw [hcm]; simp; omega
          · rename_i hneg
            refine ⟨⟨by omega, by omega⟩, ⟨(t, i + 1), ⟨by simp only; omega, rfl⟩, by simp only; omega, ?_, by simp only; omega, by simp only; omega⟩⟩
            refine Ps.in_end hp hj (by omega) hi' (.inr fun x' y' hx' hy' => ?_)
            rw [hx] at hx'; cases hx'
            rw [hy] at hy'; cases hy'
            rw [hcm]; simp; omega
        · rename_i hja
          refine ⟨⟨by omega, by omega⟩, ⟨(t, i + 1), ⟨by simp only; omega, rfl⟩, by simp only; omega, ?_, by simp only; omega, by simp only; omega⟩⟩
          exact Ps.in_end hp hj (by omega) hi' (.inl (by omega))
    · rename_i hge
      rw [Ps.out_end hp i1 h1 (by omega) (by omega) i3]
/-- closures that compare, on the members of a list -/
def CmpOn (g : Nat) (cs : List D) (cm : St6 → St6 → Int) (l : List St6) : Prop := (g ≠ 71 ∧ g ≠ 77 ∧ g ≠ 70 ∧ g ≠ 51) ∧ ∀ x ∈ l, ∀ y ∈ l, FC Try.prog g cs [.agg (eD6 x), .agg (eD6 y)] (.ret (.int .i64 (cm x y)))
theorem CmpOn.perm {g : Nat} {cs : List D} {cm : St6 → St6 → Int} {l k : List St6} (h : CmpOn g cs cm l) (hp : k.Perm l) : CmpOn g cs cm k := ⟨h.1, fun x hx y hy => h.2 x (hp.mem_iff.1 hx) y (hp.mem_iff.1 hy)⟩
structure CmpLe (cm : St6 → St6 → Int) (le : St6 → St6 → Bool) : Prop where
  e : ∀ x y, le x y = decide (0 ≤ cm y x)
  p : Ps.Pre le
theorem CmpLe.f {cm : St6 → St6 → Int} {le : St6 → St6 → Bool} (h : CmpLe cm le) {x y : St6} : le x y = false ↔ cm y x < 0 := by rw [h.e, decide_eq_false_iff_not]; omega
theorem CmpLe.t {cm : St6 → St6 → Int} {le : St6 → St6 → Bool} (h : CmpLe cm le) {x y : St6} : le x y = true ↔ ¬ cm y x < 0 := by rw [h.e, decide_eq_true_iff]; omega
def cm_is1 (cm : St6 → St6 → Int) (le : St6 → St6 → Bool) (i n : Nat) (a b : Int) (g : Nat) (cs : List D) : Option LObj → MS
  | some (.vec e 6 rows 0) => .yes ((e = 38 ∧ rows = (rows.map d6).map eD6) ∧ (rows.length = n ∧ n < 1000000000) ∧ (0 ≤ a ∧ a ≤ b ∧ b ≤ n) ∧ cleanL [.fn g [] cs] = true ∧ CmpOn g cs cm (rows.map d6)) [i] [(i, .vec e 6 ((Ps.seg (Ps.srt le) (rows.map d6) a.toNat b.toNat).map eD6) 0)] (.ret (.tup []))
  | _ => .bad
def cm_is (cm : St6 → St6 → Int) (le : St6 → St6 → Bool) (ds : List D) (H : Hp) : MS := match ds with | [.vec i n, .int .i64 a, .int .i64 b, .fn g [] cs] => cm_is1 cm le i n a b g cs (H i) | _ => .bad
theorem stm_is {cm : St6 → St6 → Int} {le : St6 → St6 → Bool} (hcl : CmpLe cm le) : StMC Try.prog 70 [0] (cm_is cm le) := by
  intro ds H pre mu o1 out h hp
  unfold cm_is at h
  split at h
  · rename_i i n a b g cs
    unfold cm_is1 at h
    split at h
    · rename_i e rows hi
      cases h
      obtain ⟨⟨rfl, hr⟩, ⟨rfl, h3⟩, ⟨ha, h1, h2⟩, hcs, hc⟩ := hp
      rw [objs_one hi]
      have := (fcm_insertion g cs hcs cm le hcl.e hcl.p (rows.map d6) hc.2 a.toNat b.toNat rows.length (by simp) (by omega) (by omega) h3).one i trivial (by simp [plainO])
      rw [← hr, Int.toNat_of_nonneg ha, Int.toNat_of_nonneg (by omega)] at this
      simp only [renF, ren1, renLO, renO, renM, ren, renL, sw_l] at this
      exact this
    · cases h
  · cases h
def cm_ro1 (i n : Nat) (a m b : Int) (f : D) : Option LObj → MS
  | some (.vec e 6 rows 0) => .yes ((e = 38 ∧ rows = (rows.map d6).map eD6) ∧ (rows.length = n ∧ n < 1000000000) ∧ (0 ≤ a ∧ a < m ∧ m < b ∧ b ≤ n) ∧ cleanL [f] = true) [i] [(i, .vec e 6 ((Ps.rot (rows.map d6) a.toNat m.toNat b.toNat).map eD6) 0)] (.ret (.tup []))
  | _ => .bad
def cm_ro (ds : List D) (H : Hp) : MS := match ds with | [.vec i n, .int .i64 a, .int .i64 m, .int .i64 b, f] => cm_ro1 i n a m b f (H i) | _ => .bad
theorem stm_ro : StMC Try.prog 77 [0] cm_ro := by
  intro ds H pre mu o1 out h hp
  unfold cm_ro at h
  split at h
  · rename_i i n a m b f
    unfold cm_ro1 at h
    split at h
    · rename_i e rows hi
      cases h
      obtain ⟨⟨rfl, hr⟩, ⟨rfl, h3⟩, ⟨ha, h1, h2, h4⟩, hf⟩ := hp
      rw [objs_one hi]
      have := (fcm_rotate (rows.map d6) a.toNat m.toNat b.toNat f hf rows.length (by simp) (by omega) (by omega) (by omega) h3).one i trivial (by simp [plainO])
      rw [← hr, Int.toNat_of_nonneg ha, Int.toNat_of_nonneg (by omega), Int.toNat_of_nonneg (by omega)] at this
      simp only [renF, ren1, renLO, renO, renM, ren, renL, sw_l] at this
      exact this
    · cases h
  · cases h
end Go.Proofs.Ytdaffodmpoadgaa
