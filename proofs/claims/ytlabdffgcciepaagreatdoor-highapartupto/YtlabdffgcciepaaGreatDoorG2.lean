/-
  What the functions compute that the law of this claim reaches. By an AI agent.
-/
import Derived.Test.YtlabdffgcciepaaGreatDoorG1
set_option linter.unusedSimpArgs false
set_option linter.unusedVariables false
set_option linter.unusedSectionVars false
namespace Go.Proofs.YtlabdffgcciepaaGreatDoor
open Go.Tn
set_option maxHeartbeats 8000000
set_option maxRecDepth 100000
theorem ctM_app (l : List Int) (k : Int) : ctM (l ++ [k]) = mup (ctM l) k (mlk (ctM l) k + 1) := by simp [ctM]
theorem rev_ind {α : Type} {p : List α → Prop} (h0 : p []) (h1 : ∀ l k, p l → p (l ++ [k])) : ∀ l, p l := by
  have key : ∀ r : List α, p r.reverse := fun r => by
    induction r with
    | nil => exact h0
    | cons k r ih => rw [List.reverse_cons]; exact h1 _ _ ih
  intro l
  have := key l.reverse
  rwa [List.reverse_reverse] at this
theorem mup_keys (k v : Int) : ∀ m : List (Int × Int), (mup m k v).map (·.1) = if k ∈ m.map (·.1) then m.map (·.1) else m.map (·.1) ++ [k]
  | [] => by simp [mup]
  | x :: r => by
    have ih := mup_keys k v r
    simp only [mup]
    by_cases e : x.1 = k
    · subst e; simp
    · rw [if_neg e, List.map_cons, ih]
      by_cases h : k ∈ r.map (·.1)
      · rw [if_pos h, if_pos (by rw [List.map_cons]; exact List.mem_cons_of_mem _ h)]; rfl
      · rw [if_neg h, if_neg (by rw [List.map_cons, List.mem_cons]; exact fun h' => h'.elim (fun h' => e h'.symm) h)]; rfl
theorem ct_keys (l : List Int) : (∀ x, x ∈ (ctM l).map (·.1) ↔ x ∈ l) ∧ (ctM l).length ≤ l.length ∧ ((ctM l).length = l.length ↔ l.Nodup) := by
  refine rev_ind (p := fun l => (∀ x, x ∈ (ctM l).map (·.1) ↔ x ∈ l) ∧ (ctM l).length ≤ l.length ∧ ((ctM l).length = l.length ↔ l.Nodup)) ?_ ?_ l
  · simp [ctM]
  · rintro l k ⟨h1, h2, h3⟩
    rw [ctM_app]
    have hk := mup_keys k (mlk (ctM l) k + 1) (ctM l)
    have hlen : (mup (ctM l) k (mlk (ctM l) k + 1)).length = (ctM l).length + if k ∈ l then 0 else 1 := by
      have := congrArg List.length hk
      rw [List.length_map] at this
      rw [this]
      by_cases h : k ∈ l
      · rw [if_pos ((h1 k).2 h), if_pos h, List.length_map]; rfl
      · rw [if_neg (fun h' => h ((h1 k).1 h')), if_neg h, List.length_append, List.length_map]; rfl
    refine ⟨fun x => ?_, ?_, ?_⟩
    · rw [hk]
      by_cases h : k ∈ l
      · rw [if_pos ((h1 k).2 h), h1, List.mem_append, List.mem_singleton]
        exact ⟨.inl, fun h' => h'.elim id (fun e => e ▸ h)⟩
      · rw [if_neg (fun h' => h ((h1 k).1 h')), List.mem_append, List.mem_append, h1]
    · rw [hlen, List.length_append, List.length_singleton]; split <;> omega
    · rw [hlen, List.length_append, List.length_singleton, List.nodup_append]
      by_cases h : k ∈ l
      · rw [if_pos h]
        refine ⟨fun e => by omega, fun ⟨_, _, h'⟩ => absurd rfl (h' k h k (by simp))⟩
      · rw [if_neg h]
        refine ⟨fun e => ⟨h3.1 (by omega), by simp, fun a ha b hb => ?_⟩, fun ⟨h', _⟩ => by rw [h3.2 h']⟩
        obtain rfl : b = k := by simpa using hb
        exact fun e => h (e ▸ ha)
structure Good (ps : List (Int × Int)) (na nb : Int) : Prop where
  a0 : 0 ≤ na
  b0 : 0 ≤ nb
  inn : ∀ p ∈ ps, inB na nb p
  na : (ps.map (·.1)).Nodup
  nb : (ps.map (·.2)).Nodup
  up : ps.Pairwise (fun p q => p.2 ≤ q.2)
theorem dnF_up : ∀ ps : List (Int × Int), dnF ps = false ↔ ps.Pairwise (fun p q => p.2 ≤ q.2)
  | [] => by simp [dnF]
  | [p] => by simp [dnF]
  | p :: q :: r => by
    have ih := dnF_up (q :: r)
    simp only [dnF, Bool.or_eq_false_iff, decide_eq_false_iff_not, ih]
    rw [List.pairwise_cons (a := p)]
    constructor
    · rintro ⟨h1, h2⟩
      refine ⟨fun x hx => ?_, h2⟩
      rcases List.mem_cons.1 hx with rfl | hx
      · omega
      · have := (List.pairwise_cons.1 h2).1 x hx; omega
    · rintro ⟨h1, h2⟩
      exact ⟨by have := h1 q (by simp); omega, h2⟩
theorem chk_zero (ps : List (Int × Int)) (na nb : Int) : chk ps na nb = 0 ↔ Good ps na nb := by
  have h1 := ct_keys (ps.map (·.1))
  have h2 := ct_keys (ps.map (·.2))
  rw [List.length_map] at h1 h2
  unfold chk
  constructor
  · intro h
    by_cases c1 : na < 0 ∨ nb < 0
    · rw [if_pos c1] at h; omega
    · rw [if_neg c1] at h
      by_cases c2 : ∃ p ∈ ps, ¬ inB na nb p
      · rw [if_pos c2] at h; omega
      · rw [if_neg c2] at h
        by_cases c3 : (ctM (ps.map (·.1))).length < ps.length ∨ (ctM (ps.map (·.2))).length < ps.length
        · rw [if_pos c3] at h; omega
        · rw [if_neg c3] at h
          cases c4 : dnF ps with
          | true => rw [if_pos c4] at h; omega
          | false =>
            exact ⟨by omega, by omega, fun p hp => Classical.byContradiction fun hn => c2 ⟨p, hp, hn⟩, h1.2.2.1 (by omega), h2.2.2.1 (by omega), (dnF_up ps).1 c4⟩
  · intro g
    have e1 := h1.2.2.2 g.na
    have e2 := h2.2.2.2 g.nb
    have e3 := (dnF_up ps).2 g.up
    have := g.a0
    have := g.b0
    rw [if_neg (by omega), if_neg (fun ⟨p, hp, hn⟩ => hn (g.inn p hp)), if_neg (by omega), if_neg (by rw [e3]; simp)]
theorem perm_turnP (l : List (Int × Int)) : (turnP l).Perm (l.map sw) := List.mergeSort_perm _ _
theorem mem_turnP {l : List (Int × Int)} {p : Int × Int} : p ∈ turnP l ↔ sw p ∈ l := by
  rw [(perm_turnP l).mem_iff, List.mem_map]
  constructor
  · rintro ⟨q, hq, rfl⟩; exact hq
  · intro h; exact ⟨_, h, rfl⟩
theorem turnP_fst (l : List (Int × Int)) : ((turnP l).map (·.1)).Perm (l.map (·.2)) := by
  have := (perm_turnP l).map (·.1)
  rw [List.map_map] at this; exact this
theorem turnP_snd (l : List (Int × Int)) : ((turnP l).map (·.2)).Perm (l.map (·.1)) := by
  have := (perm_turnP l).map (·.2)
  rw [List.map_map] at this; exact this
theorem Good.turn {l : List (Int × Int)} {na nb : Int} (g : Good l na nb) : Good (turnP l) nb na := by
  refine ⟨g.b0, g.a0, fun p hp => ?_, (turnP_fst l).nodup_iff.2 g.nb, (turnP_snd l).nodup_iff.2 g.na, ?_⟩
  · have := g.inn _ (mem_turnP.1 hp)
    exact ⟨this.2.2.1, this.2.2.2, this.1, this.2.1⟩
  · refine (Ps.srt_sorted pre_leB (l.map sw)).imp (fun h => ?_)
    exact of_decide_eq_true h
theorem inj_at {α β : Type} {f : α → β} {l : List α} (h : (l.map f).Nodup) {a b : α} (ha : a ∈ l) (hb : b ∈ l) (e : f a = f b) : a = b := by
  obtain ⟨i, hi, rfl⟩ := List.getElem_of_mem ha
  obtain ⟨j, hj, rfl⟩ := List.getElem_of_mem hb
  have h1 := List.pairwise_iff_getElem.1 (List.nodup_iff_pairwise_ne.1 h)
  rcases Nat.lt_trichotomy i j with h2 | h2 | h2
  · exact absurd (by rw [List.getElem_map, List.getElem_map]; exact e) (h1 i j (by simpa using hi) (by simpa using hj) h2)
  · subst h2; rfl
  · exact absurd (by rw [List.getElem_map, List.getElem_map]; exact e.symm) (h1 j i (by simpa using hj) (by simpa using hi) h2)
theorem rsL_congr {l k : List Int} (h : ∀ x, x ∈ l ↔ x ∈ k) (n : Nat) : rsL l n = rsL k n := by
  unfold rsL
  congr 1
  refine List.filter_congr fun i _ => ?_
  simp only [h]
theorem rsL_cnt : ∀ {n : Nat} {l : List Int}, l.Nodup → (∀ x ∈ l, 0 ≤ x ∧ x < n) → (rsL l n).length + l.length = n
  | 0, l, _, h2 => by
    cases l with
    | nil => rfl
    | cons x l => have := h2 x (by simp); omega
  | n + 1, l, h1, h2 => by
    rw [rsL_succ, List.length_append]
    by_cases h : (n : Int) ∈ l
    · have h3 := h1.erase (n : Int)
      have ih := rsL_cnt (n := n) h3 (fun x hx => by
        have h4 := h2 x (List.mem_of_mem_erase hx)
        have h5 : x ≠ n := fun e => by
          rw [e] at hx
          exact (h1.not_mem_erase) hx
        omega)
      have e1 : rsL (l.erase (n : Int)) n = rsL l n := by
        unfold rsL
        congr 1
        refine List.filter_congr fun i hi => ?_
        have hi := List.mem_range.1 hi
        have : (i : Int) ≠ n := by omega
        simp only [List.mem_erase_of_ne this]
      have e2 : (l.erase (n : Int)).length + 1 = l.length := by
        have := List.length_erase_of_mem h
        have : 0 < l.length := List.length_pos_of_mem h
        omega
      rw [e1] at ih
      rw [if_neg (fun h' => h' h)]
      simp only [List.length_nil]; omega
    · have ih := rsL_cnt (n := n) h1 (fun x hx => by
        have h4 := h2 x hx
        have h5 : x ≠ n := fun e => h (e ▸ hx)
        omega)
      rw [if_pos h]
      simp only [List.length_cons, List.length_nil]; omega
theorem mem_rsL {l : List Int} {n : Nat} {x : Int} : x ∈ rsL l n ↔ (0 ≤ x ∧ x < n) ∧ x ∉ l := by
  unfold rsL
  rw [List.mem_map]
  constructor
  · rintro ⟨i, hi, rfl⟩
    obtain ⟨h1, h2⟩ := List.mem_filter.1 hi
    have := List.mem_range.1 h1
    exact ⟨by omega, by simpa using h2⟩
  · rintro ⟨⟨h1, h2⟩, h3⟩
    refine ⟨x.toNat, List.mem_filter.2 ⟨List.mem_range.2 (by omega), ?_⟩, by omega⟩
    rw [Int.toNat_of_nonneg h1]; simpa using h3
theorem rsL_nodup (l : List Int) (n : Nat) : (rsL l n).Nodup := by
  unfold rsL
  rw [List.nodup_iff_pairwise_ne, List.pairwise_map]
  refine List.Pairwise.imp (R := fun a b => a < b) (fun h => by omega) ?_
  exact (List.pairwise_lt_range).filter _
theorem mtF_len {α β : Type} {q : α → β → Bool} : ∀ {l : List α} {r : List β}, mtF q l r = true → l.length = r.length
  | [], [], _ => rfl
  | x :: l, y :: r, h => by
    simp only [mtF, Bool.and_eq_true] at h
    simp only [List.length_cons, mtF_len h.2]
end Go.Proofs.YtlabdffgcciepaaGreatDoor
namespace Go.Proofs.YtlabdffgcciepaaGreatDoor
open Go.Tn
set_option maxHeartbeats 8000000
set_option maxRecDepth 100000
end Go.Proofs.YtlabdffgcciepaaGreatDoor
namespace Go.Proofs.YtlabdffgcciepaaGreatDoor
open Go.Tn
set_option maxHeartbeats 8000000
set_option maxRecDepth 100000
end Go.Proofs.YtlabdffgcciepaaGreatDoor
namespace Go.Proofs.YtlabdffgcciepaaGreatDoor
open Go.Tn
set_option maxHeartbeats 8000000
set_option maxRecDepth 100000
theorem gup_keys {V : Type} (k : Str) (v : V) : ∀ m : List (Str × V), (gup m k v).map (·.1) = if k ∈ m.map (·.1) then m.map (·.1) else m.map (·.1) ++ [k]
  | [] => by simp [gup]
  | x :: r => by
    have ih := gup_keys k v r
    simp only [gup]
    by_cases e : x.1 = k
    · subst e; simp
    · rw [if_neg e, List.map_cons, ih]
      by_cases h : k ∈ r.map (·.1)
      · rw [if_pos h, if_pos (by rw [List.map_cons]; exact List.mem_cons_of_mem _ h)]; rfl
      · rw [if_neg h, if_neg (by rw [List.map_cons, List.mem_cons]; exact fun h' => h'.elim (fun h' => e h'.symm) h)]; rfl
end Go.Proofs.YtlabdffgcciepaaGreatDoor
namespace Go.Proofs.YtlabdffgcciepaaGreatDoor
open Go.Tn
set_option maxHeartbeats 8000000
set_option maxRecDepth 100000
end Go.Proofs.YtlabdffgcciepaaGreatDoor
namespace Go.Proofs.YtlabdffgcciepaaGreatDoor
open Go.Tn
set_option maxHeartbeats 8000000
set_option maxRecDepth 100000
end Go.Proofs.YtlabdffgcciepaaGreatDoor
namespace Go.Proofs.YtlabdffgcciepaaGreatDoor
open Go.Tn
set_option maxHeartbeats 8000000
set_option maxRecDepth 100000
section
variable {α : Type} {le : α → α → Bool} {S : List α} {x d : α}
end
end Go.Proofs.YtlabdffgcciepaaGreatDoor
namespace Go.Proofs.YtlabdffgcciepaaGreatDoor
open Go.Tn
set_option maxHeartbeats 8000000
set_option maxRecDepth 100000
theorem g6 (l : List St6) : gndL (l.map eD6).flatten = true := gndR_of eD6 (fun _ => rfl) l
end Go.Proofs.YtlabdffgcciepaaGreatDoor
namespace Go.Proofs.YtlabdffgcciepaaGreatDoor
open Go.Tn
set_option maxHeartbeats 8000000
set_option maxRecDepth 100000
end Go.Proofs.YtlabdffgcciepaaGreatDoor
namespace Go.Proofs.YtlabdffgcciepaaGreatDoor
open Go.Tn
set_option maxHeartbeats 8000000
set_option maxRecDepth 100000
theorem fc_EqualS (l k : List (Str)) : FC Tryz.prog 46 [] [.sl 1 (l.map eS), .sl 1 (k.map eS)] (.ret (.bool (decide (l = k)))) := by
  refine fc_M (fn := Tryz.f46) (C := (tab [] [])) (rs := [4]) mixed (by kernel_rfl) (by kernel_rfl) rfl rfl (by kernel_rfl) (by intro ys h; cases h) ?_
  by_cases hlen : l.length = k.length
  · simp +contextual (maxSteps := 5000000) only [go_sem, ↓reduceIte, hlen]
    intro _
    refine M_loopI (fun i : Nat => ⟨[(0, .sl 1 (l.map eS)), (1, .sl 1 (k.map eS)), (11, .sl 1 (l.map eS)), (12, .int .i64 k.length), (13, .int .i64 i)], []⟩) (fun i => l.length - i) (fun i => i ≤ l.length ∧ ∀ j, j < i → l.getD j [] = k.getD j []) 0 ?_ ?_
    · simp +contextual (maxSteps := 5000000) only [go_sem, ↓reduceIte]
      rfl
    · intro i hi
      obtain ⟨hi, ho⟩ := hi
      by_cases hlt : i < k.length
      · have ha := eS_at l i (by omega)
        have hb := eS_at k i hlt
        have hl2 : i < l.length := by omega
        generalize hx : l.getD i [] = x at ha
        generalize hy : k.getD i [] = y at hb
        by_cases q : x = y
        · subst q
          simp +contextual (maxSteps := 5000000) only [go_sem, ↓reduceIte, hlt, hl2, ha, hb, eq_self]
          try intro _
          refine ⟨inR64 (by omega) (by omega), fun _ => ⟨i + 1, by simp, by omega, by omega, fun j hj => ?_⟩⟩
          rcases lt_cases hj with h | rfl
          · exact ho j h
          · rw [hx, hy]
        · have hne : ¬ l = k := fun h => q (by rw [← hx, ← hy, h])
          have hd : decide (l = k) = false := decide_eq_false hne
          rw [hd]
          simp +contextual (maxSteps := 5000000) only [go_sem, ↓reduceIte, hlt, hl2, ha, hb, q]
      · have hd : decide (l = k) = true := decide_eq_true (eq_of_at [] hlen (fun j hj => ho j (by omega)))
        rw [hd]
        have hl3 : ¬ i < l.length := by omega
        simp +contextual (maxSteps := 5000000) only [go_sem, ↓reduceIte, hlt, hl3]
  · have hd : decide (l = k) = false := decide_eq_false (fun h => hlen (by rw [h]))
    rw [hd]
    simp +contextual (maxSteps := 5000000) only [go_sem, ↓reduceIte, hlen]
theorem fc_RefS (l k : List (Str)) : FC Tryz.prog 27 [] [.sl 1 (l.map eS), .sl 1 (k.map eS)] (.ret (.bool (decide (l = k)))) := by
  refine fc_M (fn := Tryz.f27) (C := (tab [] [])) (rs := [4]) mixed (by kernel_rfl) (by kernel_rfl) rfl rfl (by kernel_rfl) (by intro ys h; cases h) ?_
  by_cases hlen : l.length = k.length
  · simp +contextual (maxSteps := 5000000) only [go_sem, ↓reduceIte, hlen]
    intro _
    refine M_loopI (fun i : Nat => ⟨[(0, .sl 1 (l.map eS)), (1, .sl 1 (k.map eS)), (5, .int .i64 i)], []⟩) (fun i => l.length - i) (fun i => i ≤ l.length ∧ ∀ j, j < i → l.getD j [] = k.getD j []) 0 ?_ ?_
    · simp +contextual (maxSteps := 5000000) only [go_sem, ↓reduceIte]
      rfl
    · intro i hi
      obtain ⟨hi, ho⟩ := hi
      by_cases hlt : i < k.length
      · have ha := eS_at l i (by omega)
        have hb := eS_at k i hlt
        have hl2 : i < l.length := by omega
        generalize hx : l.getD i [] = x at ha
        generalize hy : k.getD i [] = y at hb
        by_cases q : x = y
        · subst q
          simp +contextual (maxSteps := 5000000) only [go_sem, ↓reduceIte, hlt, hl2, ha, hb, eq_self]
          try intro _
          refine ⟨inR64 (by omega) (by omega), fun _ => ⟨i + 1, by simp, by omega, by omega, fun j hj => ?_⟩⟩
          rcases lt_cases hj with h | rfl
          · exact ho j h
          · rw [hx, hy]
        · have hne : ¬ l = k := fun h => q (by rw [← hx, ← hy, h])
          have hd : decide (l = k) = false := decide_eq_false hne
          rw [hd]
          simp +contextual (maxSteps := 5000000) only [go_sem, ↓reduceIte, hlt, hl2, ha, hb, q]
      · have hd : decide (l = k) = true := decide_eq_true (eq_of_at [] hlen (fun j hj => ho j (by omega)))
        rw [hd]
        have hl3 : ¬ i < l.length := by omega
        simp +contextual (maxSteps := 5000000) only [go_sem, ↓reduceIte, hlt, hl3]
        try exact fun _ => rfl
  · have hd : decide (l = k) = false := decide_eq_false (fun h => hlen (by rw [h]))
    rw [hd]
    simp +contextual (maxSteps := 5000000) only [go_sem, ↓reduceIte, hlen]
theorem fc_EqualP (l k : List (Int × Int)) : FC Tryz.prog 47 [] [.sl 2 (l.map eP), .sl 2 (k.map eP)] (.ret (.bool (decide (l = k)))) := by
  refine fc_M (fn := Tryz.f47) (C := (tab [] [])) (rs := [4]) mixed (by kernel_rfl) (by kernel_rfl) rfl rfl (by kernel_rfl) (by intro ys h; cases h) ?_
  by_cases hlen : l.length = k.length
  · simp +contextual (maxSteps := 5000000) only [go_sem, ↓reduceIte, hlen]
    intro _
    refine M_loopI (fun i : Nat => ⟨[(0, .sl 2 (l.map eP)), (1, .sl 2 (k.map eP)), (11, .sl 2 (l.map eP)), (12, .int .i64 k.length), (13, .int .i64 i)], []⟩) (fun i => l.length - i) (fun i => i ≤ l.length ∧ ∀ j, j < i → l.getD j (0, 0) = k.getD j (0, 0)) 0 ?_ ?_
    · simp +contextual (maxSteps := 5000000) only [go_sem, ↓reduceIte]
      rfl
    · intro i hi
      obtain ⟨hi, ho⟩ := hi
      by_cases hlt : i < k.length
      · have ha := eP_at l i (by omega)
        have hb := eP_at k i hlt
        have hl2 : i < l.length := by omega
        generalize hx : l.getD i (0, 0) = x at ha
        generalize hy : k.getD i (0, 0) = y at hb
        by_cases q : x = y
        · subst q
          simp +contextual (maxSteps := 5000000) only [go_sem, ↓reduceIte, hlt, hl2, ha, hb, eq_self]
          try intro _
          refine ⟨inR64 (by omega) (by omega), fun _ => ⟨i + 1, by simp, by omega, by omega, fun j hj => ?_⟩⟩
          rcases lt_cases hj with h | rfl
          · exact ho j h
          · rw [hx, hy]
        · have hne : ¬ l = k := fun h => q (by rw [← hx, ← hy, h])
          have hd : decide (l = k) = false := decide_eq_false hne
          rw [hd]
          simp +contextual (maxSteps := 5000000) only [go_sem, ↓reduceIte, hlt, hl2, ha, hb]
          first | exact fun h => (h fun e1 e2 => q (Prod.ext e1 e2)).elim | exact fun _ h => (h fun e1 e2 => q (Prod.ext e1 e2)).elim
      · have hd : decide (l = k) = true := decide_eq_true (eq_of_at (0, 0) hlen (fun j hj => ho j (by omega)))
        rw [hd]
        have hl3 : ¬ i < l.length := by omega
        simp +contextual (maxSteps := 5000000) only [go_sem, ↓reduceIte, hlt, hl3]
  · have hd : decide (l = k) = false := decide_eq_false (fun h => hlen (by rw [h]))
    rw [hd]
    simp +contextual (maxSteps := 5000000) only [go_sem, ↓reduceIte, hlen]
theorem fc_Equal6 (l k : List (St6)) : FC Tryz.prog 49 [] [.sl 6 (l.map eD6), .sl 6 (k.map eD6)] (.ret (.bool (decide (l = k)))) := by
  refine fc_M (fn := Tryz.f49) (C := (tab [] [])) (rs := [4]) mixed (by kernel_rfl) (by kernel_rfl) rfl rfl (by kernel_rfl) (by intro ys h; cases h) ?_
  by_cases hlen : l.length = k.length
  · simp +contextual (maxSteps := 5000000) only [go_sem, ↓reduceIte, hlen]
    intro _
    refine M_loopI (fun i : Nat => ⟨[(0, .sl 6 (l.map eD6)), (1, .sl 6 (k.map eD6)), (11, .sl 6 (l.map eD6)), (12, .int .i64 k.length), (13, .int .i64 i)], []⟩) (fun i => l.length - i) (fun i => i ≤ l.length ∧ ∀ j, j < i → l.getD j default = k.getD j default) 0 ?_ ?_
    · simp +contextual (maxSteps := 5000000) only [go_sem, ↓reduceIte]
      rfl
    · intro i hi
      obtain ⟨hi, ho⟩ := hi
      by_cases hlt : i < k.length
      · have ha := eD6_at l i (by omega)
        have hb := eD6_at k i hlt
        have hl2 : i < l.length := by omega
        generalize hx : l.getD i default = x at ha
        generalize hy : k.getD i default = y at hb
        by_cases q : x = y
        · subst q
          simp +contextual (maxSteps := 5000000) only [go_sem, ↓reduceIte, hlt, hl2, ha, hb, eq_self]
          try intro _
          refine ⟨inR64 (by omega) (by omega), fun _ => ⟨i + 1, by simp, by omega, by omega, fun j hj => ?_⟩⟩
          rcases lt_cases hj with h | rfl
          · exact ho j h
          · rw [hx, hy]
        · have hne : ¬ l = k := fun h => q (by rw [← hx, ← hy, h])
          have hd : decide (l = k) = false := decide_eq_false hne
          rw [hd]
          simp +contextual (maxSteps := 5000000) only [go_sem, ↓reduceIte, hlt, hl2, ha, hb]
          first | exact fun h => (h fun e1 e2 e3 e4 e5 e6 => q (by cases x; cases y; simp_all)).elim | exact fun _ h => (h fun e1 e2 e3 e4 e5 e6 => q (by cases x; cases y; simp_all)).elim
      · have hd : decide (l = k) = true := decide_eq_true (eq_of_at default hlen (fun j hj => ho j (by omega)))
        rw [hd]
        have hl3 : ¬ i < l.length := by omega
        simp +contextual (maxSteps := 5000000) only [go_sem, ↓reduceIte, hlt, hl3]
  · have hd : decide (l = k) = false := decide_eq_false (fun h => hlen (by rw [h]))
    rw [hd]
    simp +contextual (maxSteps := 5000000) only [go_sem, ↓reduceIte, hlen]
theorem fc_EqualSp (l k : List (Sp)) : FC Tryz.prog 50 [] [.sl 3 (l.map eSp), .sl 3 (k.map eSp)] (.ret (.bool (decide (l = k)))) := by
  refine fc_M (fn := Tryz.f50) (C := (tab [] [])) (rs := [4]) mixed (by kernel_rfl) (by kernel_rfl) rfl rfl (by kernel_rfl) (by intro ys h; cases h) ?_
  by_cases hlen : l.length = k.length
  · simp +contextual (maxSteps := 5000000) only [go_sem, ↓reduceIte, hlen]
    intro _
    refine M_loopI (fun i : Nat => ⟨[(0, .sl 3 (l.map eSp)), (1, .sl 3 (k.map eSp)), (11, .sl 3 (l.map eSp)), (12, .int .i64 k.length), (13, .int .i64 i)], []⟩) (fun i => l.length - i) (fun i => i ≤ l.length ∧ ∀ j, j < i → l.getD j (0, 0, []) = k.getD j (0, 0, [])) 0 ?_ ?_
    · simp +contextual (maxSteps := 5000000) only [go_sem, ↓reduceIte]
      rfl
    · intro i hi
      obtain ⟨hi, ho⟩ := hi
      by_cases hlt : i < k.length
      · have ha := eSp_at l i (by omega)
        have hb := eSp_at k i hlt
        have hl2 : i < l.length := by omega
        generalize hx : l.getD i (0, 0, []) = x at ha
        generalize hy : k.getD i (0, 0, []) = y at hb
        by_cases q : x = y
        · subst q
          simp +contextual (maxSteps := 5000000) only [go_sem, ↓reduceIte, hlt, hl2, ha, hb, eq_self]
          try intro _
          refine ⟨inR64 (by omega) (by omega), fun _ => ⟨i + 1, by simp, by omega, by omega, fun j hj => ?_⟩⟩
          rcases lt_cases hj with h | rfl
          · exact ho j h
          · rw [hx, hy]
        · have hne : ¬ l = k := fun h => q (by rw [← hx, ← hy, h])
          have hd : decide (l = k) = false := decide_eq_false hne
          rw [hd]
          simp +contextual (maxSteps := 5000000) only [go_sem, ↓reduceIte, hlt, hl2, ha, hb]
          first | exact fun h => (h fun e1 e2 e3 => q (Prod.ext e1 (Prod.ext e2 e3))).elim | exact fun _ h => (h fun e1 e2 e3 => q (Prod.ext e1 (Prod.ext e2 e3))).elim
      · have hd : decide (l = k) = true := decide_eq_true (eq_of_at (0, 0, []) hlen (fun j hj => ho j (by omega)))
        rw [hd]
        have hl3 : ¬ i < l.length := by omega
        simp +contextual (maxSteps := 5000000) only [go_sem, ↓reduceIte, hlt, hl3]
  · have hd : decide (l = k) = false := decide_eq_false (fun h => hlen (by rw [h]))
    rw [hd]
    simp +contextual (maxSteps := 5000000) only [go_sem, ↓reduceIte, hlen]
end Go.Proofs.YtlabdffgcciepaaGreatDoor
namespace Go.Proofs.YtlabdffgcciepaaGreatDoor
open Go.Tn
set_option maxHeartbeats 8000000
set_option maxRecDepth 100000
def c_EqS (caps args : List D) : Prop × Out := match caps, args with | [], [.sl 1 a, .sl 1 b] => (a = (a.map dS).map eS ∧ b = (b.map dS).map eS, .ret (.bool (decide (a.map dS = b.map dS)))) | _, _ => (False, .ret .any)
theorem st_EqS : StC Tryz.prog 46 c_EqS := by
  intro caps args; unfold c_EqS; split
  · rename_i a b
    rintro ⟨h1, h2⟩
    have := fc_EqualS (a.map dS) (b.map dS)
    rw [← h1, ← h2] at this
    exact this
  · exact fun h => h.elim
end Go.Proofs.YtlabdffgcciepaaGreatDoor
namespace Go.Proofs.YtlabdffgcciepaaGreatDoor
open Go.Tn
set_option maxHeartbeats 8000000
set_option maxRecDepth 100000
def mxL (l : List Str) : Nat := l.foldl (fun n s => max n s.length) 0
theorem mxL_snoc (l : List Str) (x : Str) : mxL (l ++ [x]) = max (mxL l) x.length := by simp [mxL]
theorem mxL_take {l : List Str} {P : List Str} {i : Nat} (h : i < l.length) : mxL (P ++ l.take (i + 1)) = max (mxL (P ++ l.take i)) (l.getD i []).length := by
  rw [← mxL_snoc, List.append_assoc, List.take_add_one, List.getElem?_eq_getElem h, List.getD_eq_getElem?_getD, List.getElem?_eq_getElem h]; rfl
structure okT (d : Dl) : Prop where
  A : d.A.length < 2000000
  B : d.B.length < 2000000
  cols : d.cols.length < 2000000
  rows : d.rows.length < 2000000
  dels : d.dels.length < 2000000
  inss : d.inss.length < 2000000
  sets : d.sets.length < 2000000
  lost : d.lost.length < 2000000
  gain : d.gain.length < 2000000
  cells : (txL (d.dels ++ d.inss)).length < 2000000
  texts : ∀ s ∈ txF d, s.length < 2000000
theorem fc_longest (d : Dl) (h : okT d) : FC Tryz.prog 13 [] [.agg (eDl d)] (.ret (.int .i64 (mxL (txF d)))) := by
  obtain ⟨hA, hB, hco, hro, hde, hin, hse, hlo, hga, hce, _⟩ := h
  unfold eDl
  refine fc_M (fn := Tryz.f13) (C := (tab [] [] [8010, 8022])) (rs := [2]) mixed (by kernel_rfl) (by kernel_rfl) rfl rfl (by kernel_rfl) (by intro ys h; cases h) ?_
  simp +contextual (maxSteps := 5000000) only [go_sem, ↓reduceIte]
  refine M_loopI (fun i : Nat => ⟨[(1, .loc 1 0), (3, .int .i64 (mxL (d.A.take i))), (4, .int .i64 i)], [(1, .blk (eDl d) false)]⟩) (fun i => d.A.length - i) (fun i => i ≤ d.A.length) 0 ?_ ?_
  · simp +contextual (maxSteps := 5000000) only [go_sem, ↓reduceIte, eDl]
    exact ⟨rfl, rfl⟩
  intro i hi
  by_cases hlt : i < d.A.length
  · have hat := eS_at d.A i hlt
    have hm := mxL_take (P := []) hlt
    simp only [List.nil_append] at hm
    simp +contextual (maxSteps := 5000000) only [go_sem, ↓reduceIte, hlt, hat, eDl]
    exact fun _ _ => ⟨inR64 (by omega) (by omega), fun _ => ⟨i + 1, ⟨by rw [hm]; omega, by simp⟩, by omega, by omega⟩⟩
  obtain rfl : i = d.A.length := by omega
  simp +contextual (maxSteps := 5000000) only [go_sem, ↓reduceIte, eDl, hlt, Nat.lt_irrefl, List.take_length]
  clear hlt hi
  refine fun _ => M_loopI (fun i : Nat => ⟨[(1, .loc 1 0), (3, .int .i64 (mxL (d.A ++ d.B.take i))), (5, .int .i64 i)], [(1, .blk (eDl d) false)]⟩) (fun i => d.B.length - i) (fun i => i ≤ d.B.length) 0 ?_ ?_
  · simp +contextual (maxSteps := 5000000) only [go_sem, ↓reduceIte, eDl]
    rfl
  intro i hi
  by_cases hlt : i < d.B.length
  · have hat := eS_at d.B i hlt
    have hm := mxL_take (P := d.A) hlt
    simp +contextual (maxSteps := 5000000) only [go_sem, ↓reduceIte, hlt, hat, eDl]
    exact fun _ _ => ⟨inR64 (by omega) (by omega), fun _ => ⟨i + 1, ⟨by rw [hm]; omega, by simp⟩, by omega, by omega⟩⟩
  obtain rfl : i = d.B.length := by omega
  simp +contextual (maxSteps := 5000000) only [go_sem, ↓reduceIte, eDl, hlt, Nat.lt_irrefl, List.take_length]
  refine fun _ => ⟨by omega, fun _ => ⟨by omega, fun _ => ?_⟩⟩
  have e1 : d.dels.length + d.inss.length = (d.dels ++ d.inss).length := by simp
  have e2 : txF d = d.A ++ d.B ++ txL (d.dels ++ d.inss) ++ txS d.sets ++ txP (d.lost ++ d.gain) := rfl
  have e3 : d.dels.map eL ++ d.inss.map eL = (d.dels ++ d.inss).map eL := by simp
  have hll : (d.dels ++ d.inss).length < 4000000 := by simp; omega
  rw [e2, e1, e3]
  clear e1 e2 e3
  generalize d.A ++ d.B = P0
  generalize hL : d.dels ++ d.inss = L at hce hll ⊢
  refine M_loopI (fun i : Nat => ⟨[(1, .loc 1 0), (3, .int .i64 (mxL (P0 ++ txL (L.take i)))), (6, .vec 42 L.length), (7, .int .i64 i)], [(1, .blk (eDl d) false), (42, .vec 44 2 (L.map eL) 0)]⟩) (fun i => L.length - i) (fun i => i ≤ L.length) 0 ?_ ?_
  · simp +contextual (maxSteps := 5000000) only [go_sem, ↓reduceIte, eDl, txL, List.flatMap_nil]
    rfl
  intro i hi
  by_cases hlt : i < L.length
  · have hat := eL_at L i hlt
    simp +contextual (maxSteps := 5000000) only [go_sem, ↓reduceIte, hlt, hat, eDl]
    have ht : txL (L.take (i + 1)) = txL (L.take i) ++ (L.getD i (0, [])).2 := flat_succ (d := (0, [])) (·.2) hlt
    generalize L.getD i (0, []) = x at hat ht
    refine M_loopI (fun k : Nat => ⟨[(1, .loc 1 0), (3, .int .i64 (mxL (P0 ++ txL (L.take i) ++ x.2.take k))), (6, .vec 42 L.length), (7, .int .i64 i), (8, .int .i64 k)], [(1, .blk (eDl d) false), (42, .vec 44 2 (L.map eL) 0)]⟩) (fun k => x.2.length - k) (fun k => k ≤ x.2.length) 0 ?_ ?_
    · simp +contextual (maxSteps := 5000000) only [go_sem, ↓reduceIte, eDl]
      rfl
    intro k hk
    by_cases hlk : k < x.2.length
    · have hat2 := eS_at x.2 k hlk
      have hm := mxL_take (P := P0 ++ txL (L.take i)) hlk
      simp +contextual (maxSteps := 5000000) only [go_sem, ↓reduceIte, hlt, hlk, hat, hat2, eDl]
      exact fun _ _ => ⟨inR64 (by omega) (by omega), fun _ => ⟨k + 1, ⟨by rw [hm]; omega, by simp⟩, by omega, by omega⟩⟩
    · obtain rfl : k = x.2.length := by omega
      simp +contextual (maxSteps := 5000000) only [go_sem, ↓reduceIte, hlt, hat, Nat.lt_irrefl, eDl]
      exact fun _ => ⟨inR64 (by omega) (by omega), fun _ => ⟨i + 1, ⟨by rw [ht, List.take_length, List.append_assoc], by simp⟩, by omega, by omega⟩⟩
  obtain rfl : i = L.length := by omega
  simp +contextual (maxSteps := 5000000) only [go_sem, ↓reduceIte, eDl, hlt, Nat.lt_irrefl, List.take_length]
  generalize P0 ++ txL L = P1
  clear hce hll hlt hi hL
  refine M_loopI (fun i : Nat => ⟨[(1, .loc 1 0), (3, .int .i64 (mxL (P1 ++ txS (d.sets.take i)))), (9, .int .i64 i)], [(1, .blk (eDl d) false)]⟩) (fun i => d.sets.length - i) (fun i => i ≤ d.sets.length) 0 ?_ ?_
  · simp +contextual (maxSteps := 5000000) only [go_sem, ↓reduceIte, eDl, txS, List.flatMap_nil]
    rfl
  intro i hi
  by_cases hlt : i < d.sets.length
  · have hat := eD6_at d.sets i hlt
    have ht : txS (d.sets.take (i + 1)) = txS (d.sets.take i) ++ [(d.sets.getD i default).o, (d.sets.getD i default).n] := flat_succ (d := default) (fun s : St6 => [s.o, s.n]) hlt
    have hm : mxL (P1 ++ txS (d.sets.take (i + 1))) = max (max (mxL (P1 ++ txS (d.sets.take i))) (d.sets.getD i default).o.length) (d.sets.getD i default).n.length := by
      rw [ht, ← mxL_snoc, ← mxL_snoc]; simp
    simp +contextual (maxSteps := 5000000) only [go_sem, ↓reduceIte, hlt, hat, eDl]
    exact fun _ => ⟨inR64 (by omega) (by omega), fun _ => ⟨i + 1, ⟨by rw [hm]; omega, by simp⟩, by omega, by omega⟩⟩
  obtain rfl : i = d.sets.length := by omega
  simp +contextual (maxSteps := 5000000) only [go_sem, ↓reduceIte, eDl, hlt, Nat.lt_irrefl, List.take_length]
  refine fun _ => ⟨by omega, fun _ => ⟨by omega, fun _ => ?_⟩⟩
  have e1 : d.lost.length + d.gain.length = (d.lost ++ d.gain).length := by simp
  have e3 : d.lost.map eSp ++ d.gain.map eSp = (d.lost ++ d.gain).map eSp := by simp
  have hll : (d.lost ++ d.gain).length < 4000000 := by simp; omega
  rw [e1, e3]
  clear e1 e3
  generalize P1 ++ txS d.sets = P2
  generalize hL : d.lost ++ d.gain = L at hll ⊢
  refine M_loopI (fun i : Nat => ⟨[(1, .loc 1 0), (3, .int .i64 (mxL (P2 ++ txP (L.take i)))), (10, .vec 100 L.length), (11, .int .i64 i)], [(1, .blk (eDl d) false), (100, .vec 77 3 (L.map eSp) 0)]⟩) (fun i => L.length - i) (fun i => i ≤ L.length) 0 ?_ ?_
  · simp +contextual (maxSteps := 5000000) only [go_sem, ↓reduceIte, eDl, txP, List.map_nil]
    rfl
  intro i hi
  by_cases hlt : i < L.length
  · have hat := eSp_at L i hlt
    have hm : mxL (P2 ++ txP (L.take (i + 1))) = max (mxL (P2 ++ txP (L.take i))) (L.getD i (0, 0, [])).2.2.length := by
      rw [txP_succ hlt, ← mxL_snoc]; simp
    simp +contextual (maxSteps := 5000000) only [go_sem, ↓reduceIte, hlt, hat, eDl]
    exact fun _ => ⟨inR64 (by omega) (by omega), fun _ => ⟨i + 1, ⟨by rw [hm]; omega, by simp⟩, by omega, by omega⟩⟩
  obtain rfl : i = L.length := by omega
  simp +contextual (maxSteps := 5000000) only [go_sem, ↓reduceIte, eDl, hlt, Nat.lt_irrefl, List.take_length]
theorem mxL_lt {l : List Str} {b : Nat} (hb : 0 < b) (h : ∀ s ∈ l, s.length < b) : mxL l < b := by
  have gen : ∀ (l : List Str) (n : Nat), n < b → (∀ s ∈ l, s.length < b) → l.foldl (fun n s => max n s.length) n < b := by
    intro l
    induction l with
    | nil => intro n hn _; exact hn
    | cons s l ih => intro n hn h; exact ih _ (by have := h s (by simp); show max n s.length < b; omega) (fun x hx => h x (List.mem_cons_of_mem _ hx))
  exact gen l 0 hb h
def c_longest (d : Dl) (caps args : List D) : Prop × Out := match caps, args with
  | [], [x] => (x = .agg (eDl d), .ret (.int .i64 (mxL (txF d))))
  | _, _ => (False, .ret .any)
theorem st_longest {d : Dl} (h : okT d) : StC Tryz.prog 13 (c_longest d) := by
  intro caps args; unfold c_longest; split
  · rintro rfl; exact fc_longest d h
  · exact fun h => h.elim
def cntN (d : Dl) : Nat := d.A.length + d.B.length + d.cols.length + d.rows.length + d.dels.length + d.inss.length + d.sets.length + d.lost.length + d.gain.length
def fewF (d : Dl) : Bool := decide (cntN d ≤ 300 ∧ d.na ≤ 60 ∧ d.nb ≤ 60) && decide (mxL (txF d) + (txL d.dels).length + (txL d.inss).length ≤ 2000)
theorem fc_Few (d : Dl) (h : okT d) : FC Tryz.prog 7 [] [.agg (eDl d)] (.ret (.bool (fewF d))) := by
  have hl := st_longest h
  have hmx := mxL_lt (by omega) h.texts
  obtain ⟨hA, hB, hco, hro, hde, hin, hse, hlo, hga, hce, _⟩ := h
  unfold eDl
  refine fc_M (fn := Tryz.f7) (C := (tab [(13, c_longest d)] [] [5001])) (rs := [2]) mixed (by kernel_rfl) (by kernel_rfl) rfl rfl (by kernel_rfl) (by intro ys h; cases h) ?_
  simp +contextual (maxSteps := 5000000) only [go_sem, ↓reduceIte]
  refine M_join (fun _ : Unit => ⟨[(1, .loc 1 0), (3, .int .i64 (cntN d : Nat))], [(1, .blk (eDl d) false)]⟩) (fun _ => True) ?_ ?_
  · simp +contextual (maxSteps := 5000000) only [go_sem, ↓reduceIte, eDl, cntN]
    repeat' first | (refine ⟨inR64 (by omega) (by omega), ?_⟩) | intro _
    refine ⟨(), ?_⟩
    omega
  intro _ _
  unfold fewF eDl
  by_cases q1 : (300 : Int) < (cntN d : Nat)
  · have e : decide (cntN d ≤ 300 ∧ d.na ≤ 60 ∧ d.nb ≤ 60) = false := decide_eq_false (by omega)
    rw [e]
    simp +contextual (maxSteps := 5000000) only [go_sem, ↓reduceIte, q1]
  by_cases q2 : 60 < d.na
  · have e : decide (cntN d ≤ 300 ∧ d.na ≤ 60 ∧ d.nb ≤ 60) = false := decide_eq_false (by omega)
    rw [e]
    simp +contextual (maxSteps := 5000000) only [go_sem, ↓reduceIte, q1, q2]
  by_cases q3 : 60 < d.nb
  · have e : decide (cntN d ≤ 300 ∧ d.na ≤ 60 ∧ d.nb ≤ 60) = false := decide_eq_false (by omega)
    rw [e]
    simp +contextual (maxSteps := 5000000) only [go_sem, ↓reduceIte, q1, q2, q3]
  have e : decide (cntN d ≤ 300 ∧ d.na ≤ 60 ∧ d.nb ≤ 60) = true := decide_eq_true (by omega)
  rw [e, Bool.true_and]
  have hn : cntN d ≤ 300 := by omega
  have hn1 : d.dels.length ≤ 300 := by unfold cntN at hn; omega
  have hn2 : d.inss.length ≤ 300 := by unfold cntN at hn; omega
  have hc1 : (txL d.dels).length < 2000000 := by unfold txL at hce ⊢; simp only [List.flatMap_append, List.length_append] at hce; omega
  have hc2 : (txL d.inss).length < 2000000 := by unfold txL at hce ⊢; simp only [List.flatMap_append, List.length_append] at hce; omega
  clear e hn
  simp +contextual (maxSteps := 5000000) only [go_sem, ↓reduceIte, c_longest, hl, eDl, q1, q2, q3]
  clear q1 q2 q3
  generalize mxL (txF d) = m0 at hmx
  refine M_loopI (fun i : Nat => ⟨[(1, .loc 1 0), (4, .int .i64 (m0 + (txL (d.dels.take i)).length : Nat)), (5, .int .i64 i)], [(1, .blk (eDl d) false)]⟩) (fun i => d.dels.length - i) (fun i => i ≤ d.dels.length) 0 ?_ ?_
  · simp +contextual (maxSteps := 5000000) only [go_sem, ↓reduceIte, eDl, txL, List.flatMap_nil]
    rfl
  intro i hi
  by_cases hlt : i < d.dels.length
  · have hat := eL_at d.dels i hlt
    have ht : txL (d.dels.take (i + 1)) = txL (d.dels.take i) ++ (d.dels.getD i (0, [])).2 := flat_succ (d := (0, [])) (·.2) hlt
    have hb : (txL (d.dels.take (i + 1))).length ≤ (txL d.dels).length := flat_le d.dels (·.2) (i + 1)
    rw [ht, List.length_append] at hb
    simp +contextual (maxSteps := 5000000) only [go_sem, ↓reduceIte, hlt, hat, eDl]
    exact fun _ _ => ⟨inR64 (by omega) (by omega), fun _ => ⟨inR64 (by omega) (by omega), fun _ => ⟨i + 1, ⟨by rw [ht, List.length_append]; omega, by simp⟩, by omega, by omega⟩⟩⟩
  obtain rfl : i = d.dels.length := by omega
  simp +contextual (maxSteps := 5000000) only [go_sem, ↓reduceIte, eDl, hlt, Nat.lt_irrefl, List.take_length]
  intro _
  refine M_loopI (fun i : Nat => ⟨[(1, .loc 1 0), (4, .int .i64 (m0 + (txL d.dels).length + (txL (d.inss.take i)).length : Nat)), (6, .int .i64 i)], [(1, .blk (eDl d) false)]⟩) (fun i => d.inss.length - i) (fun i => i ≤ d.inss.length) 0 ?_ ?_
  · simp +contextual (maxSteps := 5000000) only [go_sem, ↓reduceIte, eDl, txL, List.flatMap_nil]
    rfl
  intro i hi
  by_cases hlt : i < d.inss.length
  · have hat := eL_at d.inss i hlt
    have ht : txL (d.inss.take (i + 1)) = txL (d.inss.take i) ++ (d.inss.getD i (0, [])).2 := flat_succ (d := (0, [])) (·.2) hlt
    have hb : (txL (d.inss.take (i + 1))).length ≤ (txL d.inss).length := flat_le d.inss (·.2) (i + 1)
    rw [ht, List.length_append] at hb
    simp +contextual (maxSteps := 5000000) only [go_sem, ↓reduceIte, hlt, hat, eDl]
    exact fun _ _ => ⟨inR64 (by omega) (by omega), fun _ => ⟨inR64 (by omega) (by omega), fun _ => ⟨i + 1, ⟨by rw [ht, List.length_append]; omega, by simp⟩, by omega, by omega⟩⟩⟩
  obtain rfl : i = d.inss.length := by omega
  simp +contextual (maxSteps := 5000000) only [go_sem, ↓reduceIte, eDl, hlt, Nat.lt_irrefl, List.take_length]
  exact fun _ => decide_eq_decide.2 (by omega)
end Go.Proofs.YtlabdffgcciepaaGreatDoor
namespace Go.Proofs.YtlabdffgcciepaaGreatDoor
open Go.Tn
set_option maxHeartbeats 8000000
set_option maxRecDepth 100000
def keyS (s : St6) : Int × Int := (s.j, s.q)
def keyA (s : St6) : Int × Int := (s.i, s.p)
def ltS (x y : St6) : Prop := ordF x y < 0
theorem ltS_iff (x y : St6) : ltS x y ↔ x.j < y.j ∨ (x.j = y.j ∧ x.q < y.q) := ordF_lt x y
structure OkS (d : Dl) : Prop where
  mem : ∀ x ∈ d.sets, ((x.i, x.j) ∈ d.rows ∧ (x.p, x.q) ∈ d.cols) ∧ x.o ≠ x.n
  up : d.sets.Pairwise ltS
theorem okS_iff (d : Dl) : (¬ ∃ i, i < d.sets.length ∧ okS d i = false) ↔ OkS d := by
  have ats : ∀ {i : Nat} (hi : i < d.sets.length), setAt6 d i = d.sets[i] := fun {i} hi => by
    unfold setAt6
    rw [List.getD_eq_getElem?_getD, List.getElem?_eq_getElem hi]; rfl
  constructor
  · intro h
    have all : ∀ i, i < d.sets.length → okS d i = true := fun i hi => by
      cases hb : okS d i with
      | true => rfl
      | false => exact absurd ⟨i, hi, hb⟩ h
    refine ⟨fun x hx => ?_, ?_⟩
    · obtain ⟨i, hi, rfl⟩ := List.getElem_of_mem hx
      have := all i hi
      simp only [okS, ats hi, Bool.and_eq_true, decide_eq_true_eq] at this
      exact ⟨⟨this.1.1.1, this.1.1.2⟩, this.1.2⟩
    · have adj : ∀ i (hi : i + 1 < d.sets.length), ltS d.sets[i] d.sets[i + 1] := fun i hi => by
        have := all (i + 1) hi
        simp only [okS, ats hi, Bool.and_eq_true, Bool.or_eq_true, decide_eq_true_eq, Nat.add_sub_cancel, ats (show i < d.sets.length by omega)] at this
        exact this.2.resolve_left (by omega)
      rw [List.pairwise_iff_getElem]
      intro i j hi hj hij
      obtain ⟨k, rfl⟩ : ∃ k, j = i + 1 + k := ⟨j - (i + 1), by omega⟩
      induction k with
      | zero => exact adj i hj
      | succ k ih =>
        have h1 := ih (by omega) (by omega)
        have h2 := adj (i + 1 + k) (by omega)
        rw [ltS_iff] at *
        have e : d.sets[i + 1 + (k + 1)] = d.sets[i + 1 + k + 1] := rfl
        rw [e]
        omega
  · rintro g ⟨i, hi, hb⟩
    have h1 := g.mem _ (List.getElem_mem hi)
    have : okS d i = true := by
      simp only [okS, ats hi, Bool.and_eq_true, Bool.or_eq_true, decide_eq_true_eq]
      refine ⟨⟨⟨h1.1.1, h1.1.2⟩, h1.2⟩, ?_⟩
      by_cases h0 : i = 0
      · exact .inl h0
      · rw [ats (show i - 1 < d.sets.length by omega)]
        exact .inr (List.pairwise_iff_getElem.1 g.up (i - 1) i (by omega) hi (by omega))
    rw [this] at hb; cases hb
structure OkD (d : Dl) : Prop where
  ne : 0 < d.A.length ∧ 0 < d.B.length
  once : onceF d.A = true ∧ onceF d.B = true
  big : (d.A.length ≤ 40 ∧ d.B.length ≤ 40) ∧ d.na ≤ 400 ∧ d.nb ≤ 400
  cols : Good d.cols d.A.length d.B.length
  rows : Good d.rows d.na d.nb
  lines : mtF (isL d.A.length) d.dels (goneR d) = true ∧ mtF (isL d.B.length) d.inss (newR' d) = true
  spots : mtF isS d.lost (crF (wiF (goneR d) d.na.toNat) (goneC d)) = true ∧ mtF isS d.gain (crF (wiF (newR' d) d.nb.toNat) (newC d)) = true
  sets : OkS d
  short : ¬ ∃ s ∈ txF d, 1000 < s.length
theorem chkD_zero (d : Dl) : chkD d = 0 ↔ OkD d := by
  unfold chkD
  constructor
  · intro h
    by_cases p1 : 0 < d.A.length ∧ 0 < d.B.length
    · rw [if_neg (fun h => h p1)] at h
      by_cases p2 : onceF d.A = true ∧ onceF d.B = true
      · rw [if_neg (fun h => h p2)] at h
        by_cases p3 : (d.A.length ≤ 40 ∧ d.B.length ≤ 40) ∧ d.na ≤ 400 ∧ d.nb ≤ 400
        · rw [if_neg (fun h => h p3)] at h
          by_cases p4 : chk d.cols d.A.length d.B.length = 0
          · rw [if_neg (fun h => h p4)] at h
            by_cases p5 : chk d.rows d.na d.nb = 0
            · rw [if_neg (fun h => h p5)] at h
              by_cases p6 : mtF (isL d.A.length) d.dels (goneR d) = true ∧ mtF (isL d.B.length) d.inss (newR' d) = true
              · rw [if_neg (fun h => h p6)] at h
                by_cases p7 : mtF isS d.lost (crF (wiF (goneR d) d.na.toNat) (goneC d)) = true ∧ mtF isS d.gain (crF (wiF (newR' d) d.nb.toNat) (newC d)) = true
                · rw [if_neg (fun h => h p7)] at h
                  by_cases p8 : ∃ i, i < d.sets.length ∧ okS d i = false
                  · rw [if_pos p8] at h; omega
                  · rw [if_neg p8] at h
                    by_cases p9 : ∃ s ∈ txF d, 1000 < s.length
                    · rw [if_pos p9] at h; omega
                    · exact ⟨p1, p2, p3, (chk_zero _ _ _).1 p4, (chk_zero _ _ _).1 p5, p6, p7, (okS_iff d).1 p8, p9⟩
                · rw [if_pos p7] at h; omega
              · rw [if_pos p6] at h; omega
            · rw [if_pos p5] at h; exact absurd h p5
          · rw [if_pos p4] at h; exact absurd h p4
        · rw [if_pos p3] at h; omega
      · rw [if_pos p2] at h; omega
    · rw [if_pos p1] at h; omega
  · rintro ⟨p1, p2, p3, p4, p5, p6, p7, p8, p9⟩
    rw [if_neg (fun h => h p1), if_neg (fun h => h p2), if_neg (fun h => h p3), if_neg (fun h => h ((chk_zero _ _ _).2 p4)), if_neg (fun h => h ((chk_zero _ _ _).2 p5)), if_neg (fun h => h p6), if_neg (fun h => h p7), if_neg ((okS_iff d).2 p8), if_neg p9]
theorem perm_turnSs (l : List St6) : (turnSs l).Perm (l.map turnS) := List.mergeSort_perm _ _
theorem mem_turnSs {l : List St6} {x : St6} : x ∈ turnSs l ↔ turnS x ∈ l := by
  rw [(perm_turnSs l).mem_iff, List.mem_map]
  constructor
  · rintro ⟨q, hq, rfl⟩; exact hq
  · intro h; exact ⟨_, h, rfl⟩
theorem OkD.keys {d : Dl} (g : OkD d) : (d.sets.map keyS).Nodup ∧ (d.sets.map keyA).Nodup := by
  constructor
  · rw [List.nodup_iff_pairwise_ne, List.pairwise_map]
    refine g.sets.up.imp fun h e => ?_
    rw [ltS_iff] at h
    simp only [keyS, Prod.mk.injEq] at e
    omega
  · rw [List.nodup_iff_pairwise_ne, List.pairwise_map]
    refine List.Pairwise.imp_of_mem (R := ltS) (fun {x y} hx hy h e => ?_) g.sets.up
    rw [ltS_iff] at h
    simp only [keyA, Prod.mk.injEq] at e
    have h1 := g.sets.mem x hx
    have h2 := g.sets.mem y hy
    have e1 := congrArg Prod.snd (inj_at g.rows.na h1.1.1 h2.1.1 e.1)
    have e2 := congrArg Prod.snd (inj_at g.cols.na h1.1.2 h2.1.2 e.2)
    simp only at e1 e2
    omega
theorem OkD.tsets {d : Dl} (g : OkD d) : OkS (turnD d) := by
  refine ⟨fun x hx => ?_, ?_⟩
  · have h := g.sets.mem _ (mem_turnSs.1 hx)
    exact ⟨⟨mem_turnP.2 h.1.1, mem_turnP.2 h.1.2⟩, fun e => h.2 e.symm⟩
  · have h1 := Ps.srt_sorted pre_leJ (d.sets.map turnS)
    have h2 : ((turnSs d.sets).map keyS).Nodup := by
      have := (perm_turnSs d.sets).map keyS
      rw [List.map_map] at this
      exact this.nodup_iff.2 g.keys.2
    rw [List.nodup_iff_pairwise_ne, List.pairwise_map] at h2
    refine (List.Pairwise.and h1 h2).imp fun h => ?_
    obtain ⟨h3, h4⟩ := h
    rw [leJ_iff] at h3
    rw [ltS_iff]
    simp only [keyS, ne_eq, Prod.mk.injEq] at h4
    omega
theorem goneR_t (d : Dl) : goneR (turnD d) = newR' d := rsL_congr (fun x => (turnP_fst d.rows).mem_iff) _
theorem newR_t (d : Dl) : newR' (turnD d) = goneR d := rsL_congr (fun x => (turnP_snd d.rows).mem_iff) _
theorem goneC_t (d : Dl) : goneC (turnD d) = newC d := rsL_congr (fun x => (turnP_fst d.cols).mem_iff) _
theorem newC_t (d : Dl) : newC (turnD d) = goneC d := rsL_congr (fun x => (turnP_snd d.cols).mem_iff) _
theorem tx_turn {d : Dl} {s : Str} (h : s ∈ txF (turnD d)) : s ∈ txF d := by
  have e1 : ∀ a b : List Ln, txL (a ++ b) = txL a ++ txL b := fun a b => by unfold txL; simp
  have e2 : ∀ a b : List Sp, txP (a ++ b) = txP a ++ txP b := fun a b => by unfold txP; simp
  have e3 : s ∈ txS (turnSs d.sets) → s ∈ txS d.sets := fun h => by
    obtain ⟨x, hx, hs⟩ := List.mem_flatMap.1 h
    refine List.mem_flatMap.2 ⟨_, mem_turnSs.1 hx, ?_⟩
    simp only [turnS, List.mem_cons, List.not_mem_nil, or_false] at hs ⊢
    exact hs.symm
  unfold txF at h ⊢
  simp only [turnD] at h
  rw [e1, e2] at h ⊢
  simp only [List.mem_append] at h ⊢
  rcases h with (((h | h) | h | h) | h) | h | h
  · exact .inl (.inl (.inl (.inr h)))
  · exact .inl (.inl (.inl (.inl h)))
  · exact .inl (.inl (.inr (.inr h)))
  · exact .inl (.inl (.inr (.inl h)))
  · exact .inl (.inr (e3 h))
  · exact .inr (.inr h)
  · exact .inr (.inl h)
theorem OkD.turn {d : Dl} (g : OkD d) : OkD (turnD d) := by
  refine ⟨⟨g.ne.2, g.ne.1⟩, ⟨g.once.2, g.once.1⟩, ⟨⟨g.big.1.2, g.big.1.1⟩, g.big.2.2, g.big.2.1⟩, g.cols.turn, g.rows.turn, ?_, ?_, g.tsets, fun ⟨s, hs, h⟩ => g.short ⟨s, tx_turn hs, h⟩⟩
  · rw [goneR_t, newR_t]; exact ⟨g.lines.2, g.lines.1⟩
  · rw [goneR_t, newR_t, goneC_t, newC_t]; exact ⟨g.spots.2, g.spots.1⟩
end Go.Proofs.YtlabdffgcciepaaGreatDoor
namespace Go.Proofs.YtlabdffgcciepaaGreatDoor
open Go.Tn
set_option maxHeartbeats 8000000
set_option maxRecDepth 100000
end Go.Proofs.YtlabdffgcciepaaGreatDoor
