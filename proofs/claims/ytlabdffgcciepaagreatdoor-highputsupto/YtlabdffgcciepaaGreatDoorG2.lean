/-
  What the functions compute that the law of this claim reaches. By an AI agent.
-/
import Derived.Test.YtlabdffgcciepaaGreatDoorG1
set_option linter.unusedSimpArgs false
set_option linter.unusedVariables false
set_option linter.unusedSectionVars false
namespace Go.Proofs.YtlabdffgcciepaaGreatDoor
open Go.Tn
set_option maxHeartbeats 8000000
set_option maxRecDepth 100000
theorem ctM_app (l : List Int) (k : Int) : ctM (l ++ [k]) = mup (ctM l) k (mlk (ctM l) k + 1) := by simp [ctM]
theorem rev_ind {α : Type} {p : List α → Prop} (h0 : p []) (h1 : ∀ l k, p l → p (l ++ [k])) : ∀ l, p l := by
  have key : ∀ r : List α, p r.reverse := fun r => by
    induction r with
    | nil => exact h0
    | cons k r ih => rw [List.reverse_cons]; exact h1 _ _ ih
  intro l
  have := key l.reverse
  rwa [List.reverse_reverse] at this
theorem mup_keys (k v : Int) : ∀ m : List (Int × Int), (mup m k v).map (·.1) = if k ∈ m.map (·.1) then m.map (·.1) else m.map (·.1) ++ [k]
  | [] => by simp [mup]
  | x :: r => by
    have ih := mup_keys k v r
    simp only [mup]
    by_cases e : x.1 = k
    · subst e; simp
    · rw [if_neg e, List.map_cons, ih]
      by_cases h : k ∈ r.map (·.1)
      · rw [if_pos h, if_pos (by rw [List.map_cons]; exact List.mem_cons_of_mem _ h)]; rfl
      · rw [if_neg h, if_neg (by rw [List.map_cons, List.mem_cons]; exact fun h' => h'.elim (fun h' => e h'.symm) h)]; rfl
theorem ct_keys (l : List Int) : (∀ x, x ∈ (ctM l).map (·.1) ↔ x ∈ l) ∧ (ctM l).length ≤ l.length ∧ ((ctM l).length = l.length ↔ l.Nodup) := by
  refine rev_ind (p := fun l => (∀ x, x ∈ (ctM l).map (·.1) ↔ x ∈ l) ∧ (ctM l).length ≤ l.length ∧ ((ctM l).length = l.length ↔ l.Nodup)) ?_ ?_ l
  · simp [ctM]
  · rintro l k ⟨h1, h2, h3⟩
    rw [ctM_app]
    have hk := mup_keys k (mlk (ctM l) k + 1) (ctM l)
    have hlen : (mup (ctM l) k (mlk (ctM l) k + 1)).length = (ctM l).length + if k ∈ l then 0 else 1 := by
      have := congrArg List.length hk
      rw [List.length_map] at this
      rw [this]
      by_cases h : k ∈ l
      · rw [if_pos ((h1 k).2 h), if_pos h, List.length_map]; rfl
      · rw [if_neg (fun h' => h ((h1 k).1 h')), if_neg h, List.length_append, List.length_map]; rfl
    refine ⟨fun x => ?_, ?_, ?_⟩
    · rw [hk]
      by_cases h : k ∈ l
      · rw [if_pos ((h1 k).2 h), h1, List.mem_append, List.mem_singleton]
        exact ⟨.inl, fun h' => h'.elim id (fun e => e ▸ h)⟩
      · rw [if_neg (fun h' => h ((h1 k).1 h')), List.mem_append, List.mem_append, h1]
    · rw [hlen, List.length_append, List.length_singleton]; split <;> omega
    · rw [hlen, List.length_append, List.length_singleton, List.nodup_append]
      by_cases h : k ∈ l
      · rw [if_pos h]
        refine ⟨fun e => by omega, fun ⟨_, _, h'⟩ => absurd rfl (h' k h k (by simp))⟩
      · rw [if_neg h]
        refine ⟨fun e => ⟨h3.1 (by omega), by simp, fun a ha b hb => ?_⟩, fun ⟨h', _⟩ => by rw [h3.2 h']⟩
        obtain rfl : b = k := by simpa using hb
        exact fun e => h (e ▸ ha)
structure Good (ps : List (Int × Int)) (na nb : Int) : Prop where
  a0 : 0 ≤ na
  b0 : 0 ≤ nb
  inn : ∀ p ∈ ps, inB na nb p
  na : (ps.map (·.1)).Nodup
  nb : (ps.map (·.2)).Nodup
  up : ps.Pairwise (fun p q => p.2 ≤ q.2)
theorem dnF_up : ∀ ps : List (Int × Int), dnF ps = false ↔ ps.Pairwise (fun p q => p.2 ≤ q.2)
  | [] => by simp [dnF]
  | [p] => by simp [dnF]
  | p :: q :: r => by
    have ih := dnF_up (q :: r)
    simp only [dnF, Bool.or_eq_false_iff, decide_eq_false_iff_not, ih]
    rw [List.pairwise_cons (a := p)]
    constructor
    · rintro ⟨h1, h2⟩
      refine ⟨fun x hx => ?_, h2⟩
      rcases List.mem_cons.1 hx with rfl | hx
      · omega
      · have := (List.pairwise_cons.1 h2).1 x hx; omega
    · rintro ⟨h1, h2⟩
      exact ⟨by have := h1 q (by simp); omega, h2⟩
theorem chk_zero (ps : List (Int × Int)) (na nb : Int) : chk ps na nb = 0 ↔ Good ps na nb := by
  have h1 := ct_keys (ps.map (·.1))
  have h2 := ct_keys (ps.map (·.2))
  rw [List.length_map] at h1 h2
  unfold chk
  constructor
  · intro h
    by_cases c1 : na < 0 ∨ nb < 0
    · rw [if_pos c1] at h; omega
    · rw [if_neg c1] at h
      by_cases c2 : ∃ p ∈ ps, ¬ inB na nb p
      · rw [if_pos c2] at h; omega
      · rw [if_neg c2] at h
        by_cases c3 : (ctM (ps.map (·.1))).length < ps.length ∨ (ctM (ps.map (·.2))).length < ps.length
        · rw [if_pos c3] at h; omega
        · rw [if_neg c3] at h
          cases c4 : dnF ps with
          | true => rw [if_pos c4] at h; omega
          | false =>
            exact ⟨by omega, by omega, fun p hp => Classical.byContradiction fun hn => c2 ⟨p, hp, hn⟩, h1.2.2.1 (by omega), h2.2.2.1 (by omega), (dnF_up ps).1 c4⟩
  · intro g
    have e1 := h1.2.2.2 g.na
    have e2 := h2.2.2.2 g.nb
    have e3 := (dnF_up ps).2 g.up
    have := g.a0
    have := g.b0
    rw [if_neg (by omega), if_neg (fun ⟨p, hp, hn⟩ => hn (g.inn p hp)), if_neg (by omega), if_neg (by rw [e3]; simp)]
theorem perm_turnP (l : List (Int × Int)) : (turnP l).Perm (l.map sw) := List.mergeSort_perm _ _
theorem mem_turnP {l : List (Int × Int)} {p : Int × Int} : p ∈ turnP l ↔ sw p ∈ l := by
  rw [(perm_turnP l).mem_iff, List.mem_map]
  constructor
  · rintro ⟨q, hq, rfl⟩; exact hq
  · intro h; exact ⟨_, h, rfl⟩
theorem turnP_fst (l : List (Int × Int)) : ((turnP l).map (·.1)).Perm (l.map (·.2)) := by
  have := (perm_turnP l).map (·.1)
  rw [List.map_map] at this; exact this
theorem turnP_snd (l : List (Int × Int)) : ((turnP l).map (·.2)).Perm (l.map (·.1)) := by
  have := (perm_turnP l).map (·.2)
  rw [List.map_map] at this; exact this
theorem Good.turn {l : List (Int × Int)} {na nb : Int} (g : Good l na nb) : Good (turnP l) nb na := by
  refine ⟨g.b0, g.a0, fun p hp => ?_, (turnP_fst l).nodup_iff.2 g.nb, (turnP_snd l).nodup_iff.2 g.na, ?_⟩
  · have := g.inn _ (mem_turnP.1 hp)
    exact ⟨this.2.2.1, this.2.2.2, this.1, this.2.1⟩
  · refine (Ps.srt_sorted pre_leB (l.map sw)).imp (fun h => ?_)
    exact of_decide_eq_true h
theorem inj_at {α β : Type} {f : α → β} {l : List α} (h : (l.map f).Nodup) {a b : α} (ha : a ∈ l) (hb : b ∈ l) (e : f a = f b) : a = b := by
  obtain ⟨i, hi, rfl⟩ := List.getElem_of_mem ha
  obtain ⟨j, hj, rfl⟩ := List.getElem_of_mem hb
  have h1 := List.pairwise_iff_getElem.1 (List.nodup_iff_pairwise_ne.1 h)
  rcases Nat.lt_trichotomy i j with h2 | h2 | h2
  · exact absurd (by rw [List.getElem_map, List.getElem_map]; exact e) (h1 i j (by simpa using hi) (by simpa using hj) h2)
  · subst h2; rfl
  · exact absurd (by rw [List.getElem_map, List.getElem_map]; exact e.symm) (h1 j i (by simpa using hj) (by simpa using hi) h2)
theorem rsL_congr {l k : List Int} (h : ∀ x, x ∈ l ↔ x ∈ k) (n : Nat) : rsL l n = rsL k n := by
  unfold rsL
  congr 1
  refine List.filter_congr fun i _ => ?_
  simp only [h]
theorem mem_rsL {l : List Int} {n : Nat} {x : Int} : x ∈ rsL l n ↔ (0 ≤ x ∧ x < n) ∧ x ∉ l := by
  unfold rsL
  rw [List.mem_map]
  constructor
  · rintro ⟨i, hi, rfl⟩
    obtain ⟨h1, h2⟩ := List.mem_filter.1 hi
    have := List.mem_range.1 h1
    exact ⟨by omega, by simpa using h2⟩
  · rintro ⟨⟨h1, h2⟩, h3⟩
    refine ⟨x.toNat, List.mem_filter.2 ⟨List.mem_range.2 (by omega), ?_⟩, by omega⟩
    rw [Int.toNat_of_nonneg h1]; simpa using h3
theorem rsL_nodup (l : List Int) (n : Nat) : (rsL l n).Nodup := by
  unfold rsL
  rw [List.nodup_iff_pairwise_ne, List.pairwise_map]
  refine List.Pairwise.imp (R := fun a b => a < b) (fun h => by omega) ?_
  exact (List.pairwise_lt_range).filter _
theorem mtF_len {α β : Type} {q : α → β → Bool} : ∀ {l : List α} {r : List β}, mtF q l r = true → l.length = r.length
  | [], [], _ => rfl
  | x :: l, y :: r, h => by
    simp only [mtF, Bool.and_eq_true] at h
    simp only [List.length_cons, mtF_len h.2]
theorem crF_len (a b : List Int) : (crF a b).length = a.length * b.length := by
  induction a with
  | nil => simp [crF]
  | cons x a ih =>
    unfold crF at ih ⊢
    rw [List.flatMap_cons, List.length_append, ih, List.length_map, List.length_cons, Nat.succ_mul]; omega
end Go.Proofs.YtlabdffgcciepaaGreatDoor
namespace Go.Proofs.YtlabdffgcciepaaGreatDoor
open Go.Tn
set_option maxHeartbeats 8000000
set_option maxRecDepth 100000
end Go.Proofs.YtlabdffgcciepaaGreatDoor
namespace Go.Proofs.YtlabdffgcciepaaGreatDoor
open Go.Tn
set_option maxHeartbeats 8000000
set_option maxRecDepth 100000
def eTb (t : Tab) : List D := [.sl 1 (t.1.map eS), .sl 1 (t.2.map eR)]
end Go.Proofs.YtlabdffgcciepaaGreatDoor
namespace Go.Proofs.YtlabdffgcciepaaGreatDoor
open Go.Tn
set_option maxHeartbeats 8000000
set_option maxRecDepth 100000
def fnd (s : Str) : List Str → Nat → Int
  | [], _ => -1
  | x :: r, k => if x = s then k else fnd s r (k + 1)
theorem drop_at {α : Type} {l : List α} {i : Nat} {d : α} (h : i < l.length) : l.drop i = l.getD i d :: l.drop (i + 1) := by
  rw [List.drop_eq_getElem_cons h, List.getD_eq_getElem?_getD, List.getElem?_eq_getElem h]; rfl
theorem fc_Find (t : Tab) (s : Str) : FC Tryz.prog 103 [] [.agg (eTb t), .str s] (.ret (.int .i64 (fnd s t.1 0))) := by
  unfold eTb
  refine fc_M (fn := Tryz.f103) (C := (tab [] [])) (rs := [4]) mixed (by kernel_rfl) (by kernel_rfl) rfl rfl (by kernel_rfl) (by intro ys h; cases h) ?_
  simp +contextual (maxSteps := 5000000) only [go_sem, ↓reduceIte]
  refine M_loopI (fun i : Nat => ⟨[(1, .str s), (2, .loc 2 0), (5, .int .i64 i)], [(2, .blk (eTb t) false)]⟩) (fun i => t.1.length - i) (fun i => i ≤ t.1.length ∧ fnd s (t.1.drop i) i = fnd s t.1 0) 0 ?_ ?_
  · simp +contextual (maxSteps := 5000000) only [go_sem, ↓reduceIte, eTb]
    rfl
  rintro i ⟨hi, hf⟩
  by_cases hlt : i < t.1.length
  · have hat := eS_at t.1 i hlt
    rw [drop_at (d := []) hlt] at hf
    simp only [fnd] at hf
    by_cases q : t.1.getD i [] = s
    · rw [if_pos q] at hf
      rw [← hf]
      simp +contextual (maxSteps := 5000000) only [go_sem, ↓reduceIte, hlt, hat, q, eTb]
    · rw [if_neg q] at hf
      simp +contextual (maxSteps := 5000000) only [go_sem, ↓reduceIte, hlt, hat, q, eTb]
      exact fun _ => ⟨inR64 (by omega) (by omega), fun _ => ⟨i + 1, by simp, by omega, by omega, hf⟩⟩
  · rw [List.drop_of_length_le (by omega)] at hf
    simp only [fnd] at hf
    rw [← hf]
    simp +contextual (maxSteps := 5000000) only [go_sem, ↓reduceIte, hlt, eTb]
theorem fnd_at (s : Str) : ∀ (l : List Str) (k i : Nat), i < l.length → l.getD i [] = s → ∃ j, j ≤ i ∧ fnd s l k = (k + j : Nat) ∧ l.getD j [] = s ∧ ∀ m, m < j → l.getD m [] ≠ s
  | x :: r, k, i, hi, he => by
    simp only [fnd]
    by_cases q : x = s
    · exact ⟨0, by omega, by rw [if_pos q]; rfl, by simpa using q, fun m hm => by omega⟩
    · rw [if_neg q]
      cases i with
      | zero => exact absurd (by simpa using he) q
      | succ i =>
        obtain ⟨j, h1, h2, h3, h4⟩ := fnd_at s r (k + 1) i (by simpa using hi) (by simpa using he)
        refine ⟨j + 1, by omega, by rw [h2]; congr 1; omega, by simpa using h3, fun m hm => ?_⟩
        cases m with
        | zero => simpa using q
        | succ m => simpa using h4 m (by omega)
theorem gup_keys {V : Type} (k : Str) (v : V) : ∀ m : List (Str × V), (gup m k v).map (·.1) = if k ∈ m.map (·.1) then m.map (·.1) else m.map (·.1) ++ [k]
  | [] => by simp [gup]
  | x :: r => by
    have ih := gup_keys k v r
    simp only [gup]
    by_cases e : x.1 = k
    · subst e; simp
    · rw [if_neg e, List.map_cons, ih]
      by_cases h : k ∈ r.map (·.1)
      · rw [if_pos h, if_pos (by rw [List.map_cons]; exact List.mem_cons_of_mem _ h)]; rfl
      · rw [if_neg h, if_neg (by rw [List.map_cons, List.mem_cons]; exact fun h' => h'.elim (fun h' => e h'.symm) h)]; rfl
theorem cntS_app (l : List Str) (k : Str) : cntS (l ++ [k]) = gup (cntS l) k (glk 0 (cntS l) k + 1) := by simp [cntS]
theorem cntS_keys (l : List Str) : (∀ x, x ∈ (cntS l).map (·.1) ↔ x ∈ l) ∧ (cntS l).length ≤ l.length ∧ ((cntS l).length = l.length ↔ l.Nodup) := by
  refine rev_ind (p := fun l => (∀ x, x ∈ (cntS l).map (·.1) ↔ x ∈ l) ∧ (cntS l).length ≤ l.length ∧ ((cntS l).length = l.length ↔ l.Nodup)) ?_ ?_ l
  · simp [cntS]
  · rintro l k ⟨h1, h2, h3⟩
    rw [cntS_app]
    have hk := gup_keys k (glk 0 (cntS l) k + 1) (cntS l)
    have hlen : (gup (cntS l) k (glk 0 (cntS l) k + 1)).length = (cntS l).length + if k ∈ l then 0 else 1 := by
      have := congrArg List.length hk
      rw [List.length_map] at this
      rw [this]
      by_cases h : k ∈ l
      · rw [if_pos ((h1 k).2 h), if_pos h, List.length_map]; rfl
      · rw [if_neg (fun h' => h ((h1 k).1 h')), if_neg h, List.length_append, List.length_map]; rfl
    refine ⟨fun x => ?_, ?_, ?_⟩
    · rw [hk]
      by_cases h : k ∈ l
      · rw [if_pos ((h1 k).2 h), h1, List.mem_append, List.mem_singleton]
        exact ⟨.inl, fun h' => h'.elim id (fun e => e ▸ h)⟩
      · rw [if_neg (fun h' => h ((h1 k).1 h')), List.mem_append, List.mem_append, h1]
    · rw [hlen, List.length_append, List.length_singleton]; split <;> omega
    · rw [hlen, List.length_append, List.length_singleton, List.nodup_append]
      by_cases h : k ∈ l
      · rw [if_pos h]
        refine ⟨fun e => by omega, fun ⟨_, _, h'⟩ => absurd rfl (h' k h k (by simp))⟩
      · rw [if_neg h]
        refine ⟨fun e => ⟨h3.1 (by omega), by simp, fun a ha b hb => ?_⟩, fun ⟨h', _⟩ => by rw [h3.2 h']⟩
        obtain rfl : b = k := by simpa using hb
        exact fun e => h (e ▸ ha)
theorem onceF_iff (l : List Str) : onceF l = true ↔ l.Nodup := by
  unfold onceF
  rw [decide_eq_true_eq]; exact (cntS_keys l).2.2
theorem nodup_fnd (l : List Str) : l.Nodup ↔ ∀ i, i < l.length → fnd (l.getD i []) l 0 = i := by
  have at_ : ∀ {i} (h : i < l.length), l.getD i [] = l[i] := fun {i} h => by rw [List.getD_eq_getElem?_getD, List.getElem?_eq_getElem h]; rfl
  constructor
  · intro h i hi
    obtain ⟨j, h1, h2, h3, h4⟩ := fnd_at (l.getD i []) l 0 i hi rfl
    rw [h2]
    have : j = i := by
      rw [at_ (by omega), at_ hi] at h3
      exact (List.getElem_inj h).1 h3
    omega
  · intro h
    refine List.pairwise_iff_getElem.2 fun i j hi hj hij e => ?_
    obtain ⟨k, h1, h2, h3, h4⟩ := fnd_at (l.getD j []) l 0 j hj rfl
    rw [h j hj] at h2
    exact h4 i (by omega) (by rw [at_ hi, at_ hj]; exact e)
def dTb1 (r : List D) : Tab := match r with | [.sl _ h, .sl _ l] => (h.map dS, l.map dR) | [.sl _ h, _] => (h.map dS, []) | _ => ([], [])
def c_Find (caps args : List D) : Prop × Out := match caps, args with | [], [.agg r, .str s] => (wkL r (eTb (dTb1 r)), .ret (.int .i64 (fnd s (dTb1 r).1 0))) | _, _ => (False, .ret .any)
theorem st_Find : StC Tryz.prog 103 c_Find := by
  intro caps args; unfold c_Find; split
  · exact fun h => fc_wk (wkL_self []) (by simp only [wkL, wk]; exact ⟨h, trivial, trivial⟩) (by intro ys h; cases h) (fc_Find _ _)
  · exact fun h => h.elim
theorem fc_names (l : List Str) : FC Tryz.prog 64 [] [.sl 1 (l.map eS)] (.ret (.bool (onceF l))) := by
  refine fc_M (fn := Tryz.f64) (C := (tab [(103, c_Find)] [])) (rs := [2]) mixed (by kernel_rfl) (by kernel_rfl) rfl rfl (by kernel_rfl) (by intro ys h; cases h) ?_
  simp +contextual (maxSteps := 5000000) only [go_sem, ↓reduceIte]
  refine M_loopI (fun i : Nat => ⟨[(0, .sl 1 (l.map eS)), (3, .int .i64 i)], []⟩) (fun i => l.length - i) (fun i => i ≤ l.length ∧ ∀ j, j < i → fnd (l.getD j []) l 0 = j) 0 ?_ ?_
  · simp +contextual (maxSteps := 5000000) only [go_sem, ↓reduceIte]
    rfl
  rintro i ⟨hi, hf⟩
  by_cases hlt : i < l.length
  · have hat := eS_at l i hlt
    by_cases q : fnd (l.getD i []) l 0 = i
    · have hd : dTb1 [.sl 1 (l.map eS), .nil] = (l, []) := by simp only [dTb1, dS_eS]
      have hw : wkL [.sl 1 (l.map eS), .nil] (eTb (l, [])) := by simp [wkL, wk, eTb]
      simp +contextual (maxSteps := 5000000) only [go_sem, ↓reduceIte, hlt, hat, c_Find, st_Find, hd, hw, q]
      refine fun _ => ⟨inR64 (by omega) (by omega), fun _ => ⟨i + 1, by simp, by omega, by omega, fun j hj => ?_⟩⟩
      rcases lt_cases hj with h | rfl
      · exact hf j h
      · exact q
    · have hd : dTb1 [.sl 1 (l.map eS), .nil] = (l, []) := by simp only [dTb1, dS_eS]
      have hw : wkL [.sl 1 (l.map eS), .nil] (eTb (l, [])) := by simp [wkL, wk, eTb]
      have hn : onceF l = false := by
        cases h : onceF l with
        | false => rfl
        | true => exact absurd ((nodup_fnd l).1 ((onceF_iff l).1 h) i hlt) q
      rw [hn]
      simp +contextual (maxSteps := 5000000) only [go_sem, ↓reduceIte, hlt, hat, c_Find, st_Find, hd, hw, q]
  · have hn : onceF l = true := (onceF_iff l).2 ((nodup_fnd l).2 fun j hj => hf j (by omega))
    rw [hn]
    simp +contextual (maxSteps := 5000000) only [go_sem, ↓reduceIte, hlt]
theorem mem_drop {α : Type} {l : List α} {i : Nat} {d x : α} (h : i < l.length) : x ∈ l.drop i ↔ x = l.getD i d ∨ x ∈ l.drop (i + 1) := by
  rw [drop_at (d := d) h, List.mem_cons]
theorem fc_In (l : List Int) (n : Int) : FC Tryz.prog 104 [] [.sl 1 (l.map eI), .int .i64 n] (.ret (.bool (decide (n ∈ l)))) := by
  refine fc_M (fn := Tryz.f104) (C := (tab [] [])) (rs := [4]) mixed (by kernel_rfl) (by kernel_rfl) rfl rfl (by kernel_rfl) (by intro ys h; cases h) ?_
  simp +contextual (maxSteps := 5000000) only [go_sem, ↓reduceIte]
  refine M_loopI (fun i : Nat => ⟨[(0, .sl 1 (l.map eI)), (1, .int .i64 n), (5, .int .i64 i)], []⟩) (fun i => l.length - i) (fun i => i ≤ l.length ∧ (n ∈ l.drop i ↔ n ∈ l)) 0 ?_ ?_
  · simp +contextual (maxSteps := 5000000) only [go_sem, ↓reduceIte]
    rfl
  rintro i ⟨hi, hf⟩
  by_cases hlt : i < l.length
  · have hat := eI_at l i hlt
    rw [mem_drop (d := 0) hlt] at hf
    by_cases q : l.getD i 0 = n
    · have hn : decide (n ∈ l) = true := decide_eq_true (hf.1 (.inl q.symm))
      rw [hn]
      simp +contextual (maxSteps := 5000000) only [go_sem, ↓reduceIte, hlt, hat, q]
    · simp +contextual (maxSteps := 5000000) only [go_sem, ↓reduceIte, hlt, hat, q]
      refine fun _ => ⟨inR64 (by omega) (by omega), fun _ => ⟨i + 1, by simp, by omega, by omega, ?_⟩⟩
      rw [← hf]
      exact ⟨.inr, fun h => h.resolve_left (fun h => q h.symm)⟩
  · rw [List.drop_of_length_le (by omega)] at hf
    have hn : decide (n ∈ l) = false := decide_eq_false (fun h => by simpa using hf.2 h)
    rw [hn]
    simp +contextual (maxSteps := 5000000) only [go_sem, ↓reduceIte, hlt]
theorem fc_inside (l : List (Int × Int)) (a b : Int) : FC Tryz.prog 105 [] [.sl 2 (l.map eP), .int .i64 a, .int .i64 b] (.ret (.bool (decide ((a, b) ∈ l)))) := by
  refine fc_M (fn := Tryz.f105) (C := (tab [] [])) (rs := [6]) mixed (by kernel_rfl) (by kernel_rfl) rfl rfl (by kernel_rfl) (by intro ys h; cases h) ?_
  simp +contextual (maxSteps := 5000000) only [go_sem, ↓reduceIte]
  refine M_loopI (fun i : Nat => ⟨[(0, .sl 2 (l.map eP)), (1, .int .i64 a), (2, .int .i64 b), (7, .int .i64 i)], []⟩) (fun i => l.length - i) (fun i => i ≤ l.length ∧ ((a, b) ∈ l.drop i ↔ (a, b) ∈ l)) 0 ?_ ?_
  · simp +contextual (maxSteps := 5000000) only [go_sem, ↓reduceIte]
    rfl
  rintro i ⟨hi, hf⟩
  by_cases hlt : i < l.length
  · have hat := eP_at l i hlt
    rw [mem_drop (d := (0, 0)) hlt] at hf
    by_cases q1 : (l.getD i (0, 0)).1 = a
    · by_cases q2 : (l.getD i (0, 0)).2 = b
      · have hn : decide ((a, b) ∈ l) = true := decide_eq_true (hf.1 (.inl (Prod.ext q1.symm q2.symm)))
        rw [hn]
        simp +contextual (maxSteps := 5000000) only [go_sem, ↓reduceIte, hlt, hat, q1, q2]
      · simp +contextual (maxSteps := 5000000) only [go_sem, ↓reduceIte, hlt, hat, q1, q2]
        refine fun _ => ⟨inR64 (by omega) (by omega), fun _ => ⟨i + 1, by simp, by omega, by omega, ?_⟩⟩
        rw [← hf]
        exact ⟨.inr, fun h => h.resolve_left (fun h => q2 (by rw [← h]))⟩
    · simp +contextual (maxSteps := 5000000) only [go_sem, ↓reduceIte, hlt, hat, q1]
      refine fun _ => ⟨inR64 (by omega) (by omega), fun _ => ⟨i + 1, by simp, by omega, by omega, ?_⟩⟩
      rw [← hf]
      exact ⟨.inr, fun h => h.resolve_left (fun h => q1 (by rw [← h]))⟩
  · rw [List.drop_of_length_le (by omega)] at hf
    have hn : decide ((a, b) ∈ l) = false := decide_eq_false (fun h => by simpa using hf.2 h)
    rw [hn]
    simp +contextual (maxSteps := 5000000) only [go_sem, ↓reduceIte, hlt]
end Go.Proofs.YtlabdffgcciepaaGreatDoor
namespace Go.Proofs.YtlabdffgcciepaaGreatDoor
open Go.Tn
set_option maxHeartbeats 8000000
set_option maxRecDepth 100000
theorem take_mem {α : Type} {f : α → Int} {l : List α} {i : Nat} {d : α} {a : Int} (h : i < l.length) : a ∈ (l.take (i + 1)).map f ↔ a ∈ (l.take i).map f ∨ f (l.getD i d) = a := by
  have e : l.take (i + 1) = l.take i ++ [l.getD i d] := by
    rw [List.take_add_one, List.getElem?_eq_getElem h, List.getD_eq_getElem?_getD, List.getElem?_eq_getElem h]; rfl
  rw [e, List.map_append, List.mem_append]
  simp only [List.map_cons, List.map_nil, List.mem_singleton]
  exact or_congr_right eq_comm
theorem fc_rRestA (l : List (Int × Int)) (n : Int) (hn : n ≤ 1000000000) (hl : l.length < 1000000000) : FC Tryz.prog 66 [] [.sl 2 (l.map eP), .int .i64 n] (.ret (.sl 1 ((rsL (l.map (·.1)) n.toNat).map eI))) := by
  refine fc_M (fn := Tryz.f66) (C := (tab [] [])) (rs := [4]) mixed (by kernel_rfl) (by kernel_rfl) rfl rfl (by kernel_rfl) (by intro ys h; cases h) ?_
  simp +contextual (maxSteps := 5000000) only [go_sem, ↓reduceIte]
  refine M_loopI (fun a : Nat => ⟨[(0, .sl 2 (l.map eP)), (1, .int .i64 n), (5, .vec 35 (rsL (l.map (·.1)) a).length), (6, .int .i64 a)], [(35, .vec 3 1 ((rsL (l.map (·.1)) a).map eI) 0)]⟩) (fun i => n.toNat - i) (fun i => i ≤ n.toNat) 0 ?_ ?_
  · simp +contextual (maxSteps := 5000000) only [go_sem, ↓reduceIte, rsL, List.range_zero, List.filter_nil]
    rfl
  intro a ha
  have hlen := rsL_len (l.map (·.1)) a
  have hs := rsL_succ (l.map (·.1)) a
  by_cases hlt : (a : Int) < n
  · simp +contextual (maxSteps := 5000000) only [go_sem, ↓reduceIte, hlt]
    refine M_loopI (fun i : Nat => ⟨[(0, .sl 2 (l.map eP)), (1, .int .i64 n), (5, .vec 35 (rsL (l.map (·.1)) a).length), (6, .int .i64 a), (7, .bool (decide ((a : Int) ∈ (l.take i).map (·.1)))), (8, .int .i64 i)], [(35, .vec 3 1 ((rsL (l.map (·.1)) a).map eI) 0)]⟩) (fun i => l.length - i) (fun i => i ≤ l.length) 0 ?_ ?_
    · simp +contextual (maxSteps := 5000000) only [go_sem, ↓reduceIte]
      simp
    intro i hi
    by_cases hlt2 : i < l.length
    · have hat := eP_at l i hlt2
      have hm := take_mem (f := (·.1)) (d := ((0 : Int), (0 : Int))) (a := (a : Int)) hlt2
      by_cases q0 : (a : Int) ∈ (l.take i).map (·.1)
      · have q2 := decide_eq_true (hm.2 (.inl q0))
        have q1 := decide_eq_true q0
        simp +contextual (maxSteps := 5000000) only [go_sem, ↓reduceIte, hlt, hlt2, hat, q1]
        exact fun _ => ⟨inR64 (by omega) (by omega), fun _ => ⟨i + 1, ⟨q2.symm, by simp⟩, by omega, by omega⟩⟩
      · have q1 := decide_eq_false q0
        by_cases q3 : (l.getD i (0, 0)).1 = a
        · have q2 := decide_eq_true (hm.2 (.inr q3))
          simp +contextual (maxSteps := 5000000) only [go_sem, ↓reduceIte, hlt, hlt2, hat, q1, q3]
          exact fun _ => ⟨inR64 (by omega) (by omega), fun _ => ⟨i + 1, ⟨q2.symm, by simp⟩, by omega, by omega⟩⟩
        · have q2 := decide_eq_false (fun h => (hm.1 h).elim q0 q3)
          simp +contextual (maxSteps := 5000000) only [go_sem, ↓reduceIte, hlt, hlt2, hat, q1, q3]
          exact fun _ => ⟨inR64 (by omega) (by omega), fun _ => ⟨i + 1, ⟨q2.symm, by simp⟩, by omega, by omega⟩⟩
    · obtain rfl : i = l.length := by omega
      by_cases h0 : (a : Int) ∈ l.map (·.1)
      · have q1 := decide_eq_true h0
        rw [if_neg (by simpa using h0), List.append_nil] at hs
        simp +contextual (maxSteps := 5000000) only [go_sem, ↓reduceIte, hlt, hlt2, Nat.lt_irrefl, List.take_length, q1]
        refine fun _ => ⟨inR64 (by omega) (by omega), fun _ => ⟨a + 1, ⟨⟨by rw [hs], by simp⟩, by rw [hs]⟩, by omega, by omega⟩⟩
      · have q1 := decide_eq_false h0
        rw [if_pos h0] at hs
        simp +contextual (maxSteps := 5000000) only [go_sem, ↓reduceIte, hlt, hlt2, Nat.lt_irrefl, List.take_length, q1]
        refine fun _ => ⟨by omega, fun _ => ⟨inR64 (by omega) (by omega), fun _ => ⟨a + 1, ⟨⟨by rw [hs]; simp, by simp⟩, by rw [hs]; simp [eI]⟩, by omega, by omega⟩⟩⟩
  · simp +contextual (maxSteps := 5000000) only [go_sem, ↓reduceIte, hlt]
    rw [show a = n.toNat by omega]
theorem fc_rRestB (l : List (Int × Int)) (n : Int) (hn : n ≤ 1000000000) (hl : l.length < 1000000000) : FC Tryz.prog 67 [] [.sl 2 (l.map eP), .int .i64 n] (.ret (.sl 1 ((rsL (l.map (·.2)) n.toNat).map eI))) := by
  refine fc_M (fn := Tryz.f67) (C := (tab [] [])) (rs := [4]) mixed (by kernel_rfl) (by kernel_rfl) rfl rfl (by kernel_rfl) (by intro ys h; cases h) ?_
  simp +contextual (maxSteps := 5000000) only [go_sem, ↓reduceIte]
  refine M_loopI (fun a : Nat => ⟨[(0, .sl 2 (l.map eP)), (1, .int .i64 n), (5, .vec 35 (rsL (l.map (·.2)) a).length), (6, .int .i64 a)], [(35, .vec 3 1 ((rsL (l.map (·.2)) a).map eI) 0)]⟩) (fun i => n.toNat - i) (fun i => i ≤ n.toNat) 0 ?_ ?_
  · simp +contextual (maxSteps := 5000000) only [go_sem, ↓reduceIte, rsL, List.range_zero, List.filter_nil]
    rfl
  intro a ha
  have hlen := rsL_len (l.map (·.2)) a
  have hs := rsL_succ (l.map (·.2)) a
  by_cases hlt : (a : Int) < n
  · simp +contextual (maxSteps := 5000000) only [go_sem, ↓reduceIte, hlt]
    refine M_loopI (fun i : Nat => ⟨[(0, .sl 2 (l.map eP)), (1, .int .i64 n), (5, .vec 35 (rsL (l.map (·.2)) a).length), (6, .int .i64 a), (7, .bool (decide ((a : Int) ∈ (l.take i).map (·.2)))), (8, .int .i64 i)], [(35, .vec 3 1 ((rsL (l.map (·.2)) a).map eI) 0)]⟩) (fun i => l.length - i) (fun i => i ≤ l.length) 0 ?_ ?_
    · simp +contextual (maxSteps := 5000000) only [go_sem, ↓reduceIte]
      simp
    intro i hi
    by_cases hlt2 : i < l.length
    · have hat := eP_at l i hlt2
      have hm := take_mem (f := (·.2)) (d := ((0 : Int), (0 : Int))) (a := (a : Int)) hlt2
      by_cases q0 : (a : Int) ∈ (l.take i).map (·.2)
      · have q2 := decide_eq_true (hm.2 (.inl q0))
        have q1 := decide_eq_true q0
        simp +contextual (maxSteps := 5000000) only [go_sem, ↓reduceIte, hlt, hlt2, hat, q1]
        exact fun _ => ⟨inR64 (by omega) (by omega), fun _ => ⟨i + 1, ⟨q2.symm, by simp⟩, by omega, by omega⟩⟩
      · have q1 := decide_eq_false q0
        by_cases q3 : (l.getD i (0, 0)).2 = a
        · have q2 := decide_eq_true (hm.2 (.inr q3))
          simp +contextual (maxSteps := 5000000) only [go_sem, ↓reduceIte, hlt, hlt2, hat, q1, q3]
          exact fun _ => ⟨inR64 (by omega) (by omega), fun _ => ⟨i + 1, ⟨q2.symm, by simp⟩, by omega, by omega⟩⟩
        · have q2 := decide_eq_false (fun h => (hm.1 h).elim q0 q3)
          simp +contextual (maxSteps := 5000000) only [go_sem, ↓reduceIte, hlt, hlt2, hat, q1, q3]
          exact fun _ => ⟨inR64 (by omega) (by omega), fun _ => ⟨i + 1, ⟨q2.symm, by simp⟩, by omega, by omega⟩⟩
    · obtain rfl : i = l.length := by omega
      by_cases h0 : (a : Int) ∈ l.map (·.2)
      · have q1 := decide_eq_true h0
        rw [if_neg (by simpa using h0), List.append_nil] at hs
        simp +contextual (maxSteps := 5000000) only [go_sem, ↓reduceIte, hlt, hlt2, Nat.lt_irrefl, List.take_length, q1]
        refine fun _ => ⟨inR64 (by omega) (by omega), fun _ => ⟨a + 1, ⟨⟨by rw [hs], by simp⟩, by rw [hs]⟩, by omega, by omega⟩⟩
      · have q1 := decide_eq_false h0
        rw [if_pos h0] at hs
        simp +contextual (maxSteps := 5000000) only [go_sem, ↓reduceIte, hlt, hlt2, Nat.lt_irrefl, List.take_length, q1]
        refine fun _ => ⟨by omega, fun _ => ⟨inR64 (by omega) (by omega), fun _ => ⟨a + 1, ⟨⟨by rw [hs]; simp, by simp⟩, by rw [hs]; simp [eI]⟩, by omega, by omega⟩⟩⟩
  · simp +contextual (maxSteps := 5000000) only [go_sem, ↓reduceIte, hlt]
    rw [show a = n.toNat by omega]
def c_In (caps args : List D) : Prop × Out := match caps, args with | [], [.sl 1 rows, .int .i64 n] => (rows = (rows.map dI).map eI, .ret (.bool (decide (n ∈ rows.map dI)))) | _, _ => (False, .ret .any)
theorem st_In : StC Tryz.prog 104 c_In := by
  intro caps args; unfold c_In; split
  · rename_i rows n
    intro h
    have := fc_In (rows.map dI) n
    rwa [← h] at this
  · exact fun h => h.elim
theorem fc_not (l : List Int) (n : Int) (hn : n ≤ 1000000000) : FC Tryz.prog 70 [] [.sl 1 (l.map eI), .int .i64 n] (.ret (.sl 1 ((wiF l n.toNat).map eI))) := by
  unfold wiF
  refine fc_M (fn := Tryz.f70) (C := (tab [(104, c_In)] [])) (rs := [4]) mixed (by kernel_rfl) (by kernel_rfl) rfl rfl (by kernel_rfl) (by intro ys h; cases h) ?_
  simp +contextual (maxSteps := 5000000) only [go_sem, ↓reduceIte]
  refine M_loopI (fun s : Nat => ⟨[(0, .sl 1 (l.map eI)), (1, .int .i64 n), (5, .vec 21 (rsL l s).length), (6, .int .i64 s)], [(21, .vec 3 1 ((rsL l s).map eI) 0)]⟩) (fun i => n.toNat - i) (fun i => i ≤ n.toNat) 0 ?_ ?_
  · simp +contextual (maxSteps := 5000000) only [go_sem, ↓reduceIte, rsL, List.range_zero, List.filter_nil]
    rfl
  · intro i hi
    have hlen := rsL_len l i
    have hs := rsL_succ l i
    by_cases hlt : (i : Int) < n
    · by_cases h0 : (i : Int) ∈ l
      · rw [if_neg (by simpa using h0), List.append_nil] at hs
        simp +contextual (maxSteps := 5000000) only [go_sem, ↓reduceIte, hlt, h0, c_In, st_In, dI_eI]
        refine ⟨inR64 (by omega) (by omega), fun _ => ⟨i + 1, ⟨⟨by rw [hs], by simp⟩, by rw [hs]⟩, by omega, by omega⟩⟩
      · rw [if_pos h0] at hs
        simp +contextual (maxSteps := 5000000) only [go_sem, ↓reduceIte, hlt, h0, c_In, st_In, dI_eI]
        refine ⟨by omega, fun _ => ⟨inR64 (by omega) (by omega), fun _ => ⟨i + 1, ⟨⟨by rw [hs]; simp, by simp⟩, by rw [hs]; simp [eI]⟩, by omega, by omega⟩⟩⟩
    · simp +contextual (maxSteps := 5000000) only [go_sem, ↓reduceIte, hlt]
      rw [show i = n.toNat by omega]
theorem mtF_drop {α β : Type} {q : α → β → Bool} {l : List α} {r : List β} {i : Nat} {d : α} {e : β} (h1 : i < l.length) (h2 : i < r.length) : mtF q (l.drop i) (r.drop i) = (q (l.getD i d) (r.getD i e) && mtF q (l.drop (i + 1)) (r.drop (i + 1))) := by
  rw [drop_at (d := d) h1, drop_at (d := e) h2]; rfl
theorem fc_whole (l : List Ln) (pl : List Int) (w : Int) (hl : l.length < 1000000000) : FC Tryz.prog 68 [] [.sl 2 (l.map eL), .sl 1 (pl.map eI), .int .i64 w] (.ret (.bool (mtF (isL w) l pl))) := by
  refine fc_M (fn := Tryz.f68) (C := (tab [] [])) (rs := [6]) mixed (by kernel_rfl) (by kernel_rfl) rfl rfl (by kernel_rfl) (by intro ys h; cases h) ?_
  simp +contextual (maxSteps := 5000000) only [go_sem, ↓reduceIte]
  by_cases hlen : l.length = pl.length
  · simp +contextual (maxSteps := 5000000) only [go_sem, ↓reduceIte, hlen]
    refine fun _ => M_loopI (fun i : Nat => ⟨[(0, .sl 2 (l.map eL)), (1, .sl 1 (pl.map eI)), (2, .int .i64 w), (7, .int .i64 i)], []⟩) (fun i => l.length - i) (fun i => i ≤ l.length ∧ mtF (isL w) (l.drop i) (pl.drop i) = mtF (isL w) l pl) 0 ?_ ?_
    · simp +contextual (maxSteps := 5000000) only [go_sem, ↓reduceIte]
      rfl
    rintro i ⟨hi, hf⟩
    by_cases hlt : i < l.length
    · have hat := eL_at l i hlt
      have hlt2 : i < pl.length := by omega
      have hat2 := eI_at pl i hlt2
      rw [mtF_drop (d := ((0 : Int), ([] : List Str))) (e := (0 : Int)) hlt hlt2] at hf
      generalize l.getD i (0, []) = x at hat hf
      rw [show isL w x (pl.getD i 0) = decide (x.1 = pl.getD i 0 ∧ (x.2.length : Int) = w) from rfl] at hf
      by_cases q1 : x.1 = pl.getD i 0
      · by_cases q2 : (x.2.length : Int) = w
        · rw [decide_eq_true ⟨q1, q2⟩, Bool.true_and] at hf
          simp +contextual (maxSteps := 5000000) only [go_sem, ↓reduceIte, hlt, hlt2, hat, hat2, q1, q2]
          exact fun _ => ⟨inR64 (by omega) (by omega), fun _ => ⟨i + 1, by simp, by omega, by omega, hf⟩⟩
        · rw [decide_eq_false (fun h => q2 h.2), Bool.false_and] at hf
          rw [← hf]
          simp +contextual (maxSteps := 5000000) only [go_sem, ↓reduceIte, hlt, hlt2, hat, hat2, q1, q2]
      · rw [decide_eq_false (fun h => q1 h.1), Bool.false_and] at hf
        rw [← hf]
        simp +contextual (maxSteps := 5000000) only [go_sem, ↓reduceIte, hlt, hlt2, hat, hat2, q1]
    · rw [List.drop_of_length_le (by omega), List.drop_of_length_le (by omega)] at hf
      rw [← hf]
      simp +contextual (maxSteps := 5000000) only [go_sem, ↓reduceIte, hlt]
      exact fun _ => rfl
  · have hf : mtF (isL w) l pl = false := by
      cases h : mtF (isL w) l pl with
      | false => rfl
      | true => exact absurd (mtF_len h) hlen
    rw [hf]
    simp +contextual (maxSteps := 5000000) only [go_sem, ↓reduceIte, hlen]
theorem crF_at (b : List Int) : ∀ (a : List Int) (i : Nat), i < a.length * b.length → (crF a b).getD i (0, 0) = (a.getD (i / b.length) 0, b.getD (i % b.length) 0) ∧ i / b.length < a.length ∧ i % b.length < b.length
  | [], i, h => by simp at h
  | x :: a, i, h => by
    have hb : 0 < b.length := by
      rcases Nat.eq_zero_or_pos b.length with e | e
      · rw [e, Nat.mul_zero] at h; omega
      · exact e
    have e : crF (x :: a) b = (b.map fun p => (x, p)) ++ crF a b := rfl
    rw [e]
    by_cases q : i < b.length
    · rw [Nat.div_eq_of_lt q, Nat.mod_eq_of_lt q]
      refine ⟨?_, by simp, q⟩
      rw [List.getD_eq_getElem?_getD, List.getElem?_append_left (by simpa using q), List.getElem?_map, List.getElem?_eq_getElem q, List.getD_eq_getElem?_getD, List.getD_eq_getElem?_getD, List.getElem?_eq_getElem q]; rfl
    · have h2 : i - b.length < a.length * b.length := by rw [List.length_cons, Nat.succ_mul] at h; omega
      obtain ⟨h3, h4, h5⟩ := crF_at b a (i - b.length) h2
      have hi : i = i - b.length + b.length := by omega
      have hd : i / b.length = (i - b.length) / b.length + 1 := by
        conv => lhs; rw [hi]
        exact Nat.add_div_right _ hb
      have hm : i % b.length = (i - b.length) % b.length := by
        conv => lhs; rw [hi]
        exact Nat.add_mod_right _ _
      rw [hd, hm]
      refine ⟨?_, by simpa using h4, h5⟩
      rw [List.getD_eq_getElem?_getD, List.getElem?_append_right (by simpa using Nat.le_of_not_lt q), List.length_map, ← List.getD_eq_getElem?_getD, h3]; rfl
theorem fc_each (l : List Sp) (a b : List Int) (hl : l.length < 1000000000) (ha : a.length < 1000000000) (hb : b.length < 1000000000) : FC Tryz.prog 69 [] [.sl 3 (l.map eSp), .sl 1 (a.map eI), .sl 1 (b.map eI)] (.ret (.bool (mtF isS l (crF a b)))) := by
  refine fc_M (fn := Tryz.f69) (C := (tab [] [])) (rs := [6]) mixed (by kernel_rfl) (by kernel_rfl) rfl rfl (by kernel_rfl) (by intro ys h; cases h) ?_
  have hmul : (a.length : Int) * b.length ≤ 1000000000000000000 := by
    have := Nat.mul_le_mul (Nat.le_of_lt ha) (Nat.le_of_lt hb)
    have h2 : ((a.length * b.length : Nat) : Int) = (a.length : Int) * b.length := Int.natCast_mul _ _
    omega
  have hmul0 : (0 : Int) ≤ (a.length : Int) * b.length := by
    have h2 : ((a.length * b.length : Nat) : Int) = (a.length : Int) * b.length := Int.natCast_mul _ _
    omega
  by_cases hlen : l.length = a.length * b.length
  · have hlen' : (l.length : Int) = (a.length : Int) * b.length := by rw [hlen, Int.natCast_mul]
    simp +contextual (maxSteps := 5000000) only [go_sem, ↓reduceIte, hlen']
    refine fun _ _ _ => ⟨inR64 (by omega) (by omega), fun _ => ?_⟩
    refine M_loopI (fun i : Nat => ⟨[(0, .sl 3 (l.map eSp)), (1, .sl 1 (a.map eI)), (2, .sl 1 (b.map eI)), (7, .int .i64 i)], []⟩) (fun i => l.length - i) (fun i => i ≤ l.length ∧ mtF isS (l.drop i) ((crF a b).drop i) = mtF isS l (crF a b)) 0 ?_ ?_
    · simp +contextual (maxSteps := 5000000) only [go_sem, ↓reduceIte]
      rfl
    rintro i ⟨hi, hf⟩
    by_cases hlt : i < l.length
    · have hat := eSp_at l i hlt
      obtain ⟨c1, c2, c3⟩ := crF_at b a i (by omega)
      have hat2 := eI_at a _ c2
      have hat3 := eI_at b _ c3
      have hcl : (crF a b).length = l.length := by rw [crF_len, hlen]
      rw [mtF_drop (d := ((0 : Int), (0 : Int), ([] : Str))) (e := ((0 : Int), (0 : Int))) hlt (by omega), c1] at hf
      generalize l.getD i (0, 0, []) = x at hat hf
      rw [show isS x (a.getD (i / b.length) 0, b.getD (i % b.length) 0) = decide (x.1 = a.getD (i / b.length) 0 ∧ x.2.1 = b.getD (i % b.length) 0) from rfl] at hf
      have hb0 : (0 : Int) < b.length := by omega
      have e1 : (i : Int) / b.length = ((i / b.length : Nat) : Int) := rfl
      have e2 : (i : Int) % b.length = ((i % b.length : Nat) : Int) := rfl
      by_cases q1 : x.1 = a.getD (i / b.length) 0
      · by_cases q2 : x.2.1 = b.getD (i % b.length) 0
        · rw [decide_eq_true ⟨q1, q2⟩, Bool.true_and] at hf
          simp +contextual (maxSteps := 5000000) only [go_sem, ↓reduceIte, hlt, hat, hat2, hat3, q1, q2, e1, e2, c2, c3, hb0]
          exact fun _ => ⟨inR64 (by omega) (by omega), fun _ => ⟨inR64 (by omega) (by omega), fun _ => ⟨i + 1, by simp, by omega, by omega, hf⟩⟩⟩
        · rw [decide_eq_false (fun h => q2 h.2), Bool.false_and] at hf
          rw [← hf]
          simp +contextual (maxSteps := 5000000) only [go_sem, ↓reduceIte, hlt, hat, hat2, hat3, q1, q2, e1, e2, c2, c3, hb0]
          exact fun _ => inR64 (by omega) (by omega)
      · rw [decide_eq_false (fun h => q1 h.1), Bool.false_and] at hf
        rw [← hf]
        simp +contextual (maxSteps := 5000000) only [go_sem, ↓reduceIte, hlt, hat, hat2, hat3, q1, e1, e2, c2, c3, hb0]
        exact fun _ => inR64 (by omega) (by omega)
    · rw [List.drop_of_length_le (by omega), List.drop_of_length_le (by rw [crF_len]; omega)] at hf
      rw [← hf]
      simp +contextual (maxSteps := 5000000) only [go_sem, ↓reduceIte, hlt]
      exact fun _ => rfl
  · have hf : mtF isS l (crF a b) = false := by
      cases h : mtF isS l (crF a b) with
      | false => rfl
      | true => exact absurd ((mtF_len h).trans (crF_len a b)) hlen
    have hlen' : ¬ (l.length : Int) = (a.length : Int) * b.length := by rw [← Int.natCast_mul]; omega
    rw [hf]
    simp +contextual (maxSteps := 5000000) only [go_sem, ↓reduceIte, hlen']
    exact fun _ _ _ => inR64 (by omega) (by omega)
end Go.Proofs.YtlabdffgcciepaaGreatDoor
namespace Go.Proofs.YtlabdffgcciepaaGreatDoor
open Go.Tn
set_option maxHeartbeats 8000000
set_option maxRecDepth 100000
theorem nodup_at {α : Type} {f : α → Int} {l : List α} (d : α) : (l.map f).Nodup ↔ ∀ i, i < l.length → ∀ k, k < i → f (l.getD k d) ≠ f (l.getD i d) := by
  have at_ : ∀ {i} (h : i < l.length), l.getD i d = l[i] := fun {i} h => by rw [List.getD_eq_getElem?_getD, List.getElem?_eq_getElem h]; rfl
  constructor
  · intro h i hi k hk e
    rw [at_ hi, at_ (by omega)] at e
    have := List.pairwise_iff_getElem.1 h k i (by simpa using (by omega : k < l.length)) (by simpa using hi) hk
    simp only [List.getElem_map] at this
    exact this e
  · intro h
    refine List.pairwise_iff_getElem.2 fun i j hi hj hij e => ?_
    simp only [List.length_map] at hi hj
    simp only [List.getElem_map] at e
    exact h j hj i hij (by rw [at_ hi, at_ hj]; exact e)
theorem chk1 {ps : List (Int × Int)} {na nb : Int} (h : na < 0 ∨ nb < 0) : chk ps na nb = 1 := by unfold chk; rw [if_pos h]
theorem chk2 {ps : List (Int × Int)} {na nb : Int} (h : ¬ (na < 0 ∨ nb < 0)) {i : Nat} (hi : i < ps.length) (h2 : ¬ inB na nb (ps.getD i (0, 0))) : chk ps na nb = 11 := by
  unfold chk; rw [if_neg h, if_pos ⟨_, getD_mem hi, h2⟩]
theorem chk3 {ps : List (Int × Int)} {na nb : Int} (h : ¬ (na < 0 ∨ nb < 0)) (h2 : ∀ i, i < ps.length → inB na nb (ps.getD i (0, 0))) : chk ps na nb = if ¬ ((ps.map (·.1)).Nodup ∧ (ps.map (·.2)).Nodup) then 10 else if dnF ps = true then 12 else 0 := by
  have h3 : ¬ ∃ p ∈ ps, ¬ inB na nb p := by
    rintro ⟨p, hp, hn⟩
    obtain ⟨k, hk, e⟩ := List.getElem_of_mem hp
    have := h2 k hk
    rw [List.getD_eq_getElem?_getD, List.getElem?_eq_getElem hk, Option.getD_some, e] at this
    exact hn this
  have k1 := (ct_keys (ps.map (·.1))).2
  have k2 := (ct_keys (ps.map (·.2))).2
  rw [List.length_map] at k1 k2
  unfold chk
  rw [if_neg h, if_neg h3]
  by_cases q : (ps.map (·.1)).Nodup ∧ (ps.map (·.2)).Nodup
  · have e1 := k1.2.2 q.1
    have e2 := k2.2.2 q.2
    have hA : ¬ ((ctM (ps.map (·.1))).length < ps.length ∨ (ctM (ps.map (·.2))).length < ps.length) := by omega
    rw [if_neg hA, if_neg (not_not_intro q)]
  · rw [if_pos q, if_pos]
    by_cases q1 : (ps.map (·.1)).Nodup
    · have : ¬ (ctM (ps.map (·.2))).length = ps.length := fun e => q ⟨q1, k2.2.1 e⟩
      right; omega
    · have : ¬ (ctM (ps.map (·.1))).length = ps.length := fun e => q1 (k1.2.1 e)
      left; omega
theorem fc_rCheck (ps : List (Int × Int)) (na nb : Int) (hl : ps.length < 1000000000) : FC Tryz.prog 65 [] [.sl 2 (ps.map eP), .int .i64 na, .int .i64 nb] (.ret (.int .i64 (chk ps na nb))) := by
  refine fc_M (fn := Tryz.f65) (C := (tab [] [])) (rs := [6]) mixed (by kernel_rfl) (by kernel_rfl) rfl rfl (by kernel_rfl) (by intro ys h; cases h) ?_
  by_cases c1 : na < 0
  · rw [chk1 (.inl c1)]
    simp +contextual (maxSteps := 5000000) only [go_sem, ↓reduceIte, c1]
  by_cases c2 : nb < 0
  · rw [chk1 (.inr c2)]
    simp +contextual (maxSteps := 5000000) only [go_sem, ↓reduceIte, c1, c2]
  have c0 : ¬ (na < 0 ∨ nb < 0) := by omega
  simp +contextual (maxSteps := 5000000) only [go_sem, ↓reduceIte, c1, c2]
  refine M_loopI (fun i : Nat => ⟨[(0, .sl 2 (ps.map eP)), (1, .int .i64 na), (2, .int .i64 nb), (7, .int .i64 i)], []⟩) (fun i => ps.length - i) (fun i => i ≤ ps.length ∧ ∀ j, j < i → inB na nb (ps.getD j (0, 0))) 0 ?_ ?_
  · simp +contextual (maxSteps := 5000000) only [go_sem, ↓reduceIte]
    rfl
  rintro i ⟨hi, hf⟩
  by_cases hlt : i < ps.length
  · have hat := eP_at ps i hlt
    have hx := @chk2 ps na nb c0 i hlt
    generalize hp : ps.getD i (0, 0) = p at hat hx
    by_cases q1 : p.1 < 0
    · rw [hx (by unfold inB; omega)]
      simp +contextual (maxSteps := 5000000) only [go_sem, ↓reduceIte, hlt, hat, q1]
    by_cases q2 : na ≤ p.1
    · rw [hx (by unfold inB; omega)]
      simp +contextual (maxSteps := 5000000) only [go_sem, ↓reduceIte, hlt, hat, q1, q2]
    by_cases q3 : p.2 < 0
    · rw [hx (by unfold inB; omega)]
      simp +contextual (maxSteps := 5000000) only [go_sem, ↓reduceIte, hlt, hat, q1, q2, q3]
    by_cases q4 : nb ≤ p.2
    · rw [hx (by unfold inB; omega)]
      simp +contextual (maxSteps := 5000000) only [go_sem, ↓reduceIte, hlt, hat, q1, q2, q3, q4]
    simp +contextual (maxSteps := 5000000) only [go_sem, ↓reduceIte, hlt, hat, q1, q2, q3, q4]
    refine fun _ => ⟨inR64 (by omega) (by omega), fun _ => ⟨i + 1, by simp, by omega, by omega, fun j hj => ?_⟩⟩
    rcases lt_cases hj with h | rfl
    · exact hf j h
    · rw [hp]; unfold inB; omega
  have hin : ∀ j, j < ps.length → inB na nb (ps.getD j (0, 0)) := fun j hj => hf j (by omega)
  rw [chk3 c0 hin]
  simp +contextual (maxSteps := 5000000) only [go_sem, ↓reduceIte, hlt]
  clear hlt hf hi
  refine fun _ => M_loopI (fun i : Nat => ⟨[(0, .sl 2 (ps.map eP)), (8, .int .i64 i)], []⟩) (fun i => ps.length - i) (fun i => i ≤ ps.length ∧ ∀ j, j < i → ∀ k, k < j → (ps.getD k (0, 0)).1 ≠ (ps.getD j (0, 0)).1 ∧ (ps.getD k (0, 0)).2 ≠ (ps.getD j (0, 0)).2) 0 ?_ ?_
  · simp +contextual (maxSteps := 5000000) only [go_sem, ↓reduceIte]
    rfl
  rintro i ⟨hi, hf⟩
  by_cases hlt : i < ps.length
  · have hat := eP_at ps i hlt
    simp +contextual (maxSteps := 5000000) only [go_sem, ↓reduceIte, hlt]
    refine fun _ => M_loopI (fun k : Nat => ⟨[(0, .sl 2 (ps.map eP)), (8, .int .i64 i), (9, .int .i64 k)], []⟩) (fun k => i - k) (fun k => k ≤ i ∧ ∀ m, m < k → (ps.getD m (0, 0)).1 ≠ (ps.getD i (0, 0)).1 ∧ (ps.getD m (0, 0)).2 ≠ (ps.getD i (0, 0)).2) 0 ?_ ?_
    · simp +contextual (maxSteps := 5000000) only [go_sem, ↓reduceIte]
      rfl
    rintro k ⟨hk, hg⟩
    by_cases hlt2 : k < i
    · have hkl : k < ps.length := by omega
      have hat2 := eP_at ps k hkl
      by_cases q1 : (ps.getD k (0, 0)).1 = (ps.getD i (0, 0)).1
      · rw [if_pos (fun h => (nodup_at (f := (·.1)) ((0 : Int), (0 : Int))).1 h.1 i hlt k hlt2 q1)]
        simp +contextual (maxSteps := 5000000) only [go_sem, ↓reduceIte, hlt, hlt2, hkl, hat, hat2, q1]
      · by_cases q2 : (ps.getD k (0, 0)).2 = (ps.getD i (0, 0)).2
        · rw [if_pos (fun h => (nodup_at (f := (·.2)) ((0 : Int), (0 : Int))).1 h.2 i hlt k hlt2 q2)]
          simp +contextual (maxSteps := 5000000) only [go_sem, ↓reduceIte, hlt, hlt2, hkl, hat, hat2, q1, q2]
        · simp +contextual (maxSteps := 5000000) only [go_sem, ↓reduceIte, hlt, hlt2, hkl, hat, hat2, q1, q2]
          refine ⟨inR64 (by omega) (by omega), fun _ => ⟨k + 1, by simp, by omega, by omega, fun m hm => ?_⟩⟩
          rcases lt_cases hm with h | rfl
          · exact hg m h
          · exact ⟨q1, q2⟩
    · simp +contextual (maxSteps := 5000000) only [go_sem, ↓reduceIte, hlt, hlt2]
      refine ⟨inR64 (by omega) (by omega), fun _ => ⟨i + 1, by simp, by omega, by omega, fun j hj m hm => ?_⟩⟩
      rcases lt_cases hj with h | rfl
      · exact hf j h m hm
      · exact hg m (by omega)
  have hnd : (ps.map (·.1)).Nodup ∧ (ps.map (·.2)).Nodup := ⟨(nodup_at (f := (·.1)) ((0 : Int), (0 : Int))).2 fun j hj k hk => (hf j (by omega) k hk).1, (nodup_at (f := (·.2)) ((0 : Int), (0 : Int))).2 fun j hj k hk => (hf j (by omega) k hk).2⟩
  rw [if_neg (fun h => h hnd)]
  simp +contextual (maxSteps := 5000000) only [go_sem, ↓reduceIte, hlt]
  clear hlt hf hi
  have hdn := dnF_iff ps
  refine fun _ => M_loopI (fun n : Nat => ⟨[(0, .sl 2 (ps.map eP)), (10, .int .i64 n)], []⟩) (fun n => ps.length - n) (fun n => 1 ≤ n ∧ ∀ j, j + 1 < n → j + 1 < ps.length → ¬ (ps.getD (j + 1) (0, 0)).2 < (ps.getD j (0, 0)).2) 1 ?_ ?_
  · simp +contextual (maxSteps := 5000000) only [go_sem, ↓reduceIte]
    exact ⟨rfl, fun j hj => by omega⟩
  rintro n ⟨hn, hf⟩
  obtain ⟨i, rfl⟩ : ∃ i, n = i + 1 := ⟨n - 1, by omega⟩
  have he : ((i + 1 : Nat) : Int) - 1 = (i : Nat) := by omega
  by_cases hlt : i + 1 < ps.length
  · have hil : i < ps.length := by omega
    have hat := eP_at ps (i + 1) hlt
    have hat2 := eP_at ps i hil
    by_cases q : (ps.getD (i + 1) (0, 0)).2 < (ps.getD i (0, 0)).2
    · rw [if_pos (hdn.2 ⟨i, hlt, q⟩)]
      simp +contextual (maxSteps := 5000000) only [go_sem, ↓reduceIte, hlt, hil, hat, hat2, he, q]
      exact fun _ => inR64 (by omega) (by omega)
    · simp +contextual (maxSteps := 5000000) only [go_sem, ↓reduceIte, hlt, hil, hat, hat2, he, q]
      refine fun _ => ⟨inR64 (by omega) (by omega), fun _ => ⟨inR64 (by omega) (by omega), fun _ => ⟨i + 2, by simp; omega, by omega, by omega, fun j hj hj2 => ?_⟩⟩⟩
      rcases lt_cases (show j < i + 1 by omega) with h | rfl
      · exact hf j (by omega) hj2
      · exact q
  · have h0 : ¬ dnF ps = true := fun h => by
      obtain ⟨j, hj, hq⟩ := hdn.1 h
      exact hf j (by omega) hj hq
    rw [if_neg h0]
    simp +contextual (maxSteps := 5000000) only [go_sem, ↓reduceIte, hlt]
end Go.Proofs.YtlabdffgcciepaaGreatDoor
namespace Go.Proofs.YtlabdffgcciepaaGreatDoor
open Go.Tn
set_option maxHeartbeats 8000000
set_option maxRecDepth 100000
section
variable {α : Type} {le : α → α → Bool} {S : List α} {x d : α}
end
end Go.Proofs.YtlabdffgcciepaaGreatDoor
namespace Go.Proofs.YtlabdffgcciepaaGreatDoor
open Go.Tn
set_option maxHeartbeats 8000000
set_option maxRecDepth 100000
theorem g6 (l : List St6) : gndL (l.map eD6).flatten = true := gndR_of eD6 (fun _ => rfl) l
end Go.Proofs.YtlabdffgcciepaaGreatDoor
namespace Go.Proofs.YtlabdffgcciepaaGreatDoor
open Go.Tn
set_option maxHeartbeats 8000000
set_option maxRecDepth 100000
end Go.Proofs.YtlabdffgcciepaaGreatDoor
namespace Go.Proofs.YtlabdffgcciepaaGreatDoor
open Go.Tn
set_option maxHeartbeats 8000000
set_option maxRecDepth 100000
theorem fc_RefS (l k : List (Str)) : FC Tryz.prog 27 [] [.sl 1 (l.map eS), .sl 1 (k.map eS)] (.ret (.bool (decide (l = k)))) := by
  refine fc_M (fn := Tryz.f27) (C := (tab [] [])) (rs := [4]) mixed (by kernel_rfl) (by kernel_rfl) rfl rfl (by kernel_rfl) (by intro ys h; cases h) ?_
  by_cases hlen : l.length = k.length
  · simp +contextual (maxSteps := 5000000) only [go_sem, ↓reduceIte, hlen]
    intro _
    refine M_loopI (fun i : Nat => ⟨[(0, .sl 1 (l.map eS)), (1, .sl 1 (k.map eS)), (5, .int .i64 i)], []⟩) (fun i => l.length - i) (fun i => i ≤ l.length ∧ ∀ j, j < i → l.getD j [] = k.getD j []) 0 ?_ ?_
    · simp +contextual (maxSteps := 5000000) only [go_sem, ↓reduceIte]
      rfl
    · intro i hi
      obtain ⟨hi, ho⟩ := hi
      by_cases hlt : i < k.length
      · have ha := eS_at l i (by omega)
        have hb := eS_at k i hlt
        have hl2 : i < l.length := by omega
        generalize hx : l.getD i [] = x at ha
        generalize hy : k.getD i [] = y at hb
        by_cases q : x = y
        · subst q
          simp +contextual (maxSteps := 5000000) only [go_sem, ↓reduceIte, hlt, hl2, ha, hb, eq_self]
          try intro _
          refine ⟨inR64 (by omega) (by omega), fun _ => ⟨i + 1, by simp, by omega, by omega, fun j hj => ?_⟩⟩
          rcases lt_cases hj with h | rfl
          · exact ho j h
          · rw [hx, hy]
        · have hne : ¬ l = k := fun h => q (by rw [← hx, ← hy, h])
          have hd : decide (l = k) = false := decide_eq_false hne
          rw [hd]
          simp +contextual (maxSteps := 5000000) only [go_sem, ↓reduceIte, hlt, hl2, ha, hb, q]
      · have hd : decide (l = k) = true := decide_eq_true (eq_of_at [] hlen (fun j hj => ho j (by omega)))
        rw [hd]
        have hl3 : ¬ i < l.length := by omega
        simp +contextual (maxSteps := 5000000) only [go_sem, ↓reduceIte, hlt, hl3]
        try exact fun _ => rfl
  · have hd : decide (l = k) = false := decide_eq_false (fun h => hlen (by rw [h]))
    rw [hd]
    simp +contextual (maxSteps := 5000000) only [go_sem, ↓reduceIte, hlen]
end Go.Proofs.YtlabdffgcciepaaGreatDoor
namespace Go.Proofs.YtlabdffgcciepaaGreatDoor
open Go.Tn
set_option maxHeartbeats 8000000
set_option maxRecDepth 100000
end Go.Proofs.YtlabdffgcciepaaGreatDoor
namespace Go.Proofs.YtlabdffgcciepaaGreatDoor
open Go.Tn
set_option maxHeartbeats 8000000
set_option maxRecDepth 100000
def mxL (l : List Str) : Nat := l.foldl (fun n s => max n s.length) 0
theorem mxL_snoc (l : List Str) (x : Str) : mxL (l ++ [x]) = max (mxL l) x.length := by simp [mxL]
theorem mxL_take {l : List Str} {P : List Str} {i : Nat} (h : i < l.length) : mxL (P ++ l.take (i + 1)) = max (mxL (P ++ l.take i)) (l.getD i []).length := by
  rw [← mxL_snoc, List.append_assoc, List.take_add_one, List.getElem?_eq_getElem h, List.getD_eq_getElem?_getD, List.getElem?_eq_getElem h]; rfl
structure okT (d : Dl) : Prop where
  A : d.A.length < 2000000
  B : d.B.length < 2000000
  cols : d.cols.length < 2000000
  rows : d.rows.length < 2000000
  dels : d.dels.length < 2000000
  inss : d.inss.length < 2000000
  sets : d.sets.length < 2000000
  lost : d.lost.length < 2000000
  gain : d.gain.length < 2000000
  cells : (txL (d.dels ++ d.inss)).length < 2000000
  texts : ∀ s ∈ txF d, s.length < 2000000
theorem fc_longest (d : Dl) (h : okT d) : FC Tryz.prog 13 [] [.agg (eDl d)] (.ret (.int .i64 (mxL (txF d)))) := by
  obtain ⟨hA, hB, hco, hro, hde, hin, hse, hlo, hga, hce, _⟩ := h
  unfold eDl
  refine fc_M (fn := Tryz.f13) (C := (tab [] [] [8010, 8022])) (rs := [2]) mixed (by kernel_rfl) (by kernel_rfl) rfl rfl (by kernel_rfl) (by intro ys h; cases h) ?_
  simp +contextual (maxSteps := 5000000) only [go_sem, ↓reduceIte]
  refine M_loopI (fun i : Nat => ⟨[(1, .loc 1 0), (3, .int .i64 (mxL (d.A.take i))), (4, .int .i64 i)], [(1, .blk (eDl d) false)]⟩) (fun i => d.A.length - i) (fun i => i ≤ d.A.length) 0 ?_ ?_
  · simp +contextual (maxSteps := 5000000) only [go_sem, ↓reduceIte, eDl]
    exact ⟨rfl, rfl⟩
  intro i hi
  by_cases hlt : i < d.A.length
  · have hat := eS_at d.A i hlt
    have hm := mxL_take (P := []) hlt
    simp only [List.nil_append] at hm
    simp +contextual (maxSteps := 5000000) only [go_sem, ↓reduceIte, hlt, hat, eDl]
    exact fun _ _ => ⟨inR64 (by omega) (by omega), fun _ => ⟨i + 1, ⟨by rw [hm]; omega, by simp⟩, by omega, by omega⟩⟩
  obtain rfl : i = d.A.length := by omega
  simp +contextual (maxSteps := 5000000) only [go_sem, ↓reduceIte, eDl, hlt, Nat.lt_irrefl, List.take_length]
  clear hlt hi
  refine fun _ => M_loopI (fun i : Nat => ⟨[(1, .loc 1 0), (3, .int .i64 (mxL (d.A ++ d.B.take i))), (5, .int .i64 i)], [(1, .blk (eDl d) false)]⟩) (fun i => d.B.length - i) (fun i => i ≤ d.B.length) 0 ?_ ?_
  · simp +contextual (maxSteps := 5000000) only [go_sem, ↓reduceIte, eDl]
    rfl
  intro i hi
  by_cases hlt : i < d.B.length
  · have hat := eS_at d.B i hlt
    have hm := mxL_take (P := d.A) hlt
    simp +contextual (maxSteps := 5000000) only [go_sem, ↓reduceIte, hlt, hat, eDl]
    exact fun _ _ => ⟨inR64 (by omega) (by omega), fun _ => ⟨i + 1, ⟨by rw [hm]; omega, by simp⟩, by omega, by omega⟩⟩
  obtain rfl : i = d.B.length := by omega
  simp +contextual (maxSteps := 5000000) only [go_sem, ↓reduceIte, eDl, hlt, Nat.lt_irrefl, List.take_length]
  refine fun _ => ⟨by omega, fun _ => ⟨by omega, fun _ => ?_⟩⟩
  have e1 : d.dels.length + d.inss.length = (d.dels ++ d.inss).length := by simp
  have e2 : txF d = d.A ++ d.B ++ txL (d.dels ++ d.inss) ++ txS d.sets ++ txP (d.lost ++ d.gain) := rfl
  have e3 : d.dels.map eL ++ d.inss.map eL = (d.dels ++ d.inss).map eL := by simp
  have hll : (d.dels ++ d.inss).length < 4000000 := by simp; omega
  rw [e2, e1, e3]
  clear e1 e2 e3
  generalize d.A ++ d.B = P0
  generalize hL : d.dels ++ d.inss = L at hce hll ⊢
  refine M_loopI (fun i : Nat => ⟨[(1, .loc 1 0), (3, .int .i64 (mxL (P0 ++ txL (L.take i)))), (6, .vec 42 L.length), (7, .int .i64 i)], [(1, .blk (eDl d) false), (42, .vec 44 2 (L.map eL) 0)]⟩) (fun i => L.length - i) (fun i => i ≤ L.length) 0 ?_ ?_
  · simp +contextual (maxSteps := 5000000) only [go_sem, ↓reduceIte, eDl, txL, List.flatMap_nil]
    rfl
  intro i hi
  by_cases hlt : i < L.length
  · have hat := eL_at L i hlt
    simp +contextual (maxSteps := 5000000) only [go_sem, ↓reduceIte, hlt, hat, eDl]
    have ht : txL (L.take (i + 1)) = txL (L.take i) ++ (L.getD i (0, [])).2 := flat_succ (d := (0, [])) (·.2) hlt
    generalize L.getD i (0, []) = x at hat ht
    refine M_loopI (fun k : Nat => ⟨[(1, .loc 1 0), (3, .int .i64 (mxL (P0 ++ txL (L.take i) ++ x.2.take k))), (6, .vec 42 L.length), (7, .int .i64 i), (8, .int .i64 k)], [(1, .blk (eDl d) false), (42, .vec 44 2 (L.map eL) 0)]⟩) (fun k => x.2.length - k) (fun k => k ≤ x.2.length) 0 ?_ ?_
    · simp +contextual (maxSteps := 5000000) only [go_sem, ↓reduceIte, eDl]
      rfl
    intro k hk
    by_cases hlk : k < x.2.length
    · have hat2 := eS_at x.2 k hlk
      have hm := mxL_take (P := P0 ++ txL (L.take i)) hlk
      simp +contextual (maxSteps := 5000000) only [go_sem, ↓reduceIte, hlt, hlk, hat, hat2, eDl]
      exact fun _ _ => ⟨inR64 (by omega) (by omega), fun _ => ⟨k + 1, ⟨by rw [hm]; omega, by simp⟩, by omega, by omega⟩⟩
    · obtain rfl : k = x.2.length := by omega
      simp +contextual (maxSteps := 5000000) only [go_sem, ↓reduceIte, hlt, hat, Nat.lt_irrefl, eDl]
      exact fun _ => ⟨inR64 (by omega) (by omega), fun _ => ⟨i + 1, ⟨by rw [ht, List.take_length, List.append_assoc], by simp⟩, by omega, by omega⟩⟩
  obtain rfl : i = L.length := by omega
  simp +contextual (maxSteps := 5000000) only [go_sem, ↓reduceIte, eDl, hlt, Nat.lt_irrefl, List.take_length]
  generalize P0 ++ txL L = P1
  clear hce hll hlt hi hL
  refine M_loopI (fun i : Nat => ⟨[(1, .loc 1 0), (3, .int .i64 (mxL (P1 ++ txS (d.sets.take i)))), (9, .int .i64 i)], [(1, .blk (eDl d) false)]⟩) (fun i => d.sets.length - i) (fun i => i ≤ d.sets.length) 0 ?_ ?_
  · simp +contextual (maxSteps := 5000000) only [go_sem, ↓reduceIte, eDl, txS, List.flatMap_nil]
    rfl
  intro i hi
  by_cases hlt : i < d.sets.length
  · have hat := eD6_at d.sets i hlt
    have ht : txS (d.sets.take (i + 1)) = txS (d.sets.take i) ++ [(d.sets.getD i default).o, (d.sets.getD i default).n] := flat_succ (d := default) (fun s : St6 => [s.o, s.n]) hlt
    have hm : mxL (P1 ++ txS (d.sets.take (i + 1))) = max (max (mxL (P1 ++ txS (d.sets.take i))) (d.sets.getD i default).o.length) (d.sets.getD i default).n.length := by
      rw [ht, ← mxL_snoc, ← mxL_snoc]; simp
    simp +contextual (maxSteps := 5000000) only [go_sem, ↓reduceIte, hlt, hat, eDl]
    exact fun _ => ⟨inR64 (by omega) (by omega), fun _ => ⟨i + 1, ⟨by rw [hm]; omega, by simp⟩, by omega, by omega⟩⟩
  obtain rfl : i = d.sets.length := by omega
  simp +contextual (maxSteps := 5000000) only [go_sem, ↓reduceIte, eDl, hlt, Nat.lt_irrefl, List.take_length]
  refine fun _ => ⟨by omega, fun _ => ⟨by omega, fun _ => ?_⟩⟩
  have e1 : d.lost.length + d.gain.length = (d.lost ++ d.gain).length := by simp
  have e3 : d.lost.map eSp ++ d.gain.map eSp = (d.lost ++ d.gain).map eSp := by simp
  have hll : (d.lost ++ d.gain).length < 4000000 := by simp; omega
  rw [e1, e3]
  clear e1 e3
  generalize P1 ++ txS d.sets = P2
  generalize hL : d.lost ++ d.gain = L at hll ⊢
  refine M_loopI (fun i : Nat => ⟨[(1, .loc 1 0), (3, .int .i64 (mxL (P2 ++ txP (L.take i)))), (10, .vec 100 L.length), (11, .int .i64 i)], [(1, .blk (eDl d) false), (100, .vec 77 3 (L.map eSp) 0)]⟩) (fun i => L.length - i) (fun i => i ≤ L.length) 0 ?_ ?_
  · simp +contextual (maxSteps := 5000000) only [go_sem, ↓reduceIte, eDl, txP, List.map_nil]
    rfl
  intro i hi
  by_cases hlt : i < L.length
  · have hat := eSp_at L i hlt
    have hm : mxL (P2 ++ txP (L.take (i + 1))) = max (mxL (P2 ++ txP (L.take i))) (L.getD i (0, 0, [])).2.2.length := by
      rw [txP_succ hlt, ← mxL_snoc]; simp
    simp +contextual (maxSteps := 5000000) only [go_sem, ↓reduceIte, hlt, hat, eDl]
    exact fun _ => ⟨inR64 (by omega) (by omega), fun _ => ⟨i + 1, ⟨by rw [hm]; omega, by simp⟩, by omega, by omega⟩⟩
  obtain rfl : i = L.length := by omega
  simp +contextual (maxSteps := 5000000) only [go_sem, ↓reduceIte, eDl, hlt, Nat.lt_irrefl, List.take_length]
theorem mxL_lt {l : List Str} {b : Nat} (hb : 0 < b) (h : ∀ s ∈ l, s.length < b) : mxL l < b := by
  have gen : ∀ (l : List Str) (n : Nat), n < b → (∀ s ∈ l, s.length < b) → l.foldl (fun n s => max n s.length) n < b := by
    intro l
    induction l with
    | nil => intro n hn _; exact hn
    | cons s l ih => intro n hn h; exact ih _ (by have := h s (by simp); show max n s.length < b; omega) (fun x hx => h x (List.mem_cons_of_mem _ hx))
  exact gen l 0 hb h
def c_longest (d : Dl) (caps args : List D) : Prop × Out := match caps, args with
  | [], [x] => (x = .agg (eDl d), .ret (.int .i64 (mxL (txF d))))
  | _, _ => (False, .ret .any)
theorem st_longest {d : Dl} (h : okT d) : StC Tryz.prog 13 (c_longest d) := by
  intro caps args; unfold c_longest; split
  · rintro rfl; exact fc_longest d h
  · exact fun h => h.elim
def cntN (d : Dl) : Nat := d.A.length + d.B.length + d.cols.length + d.rows.length + d.dels.length + d.inss.length + d.sets.length + d.lost.length + d.gain.length
def fewF (d : Dl) : Bool := decide (cntN d ≤ 300 ∧ d.na ≤ 60 ∧ d.nb ≤ 60) && decide (mxL (txF d) + (txL d.dels).length + (txL d.inss).length ≤ 2000)
theorem fc_Few (d : Dl) (h : okT d) : FC Tryz.prog 7 [] [.agg (eDl d)] (.ret (.bool (fewF d))) := by
  have hl := st_longest h
  have hmx := mxL_lt (by omega) h.texts
  obtain ⟨hA, hB, hco, hro, hde, hin, hse, hlo, hga, hce, _⟩ := h
  unfold eDl
  refine fc_M (fn := Tryz.f7) (C := (tab [(13, c_longest d)] [] [5001])) (rs := [2]) mixed (by kernel_rfl) (by kernel_rfl) rfl rfl (by kernel_rfl) (by intro ys h; cases h) ?_
  simp +contextual (maxSteps := 5000000) only [go_sem, ↓reduceIte]
  refine M_join (fun _ : Unit => ⟨[(1, .loc 1 0), (3, .int .i64 (cntN d : Nat))], [(1, .blk (eDl d) false)]⟩) (fun _ => True) ?_ ?_
  · simp +contextual (maxSteps := 5000000) only [go_sem, ↓reduceIte, eDl, cntN]
    repeat' first | (refine ⟨inR64 (by omega) (by omega), ?_⟩) | intro _
    refine ⟨(), ?_⟩
    omega
  intro _ _
  unfold fewF eDl
  by_cases q1 : (300 : Int) < (cntN d : Nat)
  · have e : decide (cntN d ≤ 300 ∧ d.na ≤ 60 ∧ d.nb ≤ 60) = false := decide_eq_false (by omega)
    rw [e]
    simp +contextual (maxSteps := 5000000) only [go_sem, ↓reduceIte, q1]
  by_cases q2 : 60 < d.na
  · have e : decide (cntN d ≤ 300 ∧ d.na ≤ 60 ∧ d.nb ≤ 60) = false := decide_eq_false (by omega)
    rw [e]
    simp +contextual (maxSteps := 5000000) only [go_sem, ↓reduceIte, q1, q2]
  by_cases q3 : 60 < d.nb
  · have e : decide (cntN d ≤ 300 ∧ d.na ≤ 60 ∧ d.nb ≤ 60) = false := decide_eq_false (by omega)
    rw [e]
    simp +contextual (maxSteps := 5000000) only [go_sem, ↓reduceIte, q1, q2, q3]
  have e : decide (cntN d ≤ 300 ∧ d.na ≤ 60 ∧ d.nb ≤ 60) = true := decide_eq_true (by omega)
  rw [e, Bool.true_and]
  have hn : cntN d ≤ 300 := by omega
  have hn1 : d.dels.length ≤ 300 := by unfold cntN at hn; omega
  have hn2 : d.inss.length ≤ 300 := by unfold cntN at hn; omega
  have hc1 : (txL d.dels).length < 2000000 := by unfold txL at hce ⊢; simp only [List.flatMap_append, List.length_append] at hce; omega
  have hc2 : (txL d.inss).length < 2000000 := by unfold txL at hce ⊢; simp only [List.flatMap_append, List.length_append] at hce; omega
  clear e hn
  simp +contextual (maxSteps := 5000000) only [go_sem, ↓reduceIte, c_longest, hl, eDl, q1, q2, q3]
  clear q1 q2 q3
  generalize mxL (txF d) = m0 at hmx
  refine M_loopI (fun i : Nat => ⟨[(1, .loc 1 0), (4, .int .i64 (m0 + (txL (d.dels.take i)).length : Nat)), (5, .int .i64 i)], [(1, .blk (eDl d) false)]⟩) (fun i => d.dels.length - i) (fun i => i ≤ d.dels.length) 0 ?_ ?_
  · simp +contextual (maxSteps := 5000000) only [go_sem, ↓reduceIte, eDl, txL, List.flatMap_nil]
    rfl
  intro i hi
  by_cases hlt : i < d.dels.length
  · have hat := eL_at d.dels i hlt
    have ht : txL (d.dels.take (i + 1)) = txL (d.dels.take i) ++ (d.dels.getD i (0, [])).2 := flat_succ (d := (0, [])) (·.2) hlt
    have hb : (txL (d.dels.take (i + 1))).length ≤ (txL d.dels).length := flat_le d.dels (·.2) (i + 1)
    rw [ht, List.length_append] at hb
    simp +contextual (maxSteps := 5000000) only [go_sem, ↓reduceIte, hlt, hat, eDl]
    exact fun _ _ => ⟨inR64 (by omega) (by omega), fun _ => ⟨inR64 (by omega) (by omega), fun _ => ⟨i + 1, ⟨by rw [ht, List.length_append]; omega, by simp⟩, by omega, by omega⟩⟩⟩
  obtain rfl : i = d.dels.length := by omega
  simp +contextual (maxSteps := 5000000) only [go_sem, ↓reduceIte, eDl, hlt, Nat.lt_irrefl, List.take_length]
  intro _
  refine M_loopI (fun i : Nat => ⟨[(1, .loc 1 0), (4, .int .i64 (m0 + (txL d.dels).length + (txL (d.inss.take i)).length : Nat)), (6, .int .i64 i)], [(1, .blk (eDl d) false)]⟩) (fun i => d.inss.length - i) (fun i => i ≤ d.inss.length) 0 ?_ ?_
  · simp +contextual (maxSteps := 5000000) only [go_sem, ↓reduceIte, eDl, txL, List.flatMap_nil]
    rfl
  intro i hi
  by_cases hlt : i < d.inss.length
  · have hat := eL_at d.inss i hlt
    have ht : txL (d.inss.take (i + 1)) = txL (d.inss.take i) ++ (d.inss.getD i (0, [])).2 := flat_succ (d := (0, [])) (·.2) hlt
    have hb : (txL (d.inss.take (i + 1))).length ≤ (txL d.inss).length := flat_le d.inss (·.2) (i + 1)
    rw [ht, List.length_append] at hb
    simp +contextual (maxSteps := 5000000) only [go_sem, ↓reduceIte, hlt, hat, eDl]
    exact fun _ _ => ⟨inR64 (by omega) (by omega), fun _ => ⟨inR64 (by omega) (by omega), fun _ => ⟨i + 1, ⟨by rw [ht, List.length_append]; omega, by simp⟩, by omega, by omega⟩⟩⟩
  obtain rfl : i = d.inss.length := by omega
  simp +contextual (maxSteps := 5000000) only [go_sem, ↓reduceIte, eDl, hlt, Nat.lt_irrefl, List.take_length]
  exact fun _ => decide_eq_decide.2 (by omega)
end Go.Proofs.YtlabdffgcciepaaGreatDoor
namespace Go.Proofs.YtlabdffgcciepaaGreatDoor
open Go.Tn
set_option maxHeartbeats 8000000
set_option maxRecDepth 100000
def keyS (s : St6) : Int × Int := (s.j, s.q)
def keyA (s : St6) : Int × Int := (s.i, s.p)
def ltS (x y : St6) : Prop := ordF x y < 0
theorem ltS_iff (x y : St6) : ltS x y ↔ x.j < y.j ∨ (x.j = y.j ∧ x.q < y.q) := ordF_lt x y
structure OkS (d : Dl) : Prop where
  mem : ∀ x ∈ d.sets, ((x.i, x.j) ∈ d.rows ∧ (x.p, x.q) ∈ d.cols) ∧ x.o ≠ x.n
  up : d.sets.Pairwise ltS
theorem okS_iff (d : Dl) : (¬ ∃ i, i < d.sets.length ∧ okS d i = false) ↔ OkS d := by
  have ats : ∀ {i : Nat} (hi : i < d.sets.length), setAt6 d i = d.sets[i] := fun {i} hi => by
    unfold setAt6
    rw [List.getD_eq_getElem?_getD, List.getElem?_eq_getElem hi]; rfl
  constructor
  · intro h
    have all : ∀ i, i < d.sets.length → okS d i = true := fun i hi => by
      cases hb : okS d i with
      | true => rfl
      | false => exact absurd ⟨i, hi, hb⟩ h
    refine ⟨fun x hx => ?_, ?_⟩
    · obtain ⟨i, hi, rfl⟩ := List.getElem_of_mem hx
      have := all i hi
      simp only [okS, ats hi, Bool.and_eq_true, decide_eq_true_eq] at this
      exact ⟨⟨this.1.1.1, this.1.1.2⟩, this.1.2⟩
    · have adj : ∀ i (hi : i + 1 < d.sets.length), ltS d.sets[i] d.sets[i + 1] := fun i hi => by
        have := all (i + 1) hi
        simp only [okS, ats hi, Bool.and_eq_true, Bool.or_eq_true, decide_eq_true_eq, Nat.add_sub_cancel, ats (show i < d.sets.length by omega)] at this
        exact this.2.resolve_left (by omega)
      rw [List.pairwise_iff_getElem]
      intro i j hi hj hij
      obtain ⟨k, rfl⟩ : ∃ k, j = i + 1 + k := ⟨j - (i + 1), by omega⟩
      induction k with
      | zero => exact adj i hj
      | succ k ih =>
        have h1 := ih (by omega) (by omega)
        have h2 := adj (i + 1 + k) (by omega)
        rw [ltS_iff] at *
        have e : d.sets[i + 1 + (k + 1)] = d.sets[i + 1 + k + 1] := rfl
        rw [e]
        omega
  · rintro g ⟨i, hi, hb⟩
    have h1 := g.mem _ (List.getElem_mem hi)
    have : okS d i = true := by
      simp only [okS, ats hi, Bool.and_eq_true, Bool.or_eq_true, decide_eq_true_eq]
      refine ⟨⟨⟨h1.1.1, h1.1.2⟩, h1.2⟩, ?_⟩
      by_cases h0 : i = 0
      · exact .inl h0
      · rw [ats (show i - 1 < d.sets.length by omega)]
        exact .inr (List.pairwise_iff_getElem.1 g.up (i - 1) i (by omega) hi (by omega))
    rw [this] at hb; cases hb
structure OkD (d : Dl) : Prop where
  ne : 0 < d.A.length ∧ 0 < d.B.length
  once : onceF d.A = true ∧ onceF d.B = true
  big : (d.A.length ≤ 40 ∧ d.B.length ≤ 40) ∧ d.na ≤ 400 ∧ d.nb ≤ 400
  cols : Good d.cols d.A.length d.B.length
  rows : Good d.rows d.na d.nb
  lines : mtF (isL d.A.length) d.dels (goneR d) = true ∧ mtF (isL d.B.length) d.inss (newR' d) = true
  spots : mtF isS d.lost (crF (wiF (goneR d) d.na.toNat) (goneC d)) = true ∧ mtF isS d.gain (crF (wiF (newR' d) d.nb.toNat) (newC d)) = true
  sets : OkS d
  short : ¬ ∃ s ∈ txF d, 1000 < s.length
theorem chkD_zero (d : Dl) : chkD d = 0 ↔ OkD d := by
  unfold chkD
  constructor
  · intro h
    by_cases p1 : 0 < d.A.length ∧ 0 < d.B.length
    · rw [if_neg (fun h => h p1)] at h
      by_cases p2 : onceF d.A = true ∧ onceF d.B = true
      · rw [if_neg (fun h => h p2)] at h
        by_cases p3 : (d.A.length ≤ 40 ∧ d.B.length ≤ 40) ∧ d.na ≤ 400 ∧ d.nb ≤ 400
        · rw [if_neg (fun h => h p3)] at h
          by_cases p4 : chk d.cols d.A.length d.B.length = 0
          · rw [if_neg (fun h => h p4)] at h
            by_cases p5 : chk d.rows d.na d.nb = 0
            · rw [if_neg (fun h => h p5)] at h
              by_cases p6 : mtF (isL d.A.length) d.dels (goneR d) = true ∧ mtF (isL d.B.length) d.inss (newR' d) = true
              · rw [if_neg (fun h => h p6)] at h
                by_cases p7 : mtF isS d.lost (crF (wiF (goneR d) d.na.toNat) (goneC d)) = true ∧ mtF isS d.gain (crF (wiF (newR' d) d.nb.toNat) (newC d)) = true
                · rw [if_neg (fun h => h p7)] at h
                  by_cases p8 : ∃ i, i < d.sets.length ∧ okS d i = false
                  · rw [if_pos p8] at h; omega
                  · rw [if_neg p8] at h
                    by_cases p9 : ∃ s ∈ txF d, 1000 < s.length
                    · rw [if_pos p9] at h; omega
                    · exact ⟨p1, p2, p3, (chk_zero _ _ _).1 p4, (chk_zero _ _ _).1 p5, p6, p7, (okS_iff d).1 p8, p9⟩
                · rw [if_pos p7] at h; omega
              · rw [if_pos p6] at h; omega
            · rw [if_pos p5] at h; exact absurd h p5
          · rw [if_pos p4] at h; exact absurd h p4
        · rw [if_pos p3] at h; omega
      · rw [if_pos p2] at h; omega
    · rw [if_pos p1] at h; omega
  · rintro ⟨p1, p2, p3, p4, p5, p6, p7, p8, p9⟩
    rw [if_neg (fun h => h p1), if_neg (fun h => h p2), if_neg (fun h => h p3), if_neg (fun h => h ((chk_zero _ _ _).2 p4)), if_neg (fun h => h ((chk_zero _ _ _).2 p5)), if_neg (fun h => h p6), if_neg (fun h => h p7), if_neg ((okS_iff d).2 p8), if_neg p9]
theorem perm_turnSs (l : List St6) : (turnSs l).Perm (l.map turnS) := List.mergeSort_perm _ _
theorem mem_turnSs {l : List St6} {x : St6} : x ∈ turnSs l ↔ turnS x ∈ l := by
  rw [(perm_turnSs l).mem_iff, List.mem_map]
  constructor
  · rintro ⟨q, hq, rfl⟩; exact hq
  · intro h; exact ⟨_, h, rfl⟩
theorem OkD.keys {d : Dl} (g : OkD d) : (d.sets.map keyS).Nodup ∧ (d.sets.map keyA).Nodup := by
  constructor
  · rw [List.nodup_iff_pairwise_ne, List.pairwise_map]
    refine g.sets.up.imp fun h e => ?_
    rw [ltS_iff] at h
    simp only [keyS, Prod.mk.injEq] at e
    omega
  · rw [List.nodup_iff_pairwise_ne, List.pairwise_map]
    refine List.Pairwise.imp_of_mem (R := ltS) (fun {x y} hx hy h e => ?_) g.sets.up
    rw [ltS_iff] at h
    simp only [keyA, Prod.mk.injEq] at e
    have h1 := g.sets.mem x hx
    have h2 := g.sets.mem y hy
    have e1 := congrArg Prod.snd (inj_at g.rows.na h1.1.1 h2.1.1 e.1)
    have e2 := congrArg Prod.snd (inj_at g.cols.na h1.1.2 h2.1.2 e.2)
    simp only at e1 e2
    omega
theorem OkD.tsets {d : Dl} (g : OkD d) : OkS (turnD d) := by
  refine ⟨fun x hx => ?_, ?_⟩
  · have h := g.sets.mem _ (mem_turnSs.1 hx)
    exact ⟨⟨mem_turnP.2 h.1.1, mem_turnP.2 h.1.2⟩, fun e => h.2 e.symm⟩
  · have h1 := Ps.srt_sorted pre_leJ (d.sets.map turnS)
    have h2 : ((turnSs d.sets).map keyS).Nodup := by
      have := (perm_turnSs d.sets).map keyS
      rw [List.map_map] at this
      exact this.nodup_iff.2 g.keys.2
    rw [List.nodup_iff_pairwise_ne, List.pairwise_map] at h2
    refine (List.Pairwise.and h1 h2).imp fun h => ?_
    obtain ⟨h3, h4⟩ := h
    rw [leJ_iff] at h3
    rw [ltS_iff]
    simp only [keyS, ne_eq, Prod.mk.injEq] at h4
    omega
theorem goneR_t (d : Dl) : goneR (turnD d) = newR' d := rsL_congr (fun x => (turnP_fst d.rows).mem_iff) _
theorem newR_t (d : Dl) : newR' (turnD d) = goneR d := rsL_congr (fun x => (turnP_snd d.rows).mem_iff) _
theorem goneC_t (d : Dl) : goneC (turnD d) = newC d := rsL_congr (fun x => (turnP_fst d.cols).mem_iff) _
theorem newC_t (d : Dl) : newC (turnD d) = goneC d := rsL_congr (fun x => (turnP_snd d.cols).mem_iff) _
theorem tx_turn {d : Dl} {s : Str} (h : s ∈ txF (turnD d)) : s ∈ txF d := by
  have e1 : ∀ a b : List Ln, txL (a ++ b) = txL a ++ txL b := fun a b => by unfold txL; simp
  have e2 : ∀ a b : List Sp, txP (a ++ b) = txP a ++ txP b := fun a b => by unfold txP; simp
  have e3 : s ∈ txS (turnSs d.sets) → s ∈ txS d.sets := fun h => by
    obtain ⟨x, hx, hs⟩ := List.mem_flatMap.1 h
    refine List.mem_flatMap.2 ⟨_, mem_turnSs.1 hx, ?_⟩
    simp only [turnS, List.mem_cons, List.not_mem_nil, or_false] at hs ⊢
    exact hs.symm
  unfold txF at h ⊢
  simp only [turnD] at h
  rw [e1, e2] at h ⊢
  simp only [List.mem_append] at h ⊢
  rcases h with (((h | h) | h | h) | h) | h | h
  · exact .inl (.inl (.inl (.inr h)))
  · exact .inl (.inl (.inl (.inl h)))
  · exact .inl (.inl (.inr (.inr h)))
  · exact .inl (.inl (.inr (.inl h)))
  · exact .inl (.inr (e3 h))
  · exact .inr (.inr h)
  · exact .inr (.inl h)
theorem OkD.turn {d : Dl} (g : OkD d) : OkD (turnD d) := by
  refine ⟨⟨g.ne.2, g.ne.1⟩, ⟨g.once.2, g.once.1⟩, ⟨⟨g.big.1.2, g.big.1.1⟩, g.big.2.2, g.big.2.1⟩, g.cols.turn, g.rows.turn, ?_, ?_, g.tsets, fun ⟨s, hs, h⟩ => g.short ⟨s, tx_turn hs, h⟩⟩
  · rw [goneR_t, newR_t]; exact ⟨g.lines.2, g.lines.1⟩
  · rw [goneR_t, newR_t, goneC_t, newC_t]; exact ⟨g.spots.2, g.spots.1⟩
end Go.Proofs.YtlabdffgcciepaaGreatDoor
namespace Go.Proofs.YtlabdffgcciepaaGreatDoor
open Go.Tn
set_option maxHeartbeats 8000000
set_option maxRecDepth 100000
def c_ins (caps args : List D) : Prop × Out := match caps, args with | [], [.sl 2 rows, .int .i64 a, .int .i64 b] => (rows = (rows.map dP).map eP, .ret (.bool (decide ((a, b) ∈ rows.map dP)))) | _, _ => (False, .ret .any)
theorem st_ins : StC Tryz.prog 105 c_ins := by
  intro caps args; unfold c_ins; split
  · rename_i rows a b
    intro h
    have := fc_inside (rows.map dP) a b
    rwa [← h] at this
  · exact fun h => h.elim
theorem bef_ord (x y : St6) : befF x y = decide (ordF x y < 0) := by
  have := ordF_lt x y
  unfold befF
  rw [Bool.eq_iff_iff]
  simp only [decide_eq_true_eq, Bool.or_eq_true, Bool.and_eq_true]
  omega
def rightF (d : Dl) : Bool := decide (∀ i, i < d.sets.length → okS d i = true)
theorem fc_right (d : Dl) : FC Tryz.prog 71 [] [.agg (eDl d)] (.ret (.bool (rightF d))) := by
  unfold eDl
  refine fc_M (fn := Tryz.f71) (C := (tab [(105, c_ins), (106, c_bef)] [] [5004, 5005])) (rs := [2]) mixed (by kernel_rfl) (by kernel_rfl) rfl rfl (by kernel_rfl) (by intro ys h; cases h) ?_
  simp +contextual (maxSteps := 5000000) only [go_sem, ↓reduceIte]
  refine M_loopI (fun i : Nat => ⟨[(1, .loc 1 0), (3, .int .i64 i)], [(1, .blk (eDl d) false)]⟩) (fun i => d.sets.length - i) (fun i => i ≤ d.sets.length ∧ ∀ j, j < i → okS d j = true) 0 ?_ ?_
  · simp +contextual (maxSteps := 5000000) only [go_sem, ↓reduceIte, eDl]
    rfl
  rintro i ⟨hi, hf⟩
  by_cases hlt : i < d.sets.length
  · have hat := eD6_at d.sets i hlt
    have hx : setAt6 d i = d.sets.getD i default := rfl
    generalize hxx : d.sets.getD i default = x at hat hx
    have hno : okS d i = false → rightF d = false := fun h => decide_eq_false (fun g => by have := g i hlt; rw [h] at this; cases this)
    have hin2 := hno
    simp +contextual (maxSteps := 5000000) only [go_sem, ↓reduceIte, hlt, eDl]
    intro _
    refine M_join (fun _ : Unit => ⟨[(1, .loc 1 0), (3, .int .i64 i), (4, .loc 4 0)], [(1, .blk (eDl d) false), (4, .blk [.int .i64 x.i, .int .i64 x.j, .int .i64 x.p, .int .i64 x.q, .str x.o, .str x.n] false)]⟩) (fun _ => True) ?_ ?_
    · unfold eDl
      simp +contextual (maxSteps := 5000000) only [go_sem, ↓reduceIte, hlt, hat]
      exact ⟨(), trivial⟩
    intro _ _
    unfold eDl
    simp +contextual (maxSteps := 5000000) only [go_sem, ↓reduceIte]
    refine M_join (fun _ : Unit => ⟨[(1, .loc 1 0), (3, .int .i64 i), (4, .loc 4 0), (5, .bool (decide ((x.i, x.j) ∈ d.rows))), (6, .bool (decide ((x.p, x.q) ∈ d.cols)))], [(1, .blk (eDl d) false), (4, .blk [.int .i64 x.i, .int .i64 x.j, .int .i64 x.p, .int .i64 x.q, .str x.o, .str x.n] false)]⟩) (fun _ => True) ?_ ?_
    · simp +contextual (maxSteps := 5000000) only [go_sem, ↓reduceIte, eDl, c_ins, st_ins, dP_eP]
      exact ⟨(), trivial⟩
    intro _ _
    have hok : okS d i = (decide ((x.i, x.j) ∈ d.rows) && decide ((x.p, x.q) ∈ d.cols) && decide (x.o ≠ x.n) && (decide (i = 0) || decide (ordF (setAt6 d (i - 1)) x < 0))) := by rw [← hx]; rfl
    have hyes : okS d i = true → ∀ j, j < i + 1 → okS d j = true := fun h j hj => by
      rcases lt_cases hj with h' | rfl
      · exact hf j h'
      · exact h
    by_cases a1 : (x.i, x.j) ∈ d.rows
    · have a1' := decide_eq_true a1
      by_cases a2 : (x.p, x.q) ∈ d.cols
      · have a2' := decide_eq_true a2
        by_cases a3 : x.o = x.n
        · rw [hno (by rw [hok]; simp [a3])]
          unfold eDl
          simp +contextual (maxSteps := 5000000) only [go_sem, ↓reduceIte, a1', a2', a3]
        · have a3' : decide (x.o ≠ x.n) = true := decide_eq_true a3
          rcases Nat.eq_zero_or_pos i with rfl | hp
          · have h := hyes (by rw [hok, a1', a2', a3']; rfl)
            unfold eDl
            simp +contextual (maxSteps := 5000000) only [go_sem, ↓reduceIte, a1', a2', a3, Int.reduceEq, Int.reduceNe, Int.reduceLT, Int.reduceLE, Int.reduceToNat, Int.cast_ofNat_Int]
            exact ⟨inR64 (by omega) (by omega), fun _ => ⟨1, by simp, by omega, by omega, h⟩⟩
          · obtain ⟨m, rfl⟩ : ∃ m, i = m + 1 := ⟨i - 1, by omega⟩
            have hml : m < d.sets.length := by omega
            have hat2 := eD6_at d.sets m hml
            have he : ((m + 1 : Nat) : Int) - 1 = (m : Nat) := by omega
            have hp' : (0 : Int) < ((m + 1 : Nat) : Int) := by omega
            have hb : befF ⟨(d.sets.getD m default).i, (d.sets.getD m default).j, (d.sets.getD m default).p, (d.sets.getD m default).q, (d.sets.getD m default).o, (d.sets.getD m default).n⟩ ⟨x.i, x.j, x.p, x.q, x.o, x.n⟩ = decide (ordF (d.sets.getD m default) x < 0) := bef_ord _ _
            have hok2 : okS d (m + 1) = decide (ordF (d.sets.getD m default) x < 0) := by rw [hok, a1', a2', a3']; rfl
            by_cases a4 : ordF (d.sets.getD m default) x < 0
            · rw [decide_eq_true a4] at hb hok2
              have h := hyes hok2
              unfold eDl
              simp +contextual (maxSteps := 5000000) only [go_sem, ↓reduceIte, a1', a2', a3, hlt, hml, hat2, he, hp', c_bef, st_bef, hb, Int.reduceEq, Int.reduceNe, Int.reduceLT, Int.reduceLE, Int.reduceToNat, Int.cast_ofNat_Int]
              exact ⟨inR64 (by omega) (by omega), fun _ => ⟨inR64 (by omega) (by omega), fun _ => ⟨m + 2, by simp; omega, by omega, by omega, h⟩⟩⟩
            · rw [decide_eq_false a4] at hb hok2
              rw [hno hok2]
              unfold eDl
              simp +contextual (maxSteps := 5000000) only [go_sem, ↓reduceIte, a1', a2', a3, hlt, hml, hat2, he, hp', c_bef, st_bef, hb, Int.reduceEq, Int.reduceNe, Int.reduceLT, Int.reduceLE, Int.reduceToNat, Int.cast_ofNat_Int]
              exact inR64 (by omega) (by omega)
      · have a2' := decide_eq_false a2
        rw [hno (by rw [hok, a2']; simp)]
        unfold eDl
        simp +contextual (maxSteps := 5000000) only [go_sem, ↓reduceIte, a1', a2']
    · have a1' := decide_eq_false a1
      rw [hno (by rw [hok, a1']; simp)]
      unfold eDl
      simp +contextual (maxSteps := 5000000) only [go_sem, ↓reduceIte, a1']
  · have h : rightF d = true := decide_eq_true (fun j hj => hf j (by omega))
    rw [h]
    unfold eDl
    simp +contextual (maxSteps := 5000000) only [go_sem, ↓reduceIte, hlt]
def c_nms (caps args : List D) : Prop × Out := match caps, args with | [], [.sl 1 rows] => (rows = (rows.map dS).map eS, .ret (.bool (onceF (rows.map dS)))) | _, _ => (False, .ret .any)
theorem st_nms : StC Tryz.prog 64 c_nms := by
  intro caps args; unfold c_nms; split
  · rename_i rows
    intro h
    have := fc_names (rows.map dS)
    rwa [← h] at this
  · exact fun h => h.elim
def c_rCk (caps args : List D) : Prop × Out := match caps, args with | [], [.sl 2 rows, .int .i64 a, .int .i64 b] => (rows = (rows.map dP).map eP ∧ rows.length < 1000000000, .ret (.int .i64 (chk (rows.map dP) a b))) | _, _ => (False, .ret .any)
theorem st_rCk : StC Tryz.prog 65 c_rCk := by
  intro caps args; unfold c_rCk; split
  · rename_i rows a b
    rintro ⟨h, hl⟩
    have := fc_rCheck (rows.map dP) a b (by simpa using hl)
    rwa [← h] at this
  · exact fun h => h.elim
def c_rRA (caps args : List D) : Prop × Out := match caps, args with | [], [.sl 2 rows, .int .i64 n] => (rows = (rows.map dP).map eP ∧ rows.length < 1000000000 ∧ n ≤ 1000000000, .ret (.sl 1 ((rsL ((rows.map dP).map (·.1)) n.toNat).map eI))) | _, _ => (False, .ret .any)
theorem st_rRA : StC Tryz.prog 66 c_rRA := by
  intro caps args; unfold c_rRA; split
  · rename_i rows n
    rintro ⟨h, hl, hn⟩
    have := fc_rRestA (rows.map dP) n hn (by simpa using hl)
    rwa [← h] at this
  · exact fun h => h.elim
def c_rRB (caps args : List D) : Prop × Out := match caps, args with | [], [.sl 2 rows, .int .i64 n] => (rows = (rows.map dP).map eP ∧ rows.length < 1000000000 ∧ n ≤ 1000000000, .ret (.sl 1 ((rsL ((rows.map dP).map (·.2)) n.toNat).map eI))) | _, _ => (False, .ret .any)
theorem st_rRB : StC Tryz.prog 67 c_rRB := by
  intro caps args; unfold c_rRB; split
  · rename_i rows n
    rintro ⟨h, hl, hn⟩
    have := fc_rRestB (rows.map dP) n hn (by simpa using hl)
    rwa [← h] at this
  · exact fun h => h.elim
def c_not (caps args : List D) : Prop × Out := match caps, args with | [], [.sl 1 rows, .int .i64 n] => (rows = (rows.map dI).map eI ∧ n ≤ 1000000000, .ret (.sl 1 ((wiF (rows.map dI) n.toNat).map eI))) | _, _ => (False, .ret .any)
theorem st_not : StC Tryz.prog 70 c_not := by
  intro caps args; unfold c_not; split
  · rename_i rows n
    rintro ⟨h, hn⟩
    have := fc_not (rows.map dI) n hn
    rwa [← h] at this
  · exact fun h => h.elim
def c_whl (caps args : List D) : Prop × Out := match caps, args with | [], [.sl 2 rows, .sl 1 pl, .int .i64 w] => (rows = (rows.map dL).map eL ∧ pl = (pl.map dI).map eI ∧ rows.length < 1000000000, .ret (.bool (mtF (isL w) (rows.map dL) (pl.map dI)))) | _, _ => (False, .ret .any)
theorem st_whl : StC Tryz.prog 68 c_whl := by
  intro caps args; unfold c_whl; split
  · rename_i rows pl w
    rintro ⟨h, h2, hl⟩
    have := fc_whole (rows.map dL) (pl.map dI) w (by simpa using hl)
    rwa [← h, ← h2] at this
  · exact fun h => h.elim
def c_each (caps args : List D) : Prop × Out := match caps, args with | [], [.sl 3 rows, .sl 1 a, .sl 1 b] => (rows = (rows.map dSp).map eSp ∧ a = (a.map dI).map eI ∧ b = (b.map dI).map eI ∧ rows.length < 1000000000 ∧ a.length < 1000000000 ∧ b.length < 1000000000, .ret (.bool (mtF isS (rows.map dSp) (crF (a.map dI) (b.map dI))))) | _, _ => (False, .ret .any)
theorem st_each : StC Tryz.prog 69 c_each := by
  intro caps args; unfold c_each; split
  · rename_i rows a b
    rintro ⟨h, h2, h3, hl, ha, hb⟩
    have := fc_each (rows.map dSp) (a.map dI) (b.map dI) (by simpa using hl) (by simpa using ha) (by simpa using hb)
    rwa [← h, ← h2, ← h3] at this
  · exact fun h => h.elim
def c_rgt (d : Dl) (caps args : List D) : Prop × Out := match caps, args with | [], [x] => (x = .agg (eDl d), .ret (.bool (rightF d))) | _, _ => (False, .ret .any)
theorem st_rgt (d : Dl) : StC Tryz.prog 71 (c_rgt d) := by
  intro caps args; unfold c_rgt; split
  · rintro rfl; exact fc_right d
  · exact fun h => h.elim
end Go.Proofs.YtlabdffgcciepaaGreatDoor
