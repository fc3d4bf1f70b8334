/-
  What the functions compute that the law of this claim reaches. By an AI agent.
-/
import Derived.Test.YtknkjakppikjeaaGreatG2
set_option linter.unusedSimpArgs false
set_option linter.unusedVariables false

set_option linter.unusedSimpArgs false
namespace Go.Proofs.YtknkjakppikjeaaGreat
open Go.Tn
set_option maxHeartbeats 8000000
set_option maxRecDepth 100000
theorem ctM_app (l : List Int) (k : Int) : ctM (l ++ [k]) = mup (ctM l) k (mlk (ctM l) k + 1) := by simp [ctM]
theorem rev_ind {α : Type} {p : List α → Prop} (h0 : p []) (h1 : ∀ l k, p l → p (l ++ [k])) : ∀ l, p l := by
  have key : ∀ r : List α, p r.reverse := fun r => by
    induction r with
    | nil => exact h0
    | cons k r ih => rw [List.reverse_cons]; exact h1 _ _ ih
  intro l
  have := key l.reverse
  rwa [List.reverse_reverse] at this
theorem mup_keys (k v : Int) : ∀ m : List (Int × Int), (mup m k v).map (·.1) = if k ∈ m.map (·.1) then m.map (·.1) else m.map (·.1) ++ [k]
  | [] => by simp [mup]
  | x :: r => by
    have ih := mup_keys k v r
    simp only [mup]
    by_cases e : x.1 = k
    · subst e; simp
    · rw [if_neg e, List.map_cons, ih]
      by_cases h : k ∈ r.map (·.1)
      · rw [if_pos h, if_pos (by rw [List.map_cons]; exact List.mem_cons_of_mem _ h)]; rfl
      · rw [if_neg h, if_neg (by rw [List.map_cons, List.mem_cons]; exact fun h' => h'.elim (fun h' => e h'.symm) h)]; rfl
theorem ct_keys (l : List Int) : (∀ x, x ∈ (ctM l).map (·.1) ↔ x ∈ l) ∧ (ctM l).length ≤ l.length ∧ ((ctM l).length = l.length ↔ l.Nodup) := by
  refine rev_ind (p := fun l => (∀ x, x ∈ (ctM l).map (·.1) ↔ x ∈ l) ∧ (ctM l).length ≤ l.length ∧ ((ctM l).length = l.length ↔ l.Nodup)) ?_ ?_ l
  · simp [ctM]
  · rintro l k ⟨h1, h2, h3⟩
    rw [ctM_app]
    have hk := mup_keys k (mlk (ctM l) k + 1) (ctM l)
    have hlen : (mup (ctM l) k (mlk (ctM l) k + 1)).length = (ctM l).length + if k ∈ l then 0 else 1 := by
      have := congrArg List.length hk
      rw [List.length_map] at this
      rw [this]
      by_cases h : k ∈ l
      · rw [if_pos ((h1 k).2 h), if_pos h, List.length_map]; rfl
      · rw [if_neg (fun h' => h ((h1 k).1 h')), if_neg h, List.length_append, List.length_map]; rfl
    refine ⟨fun x => ?_, ?_, ?_⟩
    · rw [hk]
      by_cases h : k ∈ l
      · rw [if_pos ((h1 k).2 h), h1, List.mem_append, List.mem_singleton]
        exact ⟨.inl, fun h' => h'.elim id (fun e => e ▸ h)⟩
      · rw [if_neg (fun h' => h ((h1 k).1 h')), List.mem_append, List.mem_append, h1]
    · rw [hlen, List.length_append, List.length_singleton]; split <;> omega
    · rw [hlen, List.length_append, List.length_singleton, List.nodup_append]
      by_cases h : k ∈ l
      · rw [if_pos h]
        refine ⟨fun e => by omega, fun ⟨_, _, h'⟩ => absurd rfl (h' k h k (by simp))⟩
      · rw [if_neg h]
        refine ⟨fun e => ⟨h3.1 (by omega), by simp, fun a ha b hb => ?_⟩, fun ⟨h', _⟩ => by rw [h3.2 h']⟩
        obtain rfl : b = k := by simpa using hb
        exact fun e => h (e ▸ ha)
/-- what a good list of pairs is -/
structure Good (ps : List (Int × Int)) (na nb : Int) : Prop where
  a0 : 0 ≤ na
  b0 : 0 ≤ nb
  inn : ∀ p ∈ ps, inB na nb p
  na : (ps.map (·.1)).Nodup
  nb : (ps.map (·.2)).Nodup
  up : ps.Pairwise (fun p q => p.2 ≤ q.2)
theorem dnF_up : ∀ ps : List (Int × Int), dnF ps = false ↔ ps.Pairwise (fun p q => p.2 ≤ q.2)
  | [] => by simp [dnF]
  | [p] => by simp [dnF]
  | p :: q :: r => by
    have ih := dnF_up (q :: r)
    simp only [dnF, Bool.or_eq_false_iff, decide_eq_false_iff_not, ih]
    rw [List.pairwise_cons (a := p)]
    constructor
    · rintro ⟨h1, h2⟩
      refine ⟨fun x hx => ?_, h2⟩
      rcases List.mem_cons.1 hx with rfl | hx
      · omega
      · have := (List.pairwise_cons.1 h2).1 x hx; omega
    · rintro ⟨h1, h2⟩
      exact ⟨by have := h1 q (by simp); omega, h2⟩
theorem chk_zero (ps : List (Int × Int)) (na nb : Int) : chk ps na nb = 0 ↔ Good ps na nb := by
  have h1 := ct_keys (ps.map (·.1))
  have h2 := ct_keys (ps.map (·.2))
  rw [List.length_map] at h1 h2
  unfold chk
  constructor
  · intro h
    by_cases c1 : na < 0 ∨ nb < 0
    · rw [if_pos c1] at h; omega
    · rw [if_neg c1] at h
      by_cases c2 : ∃ p ∈ ps, ¬ inB na nb p
      · rw [if_pos c2] at h; omega
      · rw [if_neg c2] at h
        by_cases c3 : (ctM (ps.map (·.1))).length < ps.length ∨ (ctM (ps.map (·.2))).length < ps.length
        · rw [if_pos c3] at h; omega
        · rw [if_neg c3] at h
          cases c4 : dnF ps with
          | true => rw [if_pos c4] at h; omega
          | false =>
            exact ⟨by omega, by omega, fun p hp => Classical.byContradiction fun hn => c2 ⟨p, hp, hn⟩, h1.2.2.1 (by omega), h2.2.2.1 (by omega), (dnF_up ps).1 c4⟩
  · intro g
    have e1 := h1.2.2.2 g.na
    have e2 := h2.2.2.2 g.nb
    have e3 := (dnF_up ps).2 g.up
    have := g.a0
    have := g.b0
    rw [if_neg (by omega), if_neg (fun ⟨p, hp, hn⟩ => hn (g.inn p hp)), if_neg (by omega), if_neg (by rw [e3]; simp)]
theorem perm_turnP (l : List (Int × Int)) : (turnP l).Perm (l.map sw) := List.mergeSort_perm _ _
theorem mem_turnP {l : List (Int × Int)} {p : Int × Int} : p ∈ turnP l ↔ sw p ∈ l := by
  rw [(perm_turnP l).mem_iff, List.mem_map]
  constructor
  · rintro ⟨q, hq, rfl⟩; exact hq
  · intro h; exact ⟨_, h, rfl⟩
theorem turnP_fst (l : List (Int × Int)) : ((turnP l).map (·.1)).Perm (l.map (·.2)) := by
  have := (perm_turnP l).map (·.1)
  rw [List.map_map] at this; exact this
theorem turnP_snd (l : List (Int × Int)) : ((turnP l).map (·.2)).Perm (l.map (·.1)) := by
  have := (perm_turnP l).map (·.2)
  rw [List.map_map] at this; exact this
theorem Good.turn {l : List (Int × Int)} {na nb : Int} (g : Good l na nb) : Good (turnP l) nb na := by
  refine ⟨g.b0, g.a0, fun p hp => ?_, (turnP_fst l).nodup_iff.2 g.nb, (turnP_snd l).nodup_iff.2 g.na, ?_⟩
  · have := g.inn _ (mem_turnP.1 hp)
    exact ⟨this.2.2.1, this.2.2.2, this.1, this.2.1⟩
  · refine (Ps.srt_sorted pre_leB (l.map sw)).imp (fun h => ?_)
    exact of_decide_eq_true h
theorem inj_at {α β : Type} {f : α → β} {l : List α} (h : (l.map f).Nodup) {a b : α} (ha : a ∈ l) (hb : b ∈ l) (e : f a = f b) : a = b := by
  obtain ⟨i, hi, rfl⟩ := List.getElem_of_mem ha
  obtain ⟨j, hj, rfl⟩ := List.getElem_of_mem hb
  have h1 := List.pairwise_iff_getElem.1 (List.nodup_iff_pairwise_ne.1 h)
  rcases Nat.lt_trichotomy i j with h2 | h2 | h2
  · exact absurd (by rw [List.getElem_map, List.getElem_map]; exact e) (h1 i j (by simpa using hi) (by simpa using hj) h2)
  · subst h2; rfl
  · exact absurd (by rw [List.getElem_map, List.getElem_map]; exact e.symm) (h1 j i (by simpa using hj) (by simpa using hi) h2)
theorem Good.back {l : List (Int × Int)} {na nb : Int} (g : Good l na nb) : turnP (turnP l) = l := by
  have p : (turnP (turnP l)).Perm l := by
    refine (perm_turnP _).trans ?_
    have := (perm_turnP l).map sw
    rw [List.map_map] at this
    refine this.trans ?_
    have e : l.map (sw ∘ sw) = l := by
      rw [show (sw ∘ sw) = id from rfl]; exact List.map_id l
    rw [e]
  refine List.Perm.eq_of_pairwise (le := fun p q => p.2 ≤ q.2) (fun a b ha hb h1 h2 => ?_) g.turn.turn.up g.up p
  exact inj_at g.nb (p.mem_iff.1 ha) hb (by omega)
theorem rsL_congr {l k : List Int} (h : ∀ x, x ∈ l ↔ x ∈ k) (n : Nat) : rsL l n = rsL k n := by
  unfold rsL
  congr 1
  refine List.filter_congr fun i _ => ?_
  simp only [h]
/-- as many as are no rest -/
theorem rsL_cnt : ∀ {n : Nat} {l : List Int}, l.Nodup → (∀ x ∈ l, 0 ≤ x ∧ x < n) → (rsL l n).length + l.length = n
  | 0, l, _, h2 => by
    cases l with
    | nil => rfl
    | cons x l => have := h2 x (by simp); omega
  | n + 1, l, h1, h2 => by
    rw [rsL_succ, List.length_append]
    by_cases h : (n : Int) ∈ l
    · have h3 := h1.erase (n : Int)
      have ih := rsL_cnt (n := n) h3 (fun x hx => by
        have h4 := h2 x (List.mem_of_mem_erase hx)
        have h5 : x ≠ n := fun e => by
          rw [e] at hx
          exact (h1.not_mem_erase) hx
        omega)
      have e1 : rsL (l.erase (n : Int)) n = rsL l n := by
        unfold rsL
        congr 1
        refine List.filter_congr fun i hi => ?_
        have hi := List.mem_range.1 hi
        have : (i : Int) ≠ n := by omega
        simp only [List.mem_erase_of_ne this]
      have e2 : (l.erase (n : Int)).length + 1 = l.length := by
        have := List.length_erase_of_mem h
        have : 0 < l.length := List.length_pos_of_mem h
        omega
      rw [e1] at ih
      rw [if_neg (fun h' => h' h)]
      simp only [List.length_nil]; omega
    · have ih := rsL_cnt (n := n) h1 (fun x hx => by
        have h4 := h2 x hx
        have h5 : x ≠ n := fun e => h (e ▸ hx)
        omega)
      rw [if_pos h]
      simp only [List.length_cons, List.length_nil]; omega
theorem mem_rsL {l : List Int} {n : Nat} {x : Int} : x ∈ rsL l n ↔ (0 ≤ x ∧ x < n) ∧ x ∉ l := by
  unfold rsL
  rw [List.mem_map]
  constructor
  · rintro ⟨i, hi, rfl⟩
    obtain ⟨h1, h2⟩ := List.mem_filter.1 hi
    have := List.mem_range.1 h1
    exact ⟨by omega, by simpa using h2⟩
  · rintro ⟨⟨h1, h2⟩, h3⟩
    refine ⟨x.toNat, List.mem_filter.2 ⟨List.mem_range.2 (by omega), ?_⟩, by omega⟩
    rw [Int.toNat_of_nonneg h1]; simpa using h3
theorem rsL_nodup (l : List Int) (n : Nat) : (rsL l n).Nodup := by
  unfold rsL
  rw [List.nodup_iff_pairwise_ne, List.pairwise_map]
  refine List.Pairwise.imp (R := fun a b => a < b) (fun h => by omega) ?_
  exact (List.pairwise_lt_range).filter _
theorem mtF_len {α β : Type} {q : α → β → Bool} : ∀ {l : List α} {r : List β}, mtF q l r = true → l.length = r.length
  | [], [], _ => rfl
  | x :: l, y :: r, h => by
    simp only [mtF, Bool.and_eq_true] at h
    simp only [List.length_cons, mtF_len h.2]
theorem crF_len (a b : List Int) : (crF a b).length = a.length * b.length := by
  induction a with
  | nil => simp [crF]
  | cons x a ih =>
    unfold crF at ih ⊢
    rw [List.flatMap_cons, List.length_append, ih, List.length_map, List.length_cons, Nat.succ_mul]; omega
theorem nodup_sub {α : Type} [DecidableEq α] : ∀ {l k : List α}, l.Nodup → (∀ x ∈ l, x ∈ k) → l.length ≤ k.length
  | [], k, _, _ => Nat.zero_le _
  | x :: l, k, h1, h2 => by
    have hx := h2 x (by simp)
    obtain ⟨n1, n2⟩ := List.nodup_cons.1 h1
    have := nodup_sub (k := k.erase x) n2 (fun y hy => by
      have hne : y ≠ x := fun e => n1 (e ▸ hy)
      exact (List.mem_erase_of_ne hne).2 (h2 y (by simp [hy])))
    have e := List.length_erase_of_mem hx
    have : 0 < k.length := List.length_pos_of_mem hx
    simp only [List.length_cons]; omega
end Go.Proofs.YtknkjakppikjeaaGreat

set_option linter.unusedSimpArgs false
namespace Go.Proofs.YtknkjakppikjeaaGreat
open Go.Tn
set_option maxHeartbeats 8000000
set_option maxRecDepth 100000
def keyS (s : St6) : Int × Int := (s.j, s.q)
def keyA (s : St6) : Int × Int := (s.i, s.p)
def ltS (x y : St6) : Prop := ordF x y < 0
theorem ltS_iff (x y : St6) : ltS x y ↔ x.j < y.j ∨ (x.j = y.j ∧ x.q < y.q) := ordF_lt x y
structure OkS (d : Dl) : Prop where
  mem : ∀ x ∈ d.sets, ((x.i, x.j) ∈ d.rows ∧ (x.p, x.q) ∈ d.cols) ∧ x.o ≠ x.n
  up : d.sets.Pairwise ltS
theorem okS_iff (d : Dl) : (¬ ∃ i, i < d.sets.length ∧ okS d i = false) ↔ OkS d := by
  have ats : ∀ {i : Nat} (hi : i < d.sets.length), setAt6 d i = d.sets[i] := fun {i} hi => by
    unfold setAt6
    rw [List.getD_eq_getElem?_getD, List.getElem?_eq_getElem hi]; rfl
  constructor
  · intro h
    have all : ∀ i, i < d.sets.length → okS d i = true := fun i hi => by
      cases hb : okS d i with
      | true => rfl
      | false => exact absurd ⟨i, hi, hb⟩ h
    refine ⟨fun x hx => ?_, ?_⟩
    · obtain ⟨i, hi, rfl⟩ := List.getElem_of_mem hx
      have := all i hi
      simp only [okS, ats hi, Bool.and_eq_true, decide_eq_true_eq] at this
      exact ⟨⟨this.1.1.1, this.1.1.2⟩, this.1.2⟩
    · have adj : ∀ i (hi : i + 1 < d.sets.length), ltS d.sets[i] d.sets[i + 1] := fun i hi => by
        have := all (i + 1) hi
        simp only [okS, ats hi, Bool.and_eq_true, Bool.or_eq_true, decide_eq_true_eq, Nat.add_sub_cancel, ats (show i < d.sets.length by omega)] at this
        exact this.2.resolve_left (by omega)
      rw [List.pairwise_iff_getElem]
      intro i j hi hj hij
      obtain ⟨k, rfl⟩ : ∃ k, j = i + 1 + k := ⟨j - (i + 1), by omega⟩
      induction k with
      | zero => exact adj i hj
      | succ k ih =>
        have h1 := ih (by omega) (by omega)
        have h2 := adj (i + 1 + k) (by omega)
        rw [ltS_iff] at *
        have e : d.sets[i + 1 + (k + 1)] = d.sets[i + 1 + k + 1] := rfl
        rw [e]
        omega
  · rintro g ⟨i, hi, hb⟩
    have h1 := g.mem _ (List.getElem_mem hi)
    have : okS d i = true := by
      simp only [okS, ats hi, Bool.and_eq_true, Bool.or_eq_true, decide_eq_true_eq]
      refine ⟨⟨⟨h1.1.1, h1.1.2⟩, h1.2⟩, ?_⟩
      by_cases h0 : i = 0
      · exact .inl h0
      · rw [ats (show i - 1 < d.sets.length by omega)]
        exact .inr (List.pairwise_iff_getElem.1 g.up (i - 1) i (by omega) hi (by omega))
    rw [this] at hb; cases hb
structure OkD (d : Dl) : Prop where
  ne : 0 < d.A.length ∧ 0 < d.B.length
  once : onceF d.A = true ∧ onceF d.B = true
  big : (d.A.length ≤ 40 ∧ d.B.length ≤ 40) ∧ d.na ≤ 400 ∧ d.nb ≤ 400
  cols : Good d.cols d.A.length d.B.length
  rows : Good d.rows d.na d.nb
  lines : mtF (isL d.A.length) d.dels (goneR d) = true ∧ mtF (isL d.B.length) d.inss (newR' d) = true
  spots : mtF isS d.lost (crF (wiF (goneR d) d.na.toNat) (goneC d)) = true ∧ mtF isS d.gain (crF (wiF (newR' d) d.nb.toNat) (newC d)) = true
  sets : OkS d
  short : ¬ ∃ s ∈ txF d, 1000 < s.length
theorem chkD_zero (d : Dl) : chkD d = 0 ↔ OkD d := by
  unfold chkD
  constructor
  · intro h
    by_cases p1 : 0 < d.A.length ∧ 0 < d.B.length
    · rw [if_neg (fun h => h p1)] at h
      by_cases p2 : onceF d.A = true ∧ onceF d.B = true
      · rw [if_neg (fun h => h p2)] at h
        by_cases p3 : (d.A.length ≤ 40 ∧ d.B.length ≤ 40) ∧ d.na ≤ 400 ∧ d.nb ≤ 400
        · rw [if_neg (fun h => h p3)] at h
          by_cases p4 : chk d.cols d.A.length d.B.length = 0
          · rw [if_neg (fun h => h p4)] at h
            by_cases p5 : chk d.rows d.na d.nb = 0
            · rw [if_neg (fun h => h p5)] at h
              by_cases p6 : mtF (isL d.A.length) d.dels (goneR d) = true ∧ mtF (isL d.B.length) d.inss (newR' d) = true
              · rw [if_neg (fun h => h p6)] at h
                by_cases p7 : mtF isS d.lost (crF (wiF (goneR d) d.na.toNat) (goneC d)) = true ∧ mtF isS d.gain (crF (wiF (newR' d) d.nb.toNat) (newC d)) = true
                · rw [if_neg (fun h => h p7)] at h
                  by_cases p8 : ∃ i, i < d.sets.length ∧ okS d i = false
                  · rw [if_pos p8] at h; omega
                  · rw [if_neg p8] at h
                    by_cases p9 : ∃ s ∈ txF d, 1000 < s.length
                    · rw [if_pos p9] at h; omega
                    · exact ⟨p1, p2, p3, (chk_zero _ _ _).1 p4, (chk_zero _ _ _).1 p5, p6, p7, (okS_iff d).1 p8, p9⟩
                · rw [if_pos p7] at h; omega
              · rw [if_pos p6] at h; omega
            · rw [if_pos p5] at h; exact absurd h p5
          · rw [if_pos p4] at h; exact absurd h p4
        · rw [if_pos p3] at h; omega
      · rw [if_pos p2] at h; omega
    · rw [if_pos p1] at h; omega
  · rintro ⟨p1, p2, p3, p4, p5, p6, p7, p8, p9⟩
    rw [if_neg (fun h => h p1), if_neg (fun h => h p2), if_neg (fun h => h p3), if_neg (fun h => h ((chk_zero _ _ _).2 p4)), if_neg (fun h => h ((chk_zero _ _ _).2 p5)), if_neg (fun h => h p6), if_neg (fun h => h p7), if_neg ((okS_iff d).2 p8), if_neg p9]
theorem perm_turnSs (l : List St6) : (turnSs l).Perm (l.map turnS) := List.mergeSort_perm _ _
theorem mem_turnSs {l : List St6} {x : St6} : x ∈ turnSs l ↔ turnS x ∈ l := by
  rw [(perm_turnSs l).mem_iff, List.mem_map]
  constructor
  · rintro ⟨q, hq, rfl⟩; exact hq
  · intro h; exact ⟨_, h, rfl⟩
theorem OkD.keys {d : Dl} (g : OkD d) : (d.sets.map keyS).Nodup ∧ (d.sets.map keyA).Nodup := by
  constructor
  · rw [List.nodup_iff_pairwise_ne, List.pairwise_map]
    refine g.sets.up.imp fun h e => ?_
    rw [ltS_iff] at h
    simp only [keyS, Prod.mk.injEq] at e
    omega
  · rw [List.nodup_iff_pairwise_ne, List.pairwise_map]
    refine List.Pairwise.imp_of_mem (R := ltS) (fun {x y} hx hy h e => ?_) g.sets.up
    rw [ltS_iff] at h
    simp only [keyA, Prod.mk.injEq] at e
    have h1 := g.sets.mem x hx
    have h2 := g.sets.mem y hy
    have e1 := congrArg Prod.snd (inj_at g.rows.na h1.1.1 h2.1.1 e.1)
    have e2 := congrArg Prod.snd (inj_at g.cols.na h1.1.2 h2.1.2 e.2)
    simp only at e1 e2
    omega
theorem OkD.tsets {d : Dl} (g : OkD d) : OkS (turnD d) := by
  refine ⟨fun x hx => ?_, ?_⟩
  · have h := g.sets.mem _ (mem_turnSs.1 hx)
    exact ⟨⟨mem_turnP.2 h.1.1, mem_turnP.2 h.1.2⟩, fun e => h.2 e.symm⟩
  · have h1 := Ps.srt_sorted pre_leJ (d.sets.map turnS)
    have h2 : ((turnSs d.sets).map keyS).Nodup := by
      have := (perm_turnSs d.sets).map keyS
      rw [List.map_map] at this
      exact this.nodup_iff.2 g.keys.2
    rw [List.nodup_iff_pairwise_ne, List.pairwise_map] at h2
    refine (List.Pairwise.and h1 h2).imp fun h => ?_
    obtain ⟨h3, h4⟩ := h
    rw [leJ_iff] at h3
    rw [ltS_iff]
    simp only [keyS, ne_eq, Prod.mk.injEq] at h4
    omega
theorem OkD.bsets {d : Dl} (g : OkD d) : turnSs (turnSs d.sets) = d.sets := by
  have p : (turnSs (turnSs d.sets)).Perm d.sets := by
    refine (perm_turnSs _).trans ?_
    have := (perm_turnSs d.sets).map turnS
    rw [List.map_map] at this
    refine this.trans ?_
    have e : d.sets.map (turnS ∘ turnS) = d.sets := by
      rw [show (turnS ∘ turnS) = id from rfl]; exact List.map_id _
    rw [e]
  refine List.Perm.eq_of_pairwise (le := fun x y => leJ x y = true) (fun a b ha hb h1 h2 => ?_) (Ps.srt_sorted pre_leJ _) (g.sets.up.imp fun h => ?_) p
  · rw [leJ_iff] at h1 h2
    refine inj_at g.keys.1 (p.mem_iff.1 ha) hb ?_
    simp only [keyS, Prod.mk.injEq]
    omega
  · rw [ltS_iff] at h; rw [leJ_iff]; omega
theorem OkD.back {d : Dl} (g : OkD d) : turnD (turnD d) = d := by
  have e1 := g.cols.back
  have e2 := g.rows.back
  have e3 := g.bsets
  cases d
  simp only [turnD] at *
  rw [e1, e2, e3]
theorem goneR_t (d : Dl) : goneR (turnD d) = newR' d := rsL_congr (fun x => (turnP_fst d.rows).mem_iff) _
theorem newR_t (d : Dl) : newR' (turnD d) = goneR d := rsL_congr (fun x => (turnP_snd d.rows).mem_iff) _
theorem goneC_t (d : Dl) : goneC (turnD d) = newC d := rsL_congr (fun x => (turnP_fst d.cols).mem_iff) _
theorem newC_t (d : Dl) : newC (turnD d) = goneC d := rsL_congr (fun x => (turnP_snd d.cols).mem_iff) _
theorem tx_turn {d : Dl} {s : Str} (h : s ∈ txF (turnD d)) : s ∈ txF d := by
  have e1 : ∀ a b : List Ln, txL (a ++ b) = txL a ++ txL b := fun a b => by unfold txL; simp
  have e2 : ∀ a b : List Sp, txP (a ++ b) = txP a ++ txP b := fun a b => by unfold txP; simp
  have e3 : s ∈ txS (turnSs d.sets) → s ∈ txS d.sets := fun h => by
    obtain ⟨x, hx, hs⟩ := List.mem_flatMap.1 h
    refine List.mem_flatMap.2 ⟨_, mem_turnSs.1 hx, ?_⟩
    simp only [turnS, List.mem_cons, List.not_mem_nil, or_false] at hs ⊢
    exact hs.symm
  unfold txF at h ⊢
  simp only [turnD] at h
  rw [e1, e2] at h ⊢
  simp only [List.mem_append] at h ⊢
  rcases h with (((h | h) | h | h) | h) | h | h
  · exact .inl (.inl (.inl (.inr h)))
  · exact .inl (.inl (.inl (.inl h)))
  · exact .inl (.inl (.inr (.inr h)))
  · exact .inl (.inl (.inr (.inl h)))
  · exact .inl (.inr (e3 h))
  · exact .inr (.inr h)
  · exact .inr (.inl h)
theorem OkD.turn {d : Dl} (g : OkD d) : OkD (turnD d) := by
  refine ⟨⟨g.ne.2, g.ne.1⟩, ⟨g.once.2, g.once.1⟩, ⟨⟨g.big.1.2, g.big.1.1⟩, g.big.2.2, g.big.2.1⟩, g.cols.turn, g.rows.turn, ?_, ?_, g.tsets, fun ⟨s, hs, h⟩ => g.short ⟨s, tx_turn hs, h⟩⟩
  · rw [goneR_t, newR_t]; exact ⟨g.lines.2, g.lines.1⟩
  · rw [goneR_t, newR_t, goneC_t, newC_t]; exact ⟨g.spots.2, g.spots.1⟩
theorem own_iff (l : List (Int × Int)) (n : Int) : ownF l n = true ↔ (l.length : Int) = n ∧ l = (List.range l.length).map fun i : Nat => ((i : Int), (i : Int)) := by
  unfold ownF
  rw [Bool.and_eq_true, decide_eq_true_eq, List.all_eq_true]
  constructor
  · rintro ⟨h1, h2⟩
    refine ⟨h2, List.ext_getElem (by simp) fun i hi _ => ?_⟩
    have := h1 i (List.mem_range.2 hi)
    rw [decide_eq_true_eq, List.getD_eq_getElem?_getD, List.getElem?_eq_getElem hi] at this
    simpa using this
  · rintro ⟨h1, h2⟩
    refine ⟨fun j hj => ?_, h1⟩
    have hj := List.mem_range.1 hj
    rw [decide_eq_true_eq, List.getD_eq_getElem?_getD, List.getElem?_eq_getElem hj, Option.getD_some]
    have := List.getElem_of_eq h2 hj
    rw [this]; simp
theorem own_turn {l : List (Int × Int)} {n : Int} (h : ownF l n = true) : turnP l = l := by
  obtain ⟨_, h⟩ := (own_iff l n).1 h
  have e : l.map sw = l := by rw [h, List.map_map]; rfl
  unfold turnP
  rw [e]
  refine Ps.srt_id ?_
  rw [h, List.pairwise_map]
  refine (List.pairwise_lt_range).imp fun h => ?_
  simp only [leB, decide_eq_true_eq]; omega
theorem own_same {l : List (Int × Int)} {na nb n : Int} (g : Good l na nb) : ownF (turnP l) n = ownF l n := by
  cases h : ownF l n with
  | true => rw [own_turn h]; exact h
  | false =>
    cases h2 : ownF (turnP l) n with
    | false => rfl
    | true =>
      have := own_turn h2
      rw [g.back] at this
      rw [← this] at h2
      rw [h2] at h; cases h
end Go.Proofs.YtknkjakppikjeaaGreat

set_option linter.unusedSimpArgs false
namespace Go.Proofs.YtknkjakppikjeaaGreat
open Go.Tn
set_option maxHeartbeats 8000000
set_option maxRecDepth 100000
abbrev OR' := List (Option (List Str))
def eO (x : Option (List Str)) : List D := match x with | none => [.nil] | some r => [.sl 1 (r.map eS)]
def setO {β : Type} (f : β → Int) (v : β → List Str) (m : OR') (l : List β) : OR' := l.foldl (fun m x => m.set (f x).toNat (some (v x))) m
def insO (m : OR') (l : List Ln) : OR' := setO (fun x : Ln => x.1) (fun x => x.2) m l
def rowO (g : Int → Int → List Str) (m : OR') (l : List (Int × Int)) : OR' := setO (fun p : Int × Int => p.2) (fun p => g p.1 p.2) m l
def nrow (t : Tab) (d : Dl) (i k : Int) : List Str := rowF t (toldM d) (fromM d.cols) d.B.length i k
def finO (t : Tab) (d : Dl) : OR' := rowO (nrow t d) (insO (List.replicate d.nb.toNat none) d.inss) d.rows
def resT (t : Tab) (d : Dl) : Tab := (d.B, (finO t d).map fun x => x.getD [])
theorem setO_len {β : Type} {f : β → Int} {v : β → List Str} : ∀ {l : List β} {m : OR'}, (setO f v m l).length = m.length
  | [], _ => rfl
  | x :: l, m => by
    have := setO_len (f := f) (v := v) (l := l) (m := m.set (f x).toNat (some (v x)))
    rw [List.length_set] at this
    exact this
theorem setO_take {β : Type} {f : β → Int} {v : β → List Str} {m : OR'} {l : List β} {i : Nat} {dd : β} (h : i < l.length) : setO f v m (l.take (i + 1)) = (setO f v m (l.take i)).set (f (l.getD i dd)).toNat (some (v (l.getD i dd))) := by
  have e : l.take (i + 1) = l.take i ++ [l.getD i dd] := by
    rw [List.take_add_one, List.getElem?_eq_getElem h, List.getD_eq_getElem?_getD, List.getElem?_eq_getElem h]; rfl
  unfold setO
  rw [e, List.foldl_append]; rfl
theorem setO_some {β : Type} {f : β → Int} {v : β → List Str} {k : Nat} : ∀ {l : List β} {m : OR'}, k < m.length → ((∃ x ∈ l, (f x).toNat = k) ∨ ∃ r, m[k]? = some (some r)) → ∃ r, (setO f v m l)[k]? = some (some r)
  | [], m, _, h => by
    rcases h with ⟨x, hx, _⟩ | h
    · simp at hx
    · exact h
  | x :: l, m, hk, h => by
    have e : setO f v m (x :: l) = setO f v (m.set (f x).toNat (some (v x))) l := rfl
    rw [e]
    refine setO_some (by rw [List.length_set]; exact hk) ?_
    by_cases e1 : (f x).toNat = k
    · exact .inr ⟨v x, by rw [e1, List.getElem?_set_self hk]⟩
    · rcases h with ⟨y, hy, he⟩ | ⟨r, hr⟩
      · rcases List.mem_cons.1 hy with rfl | hy
        · exact absurd he e1
        · exact .inl ⟨y, hy, he⟩
      · exact .inr ⟨r, by rw [List.getElem?_set_ne e1]; exact hr⟩
theorem eO_set (m : OR') (i : Nat) (r : List Str) : (m.map eO).set i [.sl 1 (r.map eS)] = (m.set i (some r)).map eO := by rw [List.map_set]; rfl
theorem eO_drop {m : OR'} {k : Nat} (h : k < m.length) : List.drop 1 ((m.map eO).getD k []) = [] := by
  rw [List.getD_eq_getElem?_getD, List.getElem?_map, List.getElem?_eq_getElem h]
  cases m[k] <;> rfl
theorem mtF_mem {α β : Type} {q : α → β → Bool} : ∀ {l : List α} {r : List β}, mtF q l r = true → (∀ x ∈ l, ∃ y ∈ r, q x y = true) ∧ ∀ y ∈ r, ∃ x ∈ l, q x y = true
  | [], [], _ => by simp
  | x :: l, y :: r, h => by
    simp only [mtF, Bool.and_eq_true] at h
    obtain ⟨h1, h2⟩ := mtF_mem h.2
    refine ⟨fun a ha => ?_, fun b hb => ?_⟩
    · rcases List.mem_cons.1 ha with rfl | ha
      · exact ⟨y, by simp, h.1⟩
      · obtain ⟨z, hz, hq⟩ := h1 a ha
        exact ⟨z, by simp [hz], hq⟩
    · rcases List.mem_cons.1 hb with rfl | hb
      · exact ⟨x, by simp, h.1⟩
      · obtain ⟨z, hz, hq⟩ := h2 b hb
        exact ⟨z, by simp [hz], hq⟩
theorem OkD.ins {d : Dl} (g : OkD d) {x : Ln} (hx : x ∈ d.inss) : 0 ≤ x.1 ∧ x.1.toNat < d.nb.toNat := by
  obtain ⟨y, hy, hq⟩ := (mtF_mem g.lines.2).1 x hx
  simp only [isL, decide_eq_true_eq] at hq
  have := (mem_rsL.1 hy).1
  omega
theorem OkD.row {d : Dl} (g : OkD d) {p : Int × Int} (hp : p ∈ d.rows) : 0 ≤ p.2 ∧ p.2.toNat < d.nb.toNat := by
  have := (g.rows.inn p hp).2.2
  have := g.rows.b0
  omega
theorem OkD.full {d : Dl} (g : OkD d) (t : Tab) : (finO t d).map eO = (resT t d).2.map eR := by
  have hl : (finO t d).length = d.nb.toNat := by unfold finO rowO insO; rw [setO_len, setO_len, List.length_replicate]
  refine List.ext_getElem (by simp [resT]) fun k hk _ => ?_
  have hk2 : k < d.nb.toNat := by rw [List.length_map] at hk; omega
  have hs : ∃ r, (finO t d)[k]? = some (some r) := by
    unfold finO rowO
    refine setO_some (by unfold insO; rw [setO_len, List.length_replicate]; exact hk2) ?_
    by_cases hm : (k : Int) ∈ d.rows.map (·.2)
    · obtain ⟨p, hp, e⟩ := List.mem_map.1 hm
      exact .inl ⟨p, hp, by omega⟩
    · refine .inr ?_
      unfold insO
      refine setO_some (by rw [List.length_replicate]; exact hk2) (.inl ?_)
      have hin : (k : Int) ∈ newR' d := mem_rsL.2 ⟨⟨by omega, by omega⟩, hm⟩
      obtain ⟨x, hx, hq⟩ := (mtF_mem g.lines.2).2 _ hin
      simp only [isL, decide_eq_true_eq] at hq
      exact ⟨x, hx, by omega⟩
  obtain ⟨r, hr⟩ := hs
  have hkf : k < (finO t d).length := by omega
  rw [List.getElem?_eq_getElem hkf, Option.some.injEq] at hr
  simp only [resT, List.getElem_map, hr]
  rfl
end Go.Proofs.YtknkjakppikjeaaGreat

set_option linter.unusedSimpArgs false
namespace Go.Proofs.YtknkjakppikjeaaGreat
open Go.Tn
set_option maxHeartbeats 8000000
set_option maxRecDepth 100000
/- apply.Apply -/
def tE : D := .agg [.nil, .nil]
def apOut (t : Tab) (d : Dl) : D := if wrongF t d ≠ 0 then .tup [tE, .int .i64 (wrongF t d)] else if tchk (resT t d) ≠ 0 then .tup [tE, .int .i64 (tchk (resT t d))] else .tup [.agg (eTb (resT t d)), .int .i64 0]
def c_wr (t : Tab) (d : Dl) (caps args : List D) : Prop × Out := match caps, args with | [], [x, y] => (x = .agg (eTb t) ∧ y = .agg (eDl d), .ret (.int .i64 (wrongF t d))) | _, _ => (False, .ret .any)
theorem st_wr {t : Tab} {d : Dl} (h : okTD t d) : StC Tryz.prog 21 (c_wr t d) := by
  intro caps args; unfold c_wr; split
  · rintro ⟨rfl, rfl⟩; exact fc_wrong t d h
  · exact fun h => h.elim
def c_made (t : Tab) (d : Dl) (caps args : List D) : Prop × Out := match caps, args with | [], [x, y] => (x = .agg (eTb t) ∧ y = .agg (eDl d), .ret (.agg (eMk t d))) | _, _ => (False, .ret .any)
theorem st_made {t : Tab} {d : Dl} (h : okTD t d) : StC Tryz.prog 22 (c_made t d) := by
  intro caps args; unfold c_made; split
  · rintro ⟨rfl, rfl⟩; exact fc_made t d h.dl
  · exact fun h => h.elim
def c_row (t : Tab) (d : Dl) (caps args : List D) : Prop × Out := match caps, args with | [], [x, .int .i64 i, .int .i64 k] => (x = .agg (eMk t d), .own 9 1 ((nrow t d i k).map eS)) | _, _ => (False, .ret .any)
theorem st_row {t : Tab} {d : Dl} (h : okTD t d) : StC Tryz.prog 24 (c_row t d) := by
  intro caps args; unfold c_row; split
  · rintro rfl; exact fc_row t d h.dl _ _
  · exact fun h => h.elim
theorem tfTable : TyFact Tryz.prog 25 ⟨.struct, [(.slice none 0 0), (.slice none 0 0)], [(0, 1, false), (1, 1, false)], 0, 0, false, 0, 48⟩ := by
  have hy : tyOf Tryz.prog 25 = ⟨.struct, [(.slice none 0 0), (.slice none 0 0)], [(0, 1, false), (1, 1, false)], 0, 0, false, 0, 48⟩ := by kernel_rfl
  have h := tyOf_fact (P := Tryz.prog) (t := 25) (by rw [hy]; intro h; cases h)
  rwa [hy] at h
def tree5 : Tr := (.node (.cons 0 (.node (.cons 1 (.node (.cons 2 (.node (.cons 3 (.node (.cons 4 (.node (.cons 5 (.node (.cons 6 (.node (.cons 7 (.node (.cons 8 .leaf .nil)) .nil)) (.cons 7 (.node (.cons 6 (.node (.cons 8 .leaf .nil)) .nil)) .nil))) (.cons 7 (.node (.cons 5 (.node (.cons 6 (.node (.cons 8 .leaf .nil)) .nil)) .nil)) .nil))) (.cons 7 (.node (.cons 4 (.node (.cons 5 (.node (.cons 6 (.node (.cons 8 .leaf .nil)) .nil)) .nil)) .nil)) .nil))) (.cons 7 (.node (.cons 3 (.node (.cons 4 (.node (.cons 5 (.node (.cons 6 (.node (.cons 8 .leaf .nil)) .nil)) .nil)) .nil)) .nil)) .nil))) (.cons 3 (.node (.cons 2 (.node (.cons 4 (.node (.cons 5 (.node (.cons 6 (.node (.cons 7 (.node (.cons 8 .leaf .nil)) .nil)) (.cons 7 (.node (.cons 6 (.node (.cons 8 .leaf .nil)) .nil)) .nil))) (.cons 7 (.node (.cons 5 (.node (.cons 6 (.node (.cons 8 .leaf .nil)) .nil)) .nil)) .nil))) (.cons 7 (.node (.cons 4 (.node (.cons 5 (.node (.cons 6 (.node (.cons 8 .leaf .nil)) .nil)) .nil)) .nil)) .nil))) (.cons 4 (.node (.cons 2 (.node (.cons 5 (.node (.cons 6 (.node (.cons 7 (.node (.cons 8 .leaf .nil)) .nil)) (.cons 7 (.node (.cons 6 (.node (.cons 8 .leaf .nil)) .nil)) .nil))) (.cons 7 (.node (.cons 5 (.node (.cons 6 (.node (.cons 8 .leaf .nil)) .nil)) .nil)) .nil))) (.cons 5 (.node (.cons 2 (.node (.cons 6 (.node (.cons 7 (.node (.cons 8 .leaf .nil)) .nil)) (.cons 7 (.node (.cons 6 (.node (.cons 8 .leaf .nil)) .nil)) .nil))) (.cons 7 (.node (.cons 2 (.node (.cons 6 (.node (.cons 8 .leaf .nil)) .nil)) .nil)) .nil))) (.cons 7 (.node (.cons 2 (.node (.cons 5 (.node (.cons 6 (.node (.cons 8 .leaf .nil)) .nil)) .nil)) (.cons 5 (.node (.cons 2 (.node (.cons 6 (.node (.cons 8 .leaf .nil)) .nil)) .nil)) .nil))) .nil)))) (.cons 7 (.node (.cons 2 (.node (.cons 4 (.node (.cons 5 (.node (.cons 6 (.node (.cons 8 .leaf .nil)) .nil)) .nil)) .nil)) (.cons 4 (.node (.cons 2 (.node (.cons 5 (.node (.cons 6 (.node (.cons 8 .leaf .nil)) .nil)) .nil)) (.cons 5 (.node (.cons 2 (.node (.cons 6 (.node (.cons 8 .leaf .nil)) .nil)) .nil)) .nil))) .nil))) .nil)))) (.cons 7 (.node (.cons 2 (.node (.cons 3 (.node (.cons 4 (.node (.cons 5 (.node (.cons 6 (.node (.cons 8 .leaf .nil)) .nil)) .nil)) .nil)) .nil)) (.cons 3 (.node (.cons 2 (.node (.cons 4 (.node (.cons 5 (.node (.cons 6 (.node (.cons 8 .leaf .nil)) .nil)) .nil)) .nil)) (.cons 4 (.node (.cons 2 (.node (.cons 5 (.node (.cons 6 (.node (.cons 8 .leaf .nil)) .nil)) .nil)) (.cons 5 (.node (.cons 2 (.node (.cons 6 (.node (.cons 8 .leaf .nil)) .nil)) .nil)) .nil))) .nil))) .nil))) .nil)))) (.cons 3 (.node (.cons 1 (.node (.cons 2 (.node (.cons 4 (.node (.cons 5 (.node (.cons 6 (.node (.cons 7 (.node (.cons 8 .leaf .nil)) .nil)) (.cons 7 (.node (.cons 6 (.node (.cons 8 .leaf .nil)) .nil)) .nil))) (.cons 7 (.node (.cons 5 (.node (.cons 6 (.node (.cons 8 .leaf .nil)) .nil)) .nil)) .nil))) (.cons 7 (.node (.cons 4 (.node (.cons 5 (.node (.cons 6 (.node (.cons 8 .leaf .nil)) .nil)) .nil)) .nil)) .nil))) (.cons 4 (.node (.cons 2 (.node (.cons 5 (.node (.cons 6 (.node (.cons 7 (.node (.cons 8 .leaf .nil)) .nil)) (.cons 7 (.node (.cons 6 (.node (.cons 8 .leaf .nil)) .nil)) .nil))) (.cons 7 (.node (.cons 5 (.node (.cons 6 (.node (.cons 8 .leaf .nil)) .nil)) .nil)) .nil))) (.cons 5 (.node (.cons 2 (.node (.cons 6 (.node (.cons 7 (.node (.cons 8 .leaf .nil)) .nil)) (.cons 7 (.node (.cons 6 (.node (.cons 8 .leaf .nil)) .nil)) .nil))) (.cons 7 (.node (.cons 2 (.node (.cons 6 (.node (.cons 8 .leaf .nil)) .nil)) .nil)) .nil))) (.cons 7 (.node (.cons 2 (.node (.cons 5 (.node (.cons 6 (.node (.cons 8 .leaf .nil)) .nil)) .nil)) (.cons 5 (.node (.cons 2 (.node (.cons 6 (.node (.cons 8 .leaf .nil)) .nil)) .nil)) .nil))) .nil)))) (.cons 7 (.node (.cons 2 (.node (.cons 4 (.node (.cons 5 (.node (.cons 6 (.node (.cons 8 .leaf .nil)) .nil)) .nil)) .nil)) (.cons 4 (.node (.cons 2 (.node (.cons 5 (.node (.cons 6 (.node (.cons 8 .leaf .nil)) .nil)) .nil)) (.cons 5 (.node (.cons 2 (.node (.cons 6 (.node (.cons 8 .leaf .nil)) .nil)) .nil)) .nil))) .nil))) .nil)))) (.cons 4 (.node (.cons 1 (.node (.cons 2 (.node (.cons 5 (.node (.cons 6 (.node (.cons 7 (.node (.cons 8 .leaf .nil)) .nil)) (.cons 7 (.node (.cons 6 (.node (.cons 8 .leaf .nil)) .nil)) .nil))) (.cons 7 (.node (.cons 5 (.node (.cons 6 (.node (.cons 8 .leaf .nil)) .nil)) .nil)) .nil))) (.cons 5 (.node (.cons 2 (.node (.cons 6 (.node (.cons 7 (.node (.cons 8 .leaf .nil)) .nil)) (.cons 7 (.node (.cons 6 (.node (.cons 8 .leaf .nil)) .nil)) .nil))) (.cons 7 (.node (.cons 2 (.node (.cons 6 (.node (.cons 8 .leaf .nil)) .nil)) .nil)) .nil))) (.cons 7 (.node (.cons 2 (.node (.cons 5 (.node (.cons 6 (.node (.cons 8 .leaf .nil)) .nil)) .nil)) (.cons 5 (.node (.cons 2 (.node (.cons 6 (.node (.cons 8 .leaf .nil)) .nil)) .nil)) .nil))) .nil)))) (.cons 5 (.node (.cons 1 (.node (.cons 2 (.node (.cons 6 (.node (.cons 7 (.node (.cons 8 .leaf .nil)) .nil)) (.cons 7 (.node (.cons 6 (.node (.cons 8 .leaf .nil)) .nil)) .nil))) (.cons 7 (.node (.cons 2 (.node (.cons 6 (.node (.cons 8 .leaf .nil)) .nil)) .nil)) .nil))) (.cons 7 (.node (.cons 1 (.node (.cons 2 (.node (.cons 6 (.node (.cons 8 .leaf .nil)) .nil)) .nil)) .nil)) .nil))) (.cons 7 (.node (.cons 1 (.node (.cons 2 (.node (.cons 5 (.node (.cons 6 (.node (.cons 8 .leaf .nil)) .nil)) .nil)) (.cons 5 (.node (.cons 2 (.node (.cons 6 (.node (.cons 8 .leaf .nil)) .nil)) .nil)) .nil))) (.cons 5 (.node (.cons 1 (.node (.cons 2 (.node (.cons 6 (.node (.cons 8 .leaf .nil)) .nil)) .nil)) .nil)) .nil))) .nil)))) (.cons 7 (.node (.cons 1 (.node (.cons 2 (.node (.cons 4 (.node (.cons 5 (.node (.cons 6 (.node (.cons 8 .leaf .nil)) .nil)) .nil)) .nil)) (.cons 4 (.node (.cons 2 (.node (.cons 5 (.node (.cons 6 (.node (.cons 8 .leaf .nil)) .nil)) .nil)) (.cons 5 (.node (.cons 2 (.node (.cons 6 (.node (.cons 8 .leaf .nil)) .nil)) .nil)) .nil))) .nil))) (.cons 4 (.node (.cons 1 (.node (.cons 2 (.node (.cons 5 (.node (.cons 6 (.node (.cons 8 .leaf .nil)) .nil)) .nil)) (.cons 5 (.node (.cons 2 (.node (.cons 6 (.node (.cons 8 .leaf .nil)) .nil)) .nil)) .nil))) (.cons 5 (.node (.cons 1 (.node (.cons 2 (.node (.cons 6 (.node (.cons 8 .leaf .nil)) .nil)) .nil)) .nil)) .nil))) .nil))) .nil)))) (.cons 7 (.node (.cons 1 (.node (.cons 2 (.node (.cons 3 (.node (.cons 4 (.node (.cons 5 (.node (.cons 6 (.node (.cons 8 .leaf .nil)) .nil)) .nil)) .nil)) .nil)) (.cons 3 (.node (.cons 2 (.node (.cons 4 (.node (.cons 5 (.node (.cons 6 (.node (.cons 8 .leaf .nil)) .nil)) .nil)) .nil)) (.cons 4 (.node (.cons 2 (.node (.cons 5 (.node (.cons 6 (.node (.cons 8 .leaf .nil)) .nil)) .nil)) (.cons 5 (.node (.cons 2 (.node (.cons 6 (.node (.cons 8 .leaf .nil)) .nil)) .nil)) .nil))) .nil))) .nil))) (.cons 3 (.node (.cons 1 (.node (.cons 2 (.node (.cons 4 (.node (.cons 5 (.node (.cons 6 (.node (.cons 8 .leaf .nil)) .nil)) .nil)) .nil)) (.cons 4 (.node (.cons 2 (.node (.cons 5 (.node (.cons 6 (.node (.cons 8 .leaf .nil)) .nil)) .nil)) (.cons 5 (.node (.cons 2 (.node (.cons 6 (.node (.cons 8 .leaf .nil)) .nil)) .nil)) .nil))) .nil))) (.cons 4 (.node (.cons 1 (.node (.cons 2 (.node (.cons 5 (.node (.cons 6 (.node (.cons 8 .leaf .nil)) .nil)) .nil)) (.cons 5 (.node (.cons 2 (.node (.cons 6 (.node (.cons 8 .leaf .nil)) .nil)) .nil)) .nil))) (.cons 5 (.node (.cons 1 (.node (.cons 2 (.node (.cons 6 (.node (.cons 8 .leaf .nil)) .nil)) .nil)) .nil)) .nil))) .nil))) .nil))) .nil)))) (.cons 3 (.node (.cons 0 (.node (.cons 1 (.node (.cons 2 (.node (.cons 4 (.node (.cons 5 (.node (.cons 6 (.node (.cons 7 (.node (.cons 8 .leaf .nil)) .nil)) (.cons 7 (.node (.cons 6 (.node (.cons 8 .leaf .nil)) .nil)) .nil))) (.cons 7 (.node (.cons 5 (.node (.cons 6 (.node (.cons 8 .leaf .nil)) .nil)) .nil)) .nil))) (.cons 7 (.node (.cons 4 (.node (.cons 5 (.node (.cons 6 (.node (.cons 8 .leaf .nil)) .nil)) .nil)) .nil)) .nil))) (.cons 4 (.node (.cons 2 (.node (.cons 5 (.node (.cons 6 (.node (.cons 7 (.node (.cons 8 .leaf .nil)) .nil)) (.cons 7 (.node (.cons 6 (.node (.cons 8 .leaf .nil)) .nil)) .nil))) (.cons 7 (.node (.cons 5 (.node (.cons 6 (.node (.cons 8 .leaf .nil)) .nil)) .nil)) .nil))) (.cons 5 (.node (.cons 2 (.node (.cons 6 (.node (.cons 7 (.node (.cons 8 .leaf .nil)) .nil)) (.cons 7 (.node (.cons 6 (.node (.cons 8 .leaf .nil)) .nil)) .nil))) (.cons 7 (.node (.cons 2 (.node (.cons 6 (.node (.cons 8 .leaf .nil)) .nil)) .nil)) .nil))) (.cons 7 (.node (.cons 2 (.node (.cons 5 (.node (.cons 6 (.node (.cons 8 .leaf .nil)) .nil)) .nil)) (.cons 5 (.node (.cons 2 (.node (.cons 6 (.node (.cons 8 .leaf .nil)) .nil)) .nil)) .nil))) .nil)))) (.cons 7 (.node (.cons 2 (.node (.cons 4 (.node (.cons 5 (.node (.cons 6 (.node (.cons 8 .leaf .nil)) .nil)) .nil)) .nil)) (.cons 4 (.node (.cons 2 (.node (.cons 5 (.node (.cons 6 (.node (.cons 8 .leaf .nil)) .nil)) .nil)) (.cons 5 (.node (.cons 2 (.node (.cons 6 (.node (.cons 8 .leaf .nil)) .nil)) .nil)) .nil))) .nil))) .nil)))) (.cons 4 (.node (.cons 1 (.node (.cons 2 (.node (.cons 5 (.node (.cons 6 (.node (.cons 7 (.node (.cons 8 .leaf .nil)) .nil)) (.cons 7 (.node (.cons 6 (.node (.cons 8 .leaf .nil)) .nil)) .nil))) (.cons 7 (.node (.cons 5 (.node (.cons 6 (.node (.cons 8 .leaf .nil)) .nil)) .nil)) .nil))) (.cons 5 (.node (.cons 2 (.node (.cons 6 (.node (.cons 7 (.node (.cons 8 .leaf .nil)) .nil)) (.cons 7 (.node (.cons 6 (.node (.cons 8 .leaf .nil)) .nil)) .nil))) (.cons 7 (.node (.cons 2 (.node (.cons 6 (.node (.cons 8 .leaf .nil)) .nil)) .nil)) .nil))) (.cons 7 (.node (.cons 2 (.node (.cons 5 (.node (.cons 6 (.node (.cons 8 .leaf .nil)) .nil)) .nil)) (.cons 5 (.node (.cons 2 (.node (.cons 6 (.node (.cons 8 .leaf .nil)) .nil)) .nil)) .nil))) .nil)))) (.cons 5 (.node (.cons 1 (.node (.cons 2 (.node (.cons 6 (.node (.cons 7 (.node (.cons 8 .leaf .nil)) .nil)) (.cons 7 (.node (.cons 6 (.node (.cons 8 .leaf .nil)) .nil)) .nil))) (.cons 7 (.node (.cons 2 (.node (.cons 6 (.node (.cons 8 .leaf .nil)) .nil)) .nil)) .nil))) (.cons 7 (.node (.cons 1 (.node (.cons 2 (.node (.cons 6 (.node (.cons 8 .leaf .nil)) .nil)) .nil)) .nil)) .nil))) (.cons 7 (.node (.cons 1 (.node (.cons 2 (.node (.cons 5 (.node (.cons 6 (.node (.cons 8 .leaf .nil)) .nil)) .nil)) (.cons 5 (.node (.cons 2 (.node (.cons 6 (.node (.cons 8 .leaf .nil)) .nil)) .nil)) .nil))) (.cons 5 (.node (.cons 1 (.node (.cons 2 (.node (.cons 6 (.node (.cons 8 .leaf .nil)) .nil)) .nil)) .nil)) .nil))) .nil)))) (.cons 7 (.node (.cons 1 (.node (.cons 2 (.node (.cons 4 (.node (.cons 5 (.node (.cons 6 (.node (.cons 8 .leaf .nil)) .nil)) .nil)) .nil)) (.cons 4 (.node (.cons 2 (.node (.cons 5 (.node (.cons 6 (.node (.cons 8 .leaf .nil)) .nil)) .nil)) (.cons 5 (.node (.cons 2 (.node (.cons 6 (.node (.cons 8 .leaf .nil)) .nil)) .nil)) .nil))) .nil))) (.cons 4 (.node (.cons 1 (.node (.cons 2 (.node (.cons 5 (.node (.cons 6 (.node (.cons 8 .leaf .nil)) .nil)) .nil)) (.cons 5 (.node (.cons 2 (.node (.cons 6 (.node (.cons 8 .leaf .nil)) .nil)) .nil)) .nil))) (.cons 5 (.node (.cons 1 (.node (.cons 2 (.node (.cons 6 (.node (.cons 8 .leaf .nil)) .nil)) .nil)) .nil)) .nil))) .nil))) .nil)))) (.cons 4 (.node (.cons 0 (.node (.cons 1 (.node (.cons 2 (.node (.cons 5 (.node (.cons 6 (.node (.cons 7 (.node (.cons 8 .leaf .nil)) .nil)) (.cons 7 (.node (.cons 6 (.node (.cons 8 .leaf .nil)) .nil)) .nil))) (.cons 7 (.node (.cons 5 (.node (.cons 6 (.node (.cons 8 .leaf .nil)) .nil)) .nil)) .nil))) (.cons 5 (.node (.cons 2 (.node (.cons 6 (.node (.cons 7 (.node (.cons 8 .leaf .nil)) .nil)) (.cons 7 (.node (.cons 6 (.node (.cons 8 .leaf .nil)) .nil)) .nil))) (.cons 7 (.node (.cons 2 (.node (.cons 6 (.node (.cons 8 .leaf .nil)) .nil)) .nil)) .nil))) (.cons 7 (.node (.cons 2 (.node (.cons 5 (.node (.cons 6 (.node (.cons 8 .leaf .nil)) .nil)) .nil)) (.cons 5 (.node (.cons 2 (.node (.cons 6 (.node (.cons 8 .leaf .nil)) .nil)) .nil)) .nil))) .nil)))) (.cons 5 (.node (.cons 1 (.node (.cons 2 (.node (.cons 6 (.node (.cons 7 (.node (.cons 8 .leaf .nil)) .nil)) (.cons 7 (.node (.cons 6 (.node (.cons 8 .leaf .nil)) .nil)) .nil))) (.cons 7 (.node (.cons 2 (.node (.cons 6 (.node (.cons 8 .leaf .nil)) .nil)) .nil)) .nil))) (.cons 7 (.node (.cons 1 (.node (.cons 2 (.node (.cons 6 (.node (.cons 8 .leaf .nil)) .nil)) .nil)) .nil)) .nil))) (.cons 7 (.node (.cons 1 (.node (.cons 2 (.node (.cons 5 (.node (.cons 6 (.node (.cons 8 .leaf .nil)) .nil)) .nil)) (.cons 5 (.node (.cons 2 (.node (.cons 6 (.node (.cons 8 .leaf .nil)) .nil)) .nil)) .nil))) (.cons 5 (.node (.cons 1 (.node (.cons 2 (.node (.cons 6 (.node (.cons 8 .leaf .nil)) .nil)) .nil)) .nil)) .nil))) .nil)))) (.cons 5 (.node (.cons 0 (.node (.cons 1 (.node (.cons 2 (.node (.cons 6 (.node (.cons 7 (.node (.cons 8 .leaf .nil)) .nil)) (.cons 7 (.node (.cons 6 (.node (.cons 8 .leaf .nil)) .nil)) .nil))) (.cons 7 (.node (.cons 2 (.node (.cons 6 (.node (.cons 8 .leaf .nil)) .nil)) .nil)) .nil))) (.cons 7 (.node (.cons 1 (.node (.cons 2 (.node (.cons 6 (.node (.cons 8 .leaf .nil)) .nil)) .nil)) .nil)) .nil))) (.cons 7 (.node (.cons 0 (.node (.cons 1 (.node (.cons 2 (.node (.cons 6 (.node (.cons 8 .leaf .nil)) .nil)) .nil)) .nil)) .nil)) .nil))) (.cons 7 (.node (.cons 0 (.node (.cons 1 (.node (.cons 2 (.node (.cons 5 (.node (.cons 6 (.node (.cons 8 .leaf .nil)) .nil)) .nil)) (.cons 5 (.node (.cons 2 (.node (.cons 6 (.node (.cons 8 .leaf .nil)) .nil)) .nil)) .nil))) (.cons 5 (.node (.cons 1 (.node (.cons 2 (.node (.cons 6 (.node (.cons 8 .leaf .nil)) .nil)) .nil)) .nil)) .nil))) (.cons 5 (.node (.cons 0 (.node (.cons 1 (.node (.cons 2 (.node (.cons 6 (.node (.cons 8 .leaf .nil)) .nil)) .nil)) .nil)) .nil)) .nil))) .nil)))) (.cons 7 (.node (.cons 0 (.node (.cons 1 (.node (.cons 2 (.node (.cons 4 (.node (.cons 5 (.node (.cons 6 (.node (.cons 8 .leaf .nil)) .nil)) .nil)) .nil)) (.cons 4 (.node (.cons 2 (.node (.cons 5 (.node (.cons 6 (.node (.cons 8 .leaf .nil)) .nil)) .nil)) (.cons 5 (.node (.cons 2 (.node (.cons 6 (.node (.cons 8 .leaf .nil)) .nil)) .nil)) .nil))) .nil))) (.cons 4 (.node (.cons 1 (.node (.cons 2 (.node (.cons 5 (.node (.cons 6 (.node (.cons 8 .leaf .nil)) .nil)) .nil)) (.cons 5 (.node (.cons 2 (.node (.cons 6 (.node (.cons 8 .leaf .nil)) .nil)) .nil)) .nil))) (.cons 5 (.node (.cons 1 (.node (.cons 2 (.node (.cons 6 (.node (.cons 8 .leaf .nil)) .nil)) .nil)) .nil)) .nil))) .nil))) (.cons 4 (.node (.cons 0 (.node (.cons 1 (.node (.cons 2 (.node (.cons 5 (.node (.cons 6 (.node (.cons 8 .leaf .nil)) .nil)) .nil)) (.cons 5 (.node (.cons 2 (.node (.cons 6 (.node (.cons 8 .leaf .nil)) .nil)) .nil)) .nil))) (.cons 5 (.node (.cons 1 (.node (.cons 2 (.node (.cons 6 (.node (.cons 8 .leaf .nil)) .nil)) .nil)) .nil)) .nil))) (.cons 5 (.node (.cons 0 (.node (.cons 1 (.node (.cons 2 (.node (.cons 6 (.node (.cons 8 .leaf .nil)) .nil)) .nil)) .nil)) .nil)) .nil))) .nil))) .nil)))) (.cons 7 (.node (.cons 0 (.node (.cons 1 (.node (.cons 2 (.node (.cons 3 (.node (.cons 4 (.node (.cons 5 (.node (.cons 6 (.node (.cons 8 .leaf .nil)) .nil)) .nil)) .nil)) .nil)) (.cons 3 (.node (.cons 2 (.node (.cons 4 (.node (.cons 5 (.node (.cons 6 (.node (.cons 8 .leaf .nil)) .nil)) .nil)) .nil)) (.cons 4 (.node (.cons 2 (.node (.cons 5 (.node (.cons 6 (.node (.cons 8 .leaf .nil)) .nil)) .nil)) (.cons 5 (.node (.cons 2 (.node (.cons 6 (.node (.cons 8 .leaf .nil)) .nil)) .nil)) .nil))) .nil))) .nil))) (.cons 3 (.node (.cons 1 (.node (.cons 2 (.node (.cons 4 (.node (.cons 5 (.node (.cons 6 (.node (.cons 8 .leaf .nil)) .nil)) .nil)) .nil)) (.cons 4 (.node (.cons 2 (.node (.cons 5 (.node (.cons 6 (.node (.cons 8 .leaf .nil)) .nil)) .nil)) (.cons 5 (.node (.cons 2 (.node (.cons 6 (.node (.cons 8 .leaf .nil)) .nil)) .nil)) .nil))) .nil))) (.cons 4 (.node (.cons 1 (.node (.cons 2 (.node (.cons 5 (.node (.cons 6 (.node (.cons 8 .leaf .nil)) .nil)) .nil)) (.cons 5 (.node (.cons 2 (.node (.cons 6 (.node (.cons 8 .leaf .nil)) .nil)) .nil)) .nil))) (.cons 5 (.node (.cons 1 (.node (.cons 2 (.node (.cons 6 (.node (.cons 8 .leaf .nil)) .nil)) .nil)) .nil)) .nil))) .nil))) .nil))) (.cons 3 (.node (.cons 0 (.node (.cons 1 (.node (.cons 2 (.node (.cons 4 (.node (.cons 5 (.node (.cons 6 (.node (.cons 8 .leaf .nil)) .nil)) .nil)) .nil)) (.cons 4 (.node (.cons 2 (.node (.cons 5 (.node (.cons 6 (.node (.cons 8 .leaf .nil)) .nil)) .nil)) (.cons 5 (.node (.cons 2 (.node (.cons 6 (.node (.cons 8 .leaf .nil)) .nil)) .nil)) .nil))) .nil))) (.cons 4 (.node (.cons 1 (.node (.cons 2 (.node (.cons 5 (.node (.cons 6 (.node (.cons 8 .leaf .nil)) .nil)) .nil)) (.cons 5 (.node (.cons 2 (.node (.cons 6 (.node (.cons 8 .leaf .nil)) .nil)) .nil)) .nil))) (.cons 5 (.node (.cons 1 (.node (.cons 2 (.node (.cons 6 (.node (.cons 8 .leaf .nil)) .nil)) .nil)) .nil)) .nil))) .nil))) (.cons 4 (.node (.cons 0 (.node (.cons 1 (.node (.cons 2 (.node (.cons 5 (.node (.cons 6 (.node (.cons 8 .leaf .nil)) .nil)) .nil)) (.cons 5 (.node (.cons 2 (.node (.cons 6 (.node (.cons 8 .leaf .nil)) .nil)) .nil)) .nil))) (.cons 5 (.node (.cons 1 (.node (.cons 2 (.node (.cons 6 (.node (.cons 8 .leaf .nil)) .nil)) .nil)) .nil)) .nil))) (.cons 5 (.node (.cons 0 (.node (.cons 1 (.node (.cons 2 (.node (.cons 6 (.node (.cons 8 .leaf .nil)) .nil)) .nil)) .nil)) .nil)) .nil))) .nil))) .nil))) .nil))))
theorem fc_Apply (t : Tab) (d : Dl) (h : okTD t d) (hres : okTb (resT t d)) : FC Tryz.prog 8 [] [.agg (eTb t), .agg (eDl d)] (.ret (apOut t d)) := by
  have s1 := st_wr h
  have s2 := st_made h
  have s3 := st_row h
  have s4 := st_TC hres
  refine fcc2_of (fn := Tryz.f8) (r := 4) (q := 5) (i := 4) (C := tab [(21, c_wr t d), (22, c_made t d), (23, c_Clone 9 1), (24, c_row t d), (25, c_TC (resT t d))] [] [5001, 5004, 5005, 7005]) mixed (by kernel_rfl) (by kernel_rfl) rfl rfl tfTable (by kernel_rfl) (by intro ys h; cases h) ?_
  unfold eTb eDl
  simp +contextual (maxSteps := 5000000) only [go_sem, ↓reduceIte]
  refine M_join (fun _ : Unit => ⟨[(2, .loc 2 0), (3, .loc 3 0), (4, .loc 4 0), (6, .int .i64 (wrongF t d))], [(2, .blk (eTb t) false), (3, .blk (eDl d) false), (4, .blk [.nil, .nil] false)]⟩) (fun _ => True) ?_ ?_
  · simp +contextual (maxSteps := 5000000) only [go_sem, ↓reduceIte, c_wr, s1, eTb, eDl]
    exact ⟨(), trivial⟩
  intro _ _
  by_cases q1 : wrongF t d = 0
  · have e1 : apOut t d = if tchk (resT t d) ≠ 0 then .tup [tE, .int .i64 (tchk (resT t d))] else .tup [.agg (eTb (resT t d)), .int .i64 0] := by unfold apOut; rw [if_neg (fun h => h q1)]
    rw [e1]
    unfold eTb eDl
    simp +contextual (maxSteps := 5000000) only [go_sem, ↓reduceIte, q1]
    refine M_join (fun _ : Unit => ⟨[(3, .loc 3 0), (4, .loc 4 0), (7, .loc 7 0)], [(3, .blk (eDl d) false), (4, .blk [.nil, .nil] false), (7, .blk (eMk t d) false)]⟩) (fun _ => True) ?_ ?_
    · simp +contextual (maxSteps := 5000000) only [go_sem, ↓reduceIte, c_made, s2, eTb, eDl, eMk]
      exact ⟨(), trivial⟩
    intro _ _
    have hch : chkD d = 0 := by
      unfold wrongF at q1
      by_cases a : tchk t = 0
      · rw [if_neg (fun h => h a)] at q1
        by_cases b : chkD d = 0
        · exact b
        · rw [if_pos b] at q1; exact q1
      · rw [if_pos a] at q1; exact absurd q1 a
    have g := (chkD_zero d).1 hch
    have hn0 := g.rows.b0
    obtain ⟨n, hn⟩ : ∃ n : Nat, d.nb = n := ⟨d.nb.toNat, by omega⟩
    have hn2 := h.nb
    have hlB : d.B.length < 1000000000 := by have := h.dl.B; omega
    unfold eDl
    simp +contextual (maxSteps := 5000000) only [go_sem, ↓reduceIte]
    refine M_join (fun _ : Unit => ⟨[(3, .loc 3 0), (4, .loc 4 0), (7, .loc 7 0), (8, .loc 8 0)], [(3, .blk (eDl d) false), (4, .blk [.nil, .nil] false), (7, .blk (eMk t d) false), (8, .blk [.sl 1 (d.B.map eS), .vec 30 n] false), (30, .vec 22 1 (List.replicate n [.nil]) 0)]⟩) (fun _ => True) ?_ ?_
    · simp +contextual (maxSteps := 5000000) only [go_sem, ↓reduceIte]
      refine M_tree tree5 (by show chkTr _ _ _ _ = true; kernel_rfl) ?_
      unfold tree5
      have hex : (∃ _ : Unit, True) := ⟨(), trivial⟩
      have hnb2 : (n : Int) < 1099511627776 := by omega
      simp +contextual (maxSteps := 5000000) only [go_sem, ↓reduceIte, c_Clone, st_CloneS, eDl, eMk, hn, hex, hnb2, hlB]
    intro _ _
    have hn3 : d.nb.toNat = n := by omega
    have l1 : d.inss.length < 1000000 := h.dl.inss
    have l2 : d.rows.length < 1000000 := h.dl.rows
    generalize hM0 : (List.replicate n none : OR') = M0
    have hz : List.replicate n [D.nil] = M0.map eO := by rw [← hM0, List.map_replicate]; rfl
    have hM0l : M0.length = n := by rw [← hM0, List.length_replicate]
    have hfin : finO t d = rowO (nrow t d) (insO M0 d.inss) d.rows := by unfold finO; rw [hn3, hM0]
    rw [hz]
    unfold eDl
    simp +contextual (maxSteps := 5000000) only [go_sem, ↓reduceIte]
    refine fun _ => M_loopI (fun i : Nat => ⟨[(3, .loc 3 0), (4, .loc 4 0), (7, .loc 7 0), (8, .loc 8 0), (33, .sl 2 (d.inss.map eL)), (34, .int .i64 d.inss.length), (35, .int .i64 i)], [(3, .blk (eDl d) false), (4, .blk [.nil, .nil] false), (7, .blk (eMk t d) false), (8, .blk [.sl 1 (d.B.map eS), .vec 30 n] false), (30, .vec 22 1 ((insO M0 (d.inss.take i)).map eO) 0)]⟩) (fun i => d.inss.length - i) (fun i => i ≤ d.inss.length) 0 ?_ ?_
    · simp +contextual (maxSteps := 5000000) only [go_sem, ↓reduceIte, eDl, eMk, insO, setO, List.foldl_nil]
      rfl
    intro i hi
    by_cases hlt : i < d.inss.length
    · have hat := eL_at d.inss i hlt
      have ht : insO M0 (d.inss.take (i + 1)) = (insO M0 (d.inss.take i)).set (d.inss.getD i (0, [])).1.toNat (some (d.inss.getD i (0, [])).2) := setO_take hlt
      have hx := g.ins (getD_mem (d := ((0 : Int), ([] : List Str))) hlt)
      have hxl : (d.inss.getD i (0, [])).2.length < 1000000000 := h.cs _ (List.mem_append.2 (.inr (getD_mem (d := ((0 : Int), ([] : List Str))) hlt)))
      have hml : (insO M0 (d.inss.take i)).length = n := by unfold insO; rw [setO_len, hM0l]
      generalize d.inss.getD i (0, []) = x at hat ht hx hxl
      generalize insO M0 (d.inss.take i) = M1 at ht hml
      obtain ⟨k, hk⟩ : ∃ k : Nat, x.1 = k := ⟨x.1.toNat, by omega⟩
      rw [hk] at hat ht hx
      have hkn : k < n := by omega
      rw [Int.toNat_natCast] at ht
      have hdr := eO_drop (m := M1) (k := k) (by omega)
      simp +contextual (maxSteps := 5000000) only [go_sem, ↓reduceIte, hlt, hat, hkn, eDl, eMk, c_Clone, st_CloneS, gS, eO_set, hxl, hdr]
      exact ⟨hml, fun _ => ⟨by omega, fun _ => ⟨inR64 (by omega) (by omega), fun _ => ⟨i + 1, ⟨by simp, by rw [ht]⟩, by omega, by omega⟩⟩⟩⟩
    obtain rfl : i = d.inss.length := by omega
    simp +contextual (maxSteps := 5000000) only [go_sem, ↓reduceIte, hlt, Nat.lt_irrefl, List.take_length, eDl]
    clear hlt hi
    generalize hM1 : insO M0 d.inss = M1 at hfin
    have hM1l : M1.length = n := by rw [← hM1]; unfold insO; rw [setO_len, hM0l]
    refine fun _ => M_loopI (fun i : Nat => ⟨[(4, .loc 4 0), (7, .loc 7 0), (8, .loc 8 0), (11, .fn 24 [] []), (49, .sl 2 (d.rows.map eP)), (50, .int .i64 d.rows.length), (51, .int .i64 i)], [(4, .blk [.nil, .nil] false), (7, .blk (eMk t d) false), (8, .blk [.sl 1 (d.B.map eS), .vec 30 n] false), (30, .vec 22 1 ((rowO (nrow t d) M1 (d.rows.take i)).map eO) 0)]⟩) (fun i => d.rows.length - i) (fun i => i ≤ d.rows.length) 0 ?_ ?_
    · simp +contextual (maxSteps := 5000000) only [go_sem, ↓reduceIte, rowO, setO, List.foldl_nil, eMk]
      rfl
    intro i hi
    by_cases hlt : i < d.rows.length
    · have hat := eP_at d.rows i hlt
      have ht : rowO (nrow t d) M1 (d.rows.take (i + 1)) = (rowO (nrow t d) M1 (d.rows.take i)).set (d.rows.getD i (0, 0)).2.toNat (some (nrow t d (d.rows.getD i (0, 0)).1 (d.rows.getD i (0, 0)).2)) := setO_take (f := fun p : Int × Int => p.2) (v := fun p => nrow t d p.1 p.2) (dd := ((0 : Int), (0 : Int))) hlt
      have hx := g.row (getD_mem (d := ((0 : Int), (0 : Int))) hlt)
      have hml : (rowO (nrow t d) M1 (d.rows.take i)).length = n := by unfold rowO; rw [setO_len, hM1l]
      generalize d.rows.getD i (0, 0) = x at hat ht hx
      generalize rowO (nrow t d) M1 (d.rows.take i) = M2 at ht hml
      obtain ⟨k, hk⟩ : ∃ k : Nat, x.2 = k := ⟨x.2.toNat, by omega⟩
      rw [hk] at hat ht hx
      have hkn : k < n := by omega
      rw [Int.toNat_natCast] at ht
      have hdr := eO_drop (m := M2) (k := k) (by omega)
      simp +contextual (maxSteps := 5000000) only [go_sem, ↓reduceIte, hlt, hat, hkn, eMk, c_row, s3, gS, eO_set, hdr]
      exact ⟨hml, fun _ => ⟨by omega, fun _ => ⟨inR64 (by omega) (by omega), fun _ => ⟨i + 1, ⟨by simp, by rw [ht]⟩, by omega, by omega⟩⟩⟩⟩
    obtain rfl : i = d.rows.length := by omega
    have hfull := g.full t
    rw [hfin] at hfull
    have hT : eTb (resT t d) = [.sl 1 (d.B.map eS), .sl 1 ((resT t d).2.map eR)] := rfl
    have hrl : (resT t d).2.length = n := by
      have := congrArg List.length hfull
      rw [List.length_map, List.length_map] at this
      unfold rowO at this
      rw [setO_len, hM1l] at this
      exact this.symm
    by_cases q5 : tchk (resT t d) = 0
    · simp +contextual (maxSteps := 5000000) only [go_sem, ↓reduceIte, hlt, Nat.lt_irrefl, List.take_length, hfull, c_TC, s4, hT, q5, hrl, finC2, finCB2, locR]
      rfl
    · unfold tE
      simp +contextual (maxSteps := 5000000) only [go_sem, ↓reduceIte, hlt, Nat.lt_irrefl, List.take_length, hfull, c_TC, s4, hT, q5, hrl, finC2, finCB2, locR]
  · have e1 : apOut t d = .tup [tE, .int .i64 (wrongF t d)] := by unfold apOut; rw [if_pos q1]
    rw [e1]
    unfold tE
    simp +contextual (maxSteps := 5000000) only [go_sem, ↓reduceIte, q1, finC2, finCB2, locR]
end Go.Proofs.YtknkjakppikjeaaGreat

set_option linter.unusedSimpArgs false
namespace Go.Proofs.YtknkjakppikjeaaGreat
open Go.Tn
set_option maxHeartbeats 8000000
set_option maxRecDepth 100000
def apE (t : Tab) (d : Dl) : Int := if wrongF t d ≠ 0 then wrongF t d else tchk (resT t d)
theorem ap_cases (t : Tab) (d : Dl) : (apE t d ≠ 0 ∧ apOut t d = .tup [.agg [.nil, .nil], .int .i64 (apE t d)]) ∨ (apE t d = 0 ∧ apOut t d = .tup [.agg (eTb (resT t d)), .int .i64 0]) := by
  unfold apE apOut tE
  by_cases a : wrongF t d = 0
  · by_cases b : tchk (resT t d) = 0
    · right; rw [if_neg (fun h => h a), if_neg (fun h => h a), if_neg (fun h => h b)]; exact ⟨b, rfl⟩
    · left; rw [if_neg (fun h => h a), if_neg (fun h => h a), if_pos b]; exact ⟨b, rfl⟩
  · left; rw [if_pos a, if_pos a]; exact ⟨a, rfl⟩
def c_ap (t : Tab) (d : Dl) (caps args : List D) : Prop × Out := match caps, args with | [], [x, y] => (x = .agg (eTb t) ∧ y = .agg (eDl d), .ret (apOut t d)) | _, _ => (False, .ret .any)
theorem st_ap {t : Tab} {d : Dl} (h : okTD t d) (hres : okTb (resT t d)) : StC Tryz.prog 8 (c_ap t d) := by
  intro caps args; unfold c_ap; split
  · rintro ⟨rfl, rfl⟩; exact fc_Apply t d h hres
  · exact fun h => h.elim
def c_DT (d : Dl) (caps args : List D) : Prop × Out := match caps, args with | [], [x] => (x = .agg (eDl d), .ret (.agg (eDl (turnD d)))) | _, _ => (False, .ret .any)
theorem st_DT {d : Dl} (h : okDl d) (hc : ∀ x ∈ d.dels ++ d.inss, x.2.length < 1000000000) : StC Tryz.prog 30 (c_DT d) := by
  intro caps args; unfold c_DT; split
  · rintro rfl; exact fc_DTurn d h hc
  · exact fun h => h.elim
theorem eDl_litY (d : Dl) : eDl d = [.sl 1 (d.A.map eS), .sl 1 (d.B.map eS), .sl 2 (d.cols.map eP), .int .i64 d.na, .int .i64 d.nb, .sl 2 (d.rows.map eP), .sl 2 (d.dels.map eL), .sl 2 (d.inss.map eL), .sl 6 (d.sets.map eD6), .sl 3 (d.lost.map eSp), .sl 3 (d.gain.map eSp)] := rfl
theorem fc_Back (t : Tab) (d : Dl) (h : okTD t d) (h2 : okTD t (turnD d)) (hres : okTb (resT t (turnD d))) : FC Tryz.prog 10 [] [.agg (eTb t), .agg (eDl d)] (.ret (apOut t (turnD d))) := by
  have s1 := st_ap h2 hres
  have s2 := st_DT h.dl h.cs
  refine fcc2_of (fn := Tryz.f10) (r := 4) (q := 5) (i := 4) (C := tab [(8, c_ap t (turnD d)), (30, c_DT d)] [] [5000]) mixed (by kernel_rfl) (by kernel_rfl) rfl rfl tfTable (by kernel_rfl) (by intro ys h; rcases ap_cases t (turnD d) with ⟨_, e⟩ | ⟨_, e⟩ <;> rw [e] at h <;> cases h) ?_
  generalize hT : turnD d = d2 at h2 hres s1 ⊢
  unfold eTb eDl
  simp +contextual (maxSteps := 5000000) only [go_sem, ↓reduceIte]
  refine M_join (fun _ : Unit => ⟨[(2, .loc 2 0), (3, .loc 3 0), (4, .loc 4 0)], [(2, .blk (eTb t) false), (3, .blk (eDl d) false), (4, .blk [.nil, .nil] false)]⟩) (fun _ => True) ?_ ?_
  · simp +contextual (maxSteps := 5000000) only [go_sem, ↓reduceIte, eTb, eDl]
    exact ⟨(), trivial⟩
  intro _ _
  have hd := eDl_litY d
  have hd2 := eDl_litY d2
  rcases ap_cases t d2 with ⟨_, e⟩ | ⟨_, e⟩
  · rw [e]
    simp +contextual (maxSteps := 5000000) only [go_sem, ↓reduceIte, c_ap, s1, c_DT, s2, eTb, hd, hT, hd2, e, finC2, finCB2, locR]
  · rw [e]
    simp +contextual (maxSteps := 5000000) only [go_sem, ↓reduceIte, c_ap, s1, c_DT, s2, eTb, hd, hT, hd2, e, finC2, finCB2, locR]
end Go.Proofs.YtknkjakppikjeaaGreat

set_option linter.unusedSimpArgs false
namespace Go.Proofs.YtknkjakppikjeaaGreat
open Go.Tn
set_option maxHeartbeats 8000000
set_option maxRecDepth 100000
def pR (d : D) : List (List D) := match d with | .sl _ rows => rows | _ => []
def dDl (r : List D) : Dl := match r with
  | [a, b, co, .int _ na, .int _ nb, ro, de, ins, se, lo, ga] => ⟨(pR a).map dS, (pR b).map dS, (pR co).map dP, na, nb, (pR ro).map dP, (pR de).map dL, (pR ins).map dL, (pR se).map d6, (pR lo).map dSp, (pR ga).map dSp⟩
  | _ => ⟨[], [], [], 0, 0, [], [], [], [], [], []⟩
theorem dDl_eDl (d : Dl) : dDl (eDl d) = d := by
  simp only [eDl, dDl, pR, dS_eS, dP_eP, dL_eL, d6_eD6, dSp_eSp]
def dTb (r : List D) : Tab := match r with | [h, l] => ((pR h).map dS, (pR l).map dR) | _ => ([], [])
theorem dTb_eTb (t : Tab) : dTb (eTb t) = t := by
  simp only [eTb, dTb, pR, dS_eS, dR_eR]
theorem wk_agg1 {r s : List D} (h : wkL r s) : wkL [.agg r] [.agg s] := by simp only [wkL, wk]; exact ⟨h, trivial⟩
theorem wk_agg2 {r s r' s' : List D} (h : wkL r s) (h' : wkL r' s') : wkL [.agg r, .agg r'] [.agg s, .agg s'] := by simp only [wkL, wk]; exact ⟨h, h', trivial⟩
structure okAp (r s : List D) (d : Dl) : Prop where
  wr : wkL r (eTb (dTb r))
  ws : wkL s (eDl (dDl s))
  ok : okTD (dTb r) d
  res : okTb (resT (dTb r) d)
def c_Ap (caps args : List D) : Prop × Out := match caps, args with | [], [.agg r, .agg s] => (okAp r s (dDl s), .ret (apOut (dTb r) (dDl s))) | _, _ => (False, .ret .any)
theorem nyi_ap {t : Tab} {d : Dl} : ∀ ys, Out.ret (apOut t d) ≠ .seq ys := by intro ys h; cases h
theorem st_Ap : StC Tryz.prog 8 c_Ap := by
  intro caps args; unfold c_Ap; split
  · exact fun h => fc_wk (wkL_self []) (wk_agg2 h.wr h.ws) (by intro ys h; cases h) (fc_Apply _ _ h.ok h.res)
  · exact fun h => h.elim
noncomputable def c_Bk (caps args : List D) : Prop × Out := match caps, args with | [], [.agg r, .agg s] => (okAp r s (turnD (dDl s)) ∧ okTD (dTb r) (dDl s), .ret (apOut (dTb r) (turnD (dDl s)))) | _, _ => (False, .ret .any)
theorem st_Bk : StC Tryz.prog 10 c_Bk := by
  intro caps args; unfold c_Bk; split
  · exact fun h => fc_wk (wkL_self []) (wk_agg2 h.1.wr h.1.ws) (by intro ys h; cases h) (fc_Back _ _ h.2 h.1.ok h.1.res)
  · exact fun h => h.elim
def c_Hld (caps args : List D) : Prop × Out := match caps, args with | [], [.agg r, .agg s] => (wkL r (eTb (dTb r)) ∧ wkL s (eDl (dDl s)) ∧ okDl (dDl s), .ret (.bool (heldF (dTb r) (dDl s)))) | _, _ => (False, .ret .any)
theorem st_Hld : StC Tryz.prog 14 c_Hld := by
  intro caps args; unfold c_Hld; split
  · exact fun h => fc_wk (wkL_self []) (wk_agg2 h.1 h.2.1) (by intro ys h; cases h) (fc_Held _ _ h.2.2)
  · exact fun h => h.elim
def c_rTS (caps args : List D) : Prop × Out := match caps, args with | [], [.agg r, .agg s] => (wkL r (eTb (dTb r)) ∧ wkL s (eTb (dTb s)), .ret (.bool (sameT (dTb r) (dTb s)))) | _, _ => (False, .ret .any)
theorem st_rTS : StC Tryz.prog 12 c_rTS := by
  intro caps args; unfold c_rTS; split
  · exact fun h => fc_wk (wkL_self []) (wk_agg2 h.1 h.2) (by intro ys h; cases h) (fc_rTSame _ _)
  · exact fun h => h.elim
def c_fewT (caps args : List D) : Prop × Out := match caps, args with | [], [.agg r] => (wkL r (eTb (dTb r)) ∧ slen (dTb r).1 + rlen (dTb r).2 < 2000000000, .ret (.bool (few4 (dTb r)))) | _, _ => (False, .ret .any)
theorem st_fewT : StC Tryz.prog 6 c_fewT := by
  intro caps args; unfold c_fewT; split
  · exact fun h => fc_wk (wkL_self []) (wk_agg1 h.1) (by intro ys h; cases h) (fc_few4 _ h.2)
  · exact fun h => h.elim
def c_fewD (caps args : List D) : Prop × Out := match caps, args with | [], [.agg r] => (wkL r (eDl (dDl r)) ∧ okT (dDl r), .ret (.bool (fewF (dDl r)))) | _, _ => (False, .ret .any)
theorem st_fewD : StC Tryz.prog 7 c_fewD := by
  intro caps args; unfold c_fewD; split
  · exact fun h => fc_wk (wkL_self []) (wk_agg1 h.1) (by intro ys h; cases h) (fc_Few _ h.2)
  · exact fun h => h.elim
/- the literals of works -/
abbrev lH : D := .sl 1 [[.str [107]], [.str [118]]]
abbrev lA : List D := [lH, .sl 1 [[.sl 1 [[.str [49]], [.str [120]]]]]]
abbrev lB : List D := [lH, .sl 1 [[.sl 1 [[.str [49]], [.str [121]]]]]]
abbrev lC : List D := [lH, .sl 1 [[.sl 1 [[.str [49]], [.str [122]]]]]]
abbrev lD : List D := [lH, lH, .sl 2 [[.int .i64 0, .int .i64 0], [.int .i64 1, .int .i64 1]], .int .i64 1, .int .i64 1, .sl 2 [[.int .i64 0, .int .i64 0]], .nil, .nil, .sl 6 [[.int .i64 0, .int .i64 0, .int .i64 1, .int .i64 1, .str [120], .str [121]]], .nil, .nil]
abbrev lI : List D := [.sl 1 [[.str [107]]], .nil]
abbrev lJ : List D := [lH, .nil]
def tA : Tab := ([[107], [118]], [[[49], [120]]])
def tB : Tab := ([[107], [118]], [[[49], [121]]])
def tC : Tab := ([[107], [118]], [[[49], [122]]])
def tI : Tab := ([[107]], [])
def tJ : Tab := ([[107], [118]], [])
def dD : Dl := ⟨[[107], [118]], [[107], [118]], [(0, 0), (1, 1)], 1, 1, [(0, 0)], [], [], [⟨0, 0, 1, 1, [120], [121]⟩], [], []⟩
def dE : Dl := ⟨[[107], [118]], [[107], [118]], [(0, 0), (1, 1)], 1, 1, [(0, 0)], [], [], [⟨0, 0, 1, 1, [121], [120]⟩], [], []⟩
theorem xA : dTb lA = tA := rfl
theorem xB : dTb lB = tB := rfl
theorem xC : dTb lC = tC := rfl
theorem xI : dTb lI = tI := rfl
theorem xJ : dTb lJ = tJ := rfl
theorem xD : dDl lD = dD := rfl
theorem xE : turnD dD = dE := by
  have h1 : turnP [(0, 0)] = [(0, 0)] := Ps.srt_id (by simp)
  have h3 : turnP [(0, 0), (1, 1)] = [(0, 0), (1, 1)] := Ps.srt_id (by simp [leB, sw])
  have h2 : turnSs [⟨0, 0, 1, 1, [120], [121]⟩] = [⟨0, 0, 1, 1, [121], [120]⟩] := Ps.srt_id (by simp)
  unfold turnD dD
  simp only [h1, h2, h3]
  rfl
theorem wA : wkL lA (eTb tA) := by simp [wkL, wk, eTb, tA, eS, eR]
theorem wB : wkL lB (eTb tB) := by simp [wkL, wk, eTb, tB, eS, eR]
theorem wC : wkL lC (eTb tC) := by simp [wkL, wk, eTb, tC, eS, eR]
theorem wI : wkL lI (eTb tI) := by simp [wkL, wk, eTb, tI, eS, eR]
theorem wJ : wkL lJ (eTb tJ) := by simp [wkL, wk, eTb, tJ, eS, eR]
theorem wD : wkL lD (eDl dD) := by simp [wkL, wk, eDl, dD, eS, eP, eD6]
theorem r1 : resT tA dD = tB := by decide +kernel
theorem r2 : resT tB dE = tA := by decide +kernel
theorem v1 : wrongF tA dD = 0 ∧ tchk tB = 0 := by decide +kernel
theorem v2 : wrongF tB dE = 0 ∧ tchk tA = 0 := by decide +kernel
theorem v3 : wrongF tC dD = 16 := by decide +kernel
theorem v4 : wrongF tI dD = 14 := by decide +kernel
theorem v5 : wrongF tJ dD = 15 := by decide +kernel
theorem tdD {t : Tab} (h : okTb t) : okTD t dD := ⟨h, by constructor <;> decide +kernel, by decide +kernel, by decide +kernel, by decide +kernel⟩
theorem tdE {t : Tab} (h : okTb t) : okTD t dE := ⟨h, by constructor <;> decide +kernel, by decide +kernel, by decide +kernel, by decide +kernel⟩
theorem bA : okTb tA := by constructor <;> decide +kernel
theorem bB : okTb tB := by constructor <;> decide +kernel
theorem bC : okTb tC := by constructor <;> decide +kernel
theorem bI : okTb tI := by constructor <;> decide +kernel
theorem bJ : okTb tJ := by constructor <;> decide +kernel
theorem o1 : okAp lA lD (dDl lD) := ⟨wA, wD, tdD bA, by rw [xA, xD, r1]; exact bB⟩
theorem o2 : okAp lB lD (turnD (dDl lD)) ∧ okTD (dTb lB) (dDl lD) := ⟨⟨wB, wD, by rw [xD, xE]; exact tdE bB, by rw [xB, xD, xE, r2]; exact bA⟩, tdD bB⟩
theorem o3 : okAp lC lD (dDl lD) := ⟨wC, wD, tdD bC, by constructor <;> decide +kernel⟩
theorem o4 : okAp lI lD (dDl lD) := ⟨wI, wD, tdD bI, by constructor <;> decide +kernel⟩
theorem o5 : okAp lJ lD (dDl lD) := ⟨wJ, wD, tdD bJ, by constructor <;> decide +kernel⟩
theorem p1 : apOut (dTb lA) (dDl lD) = .tup [.agg lB, .int .i64 0] := by
  rw [xA, xD]; unfold apOut; rw [if_neg (by rw [v1.1]; simp), r1, if_neg (by rw [v1.2]; simp)]; rfl
theorem p2 : apOut (dTb lB) (turnD (dDl lD)) = .tup [.agg lA, .int .i64 0] := by
  rw [xB, xD, xE]; unfold apOut; rw [if_neg (by rw [v2.1]; simp), r2, if_neg (by rw [v2.2]; simp)]; rfl
theorem p3 : apOut (dTb lC) (dDl lD) = .tup [.agg [.nil, .nil], .int .i64 16] := by
  rw [xC, xD]; unfold apOut; rw [if_pos (by rw [v3]; simp), v3]; rfl
theorem p4 : apOut (dTb lI) (dDl lD) = .tup [.agg [.nil, .nil], .int .i64 14] := by
  rw [xI, xD]; unfold apOut; rw [if_pos (by rw [v4]; simp), v4]; rfl
theorem p5 : apOut (dTb lJ) (dDl lD) = .tup [.agg [.nil, .nil], .int .i64 15] := by
  rw [xJ, xD]; unfold apOut; rw [if_pos (by rw [v5]; simp), v5]; rfl
theorem h1 : heldF (dTb lA) (dDl lD) = true := by decide +kernel
theorem h2 : heldF (dTb lC) (dDl lD) = false := by decide +kernel
theorem e1 : sameT (dTb lB) (dTb lB) = true := by rw [sameT_iff]
theorem e2 : sameT (dTb lA) (dTb lA) = true := by rw [sameT_iff]
theorem g1 : wkL lA (eTb (dTb lA)) := wA
theorem g2 : wkL lB (eTb (dTb lB)) := wB
theorem g3 : (wkL lA (eTb (dTb lA)) ∧ wkL lD (eDl (dDl lD)) ∧ okDl (dDl lD)) := ⟨wA, wD, (tdD bA).dl⟩
theorem g4 : (wkL lC (eTb (dTb lC)) ∧ wkL lD (eDl (dDl lD)) ∧ okDl (dDl lD)) := ⟨wC, wD, (tdD bA).dl⟩
end Go.Proofs.YtknkjakppikjeaaGreat

set_option linter.unusedSimpArgs false
namespace Go.Proofs.YtknkjakppikjeaaGreat
open Go.Tn
set_option maxHeartbeats 8000000
set_option maxRecDepth 100000
theorem fc_works : FC Tryz.prog 5 [] [] (.ret (.bool true)) := by
  refine fc_M (fn := Tryz.f5) (C := (tab [(8, c_Ap), (10, c_Bk), (14, c_Hld), (12, c_rTS)] [] [5001, 5002, 5003, 5004, 5005, 5006, 5007, 5008, 5009, 5010])) (rs := [0]) mixed (by kernel_rfl) (by kernel_rfl) rfl rfl (by kernel_rfl) (by intro ys h; cases h) ?_
  simp +contextual (maxSteps := 5000000) only [go_sem, ↓reduceIte]
  refine M_join (fun _ : Unit => ⟨[(1, .loc 1 0)], [(1, .blk [.vec 16 2, .vec 18 1] false), (16, .vec 9 1 [[.str [107]], [.str [118]]] 0), (18, .vec 22 1 [[.sl 1 [[.str [49]], [.str [120]]]]] 0)]⟩) (fun _ => True) ?_ ?_
  · simp +contextual (maxSteps := 5000000) only [go_sem, ↓reduceIte, Int.reduceEq, Int.reduceNe, Int.reduceLT, Int.reduceLE, Int.reduceToNat, Int.cast_ofNat_Int]
    exact ⟨(), trivial⟩
  intro _ _
  simp +contextual (maxSteps := 5000000) only [go_sem, ↓reduceIte]
  refine M_join (fun _ : Unit => ⟨[(1, .loc 1 0), (2, .loc 2 0)], [(1, .blk [.vec 16 2, .vec 18 1] false), (16, .vec 9 1 [[.str [107]], [.str [118]]] 0), (18, .vec 22 1 [[.sl 1 [[.str [49]], [.str [120]]]]] 0), (2, .blk [.vec 20 2, .vec 22 1] false), (20, .vec 9 1 [[.str [107]], [.str [118]]] 0), (22, .vec 22 1 [[.sl 1 [[.str [49]], [.str [121]]]]] 0)]⟩) (fun _ => True) ?_ ?_
  · simp +contextual (maxSteps := 5000000) only [go_sem, ↓reduceIte, Int.reduceEq, Int.reduceNe, Int.reduceLT, Int.reduceLE, Int.reduceToNat, Int.cast_ofNat_Int]
    exact ⟨(), trivial⟩
  intro _ _
  simp +contextual (maxSteps := 5000000) only [go_sem, ↓reduceIte]
  refine M_join (fun _ : Unit => ⟨[(1, .loc 1 0), (2, .loc 2 0), (3, .loc 3 0)], [(1, .blk [.vec 16 2, .vec 18 1] false), (16, .vec 9 1 [[.str [107]], [.str [118]]] 0), (18, .vec 22 1 [[.sl 1 [[.str [49]], [.str [120]]]]] 0), (2, .blk [.vec 20 2, .vec 22 1] false), (20, .vec 9 1 [[.str [107]], [.str [118]]] 0), (22, .vec 22 1 [[.sl 1 [[.str [49]], [.str [121]]]]] 0), (3, .blk [.vec 24 2, .vec 26 1] false), (24, .vec 9 1 [[.str [107]], [.str [118]]] 0), (26, .vec 22 1 [[.sl 1 [[.str [49]], [.str [122]]]]] 0)]⟩) (fun _ => True) ?_ ?_
  · simp +contextual (maxSteps := 5000000) only [go_sem, ↓reduceIte, Int.reduceEq, Int.reduceNe, Int.reduceLT, Int.reduceLE, Int.reduceToNat, Int.cast_ofNat_Int]
    exact ⟨(), trivial⟩
  intro _ _
  simp +contextual (maxSteps := 5000000) only [go_sem, ↓reduceIte]
  refine M_join (fun _ : Unit => ⟨[(1, .loc 1 0), (2, .loc 2 0), (3, .loc 3 0), (4, .loc 4 0)], [(1, .blk [.vec 16 2, .vec 18 1] false), (16, .vec 9 1 [[.str [107]], [.str [118]]] 0), (18, .vec 22 1 [[.sl 1 [[.str [49]], [.str [120]]]]] 0), (2, .blk [.vec 20 2, .vec 22 1] false), (20, .vec 9 1 [[.str [107]], [.str [118]]] 0), (22, .vec 22 1 [[.sl 1 [[.str [49]], [.str [121]]]]] 0), (3, .blk [.vec 24 2, .vec 26 1] false), (24, .vec 9 1 [[.str [107]], [.str [118]]] 0), (26, .vec 22 1 [[.sl 1 [[.str [49]], [.str [122]]]]] 0), (4, .blk [.vec 16 2, .vec 16 2, .vec 34 2, .int .i64 1, .int .i64 1, .vec 36 1, .nil, .nil, .vec 38 1, .nil, .nil] false), (34, .vec 45 2 [[.int .i64 0, .int .i64 0], [.int .i64 1, .int .i64 1]] 0), (36, .vec 45 2 [[.int .i64 0, .int .i64 0]] 0), (38, .vec 47 6 [[.int .i64 0, .int .i64 0, .int .i64 1, .int .i64 1, .str [120], .str [121]]] 0)]⟩) (fun _ => True) ?_ ?_
  · simp +contextual (maxSteps := 5000000) only [go_sem, ↓reduceIte, Int.reduceEq, Int.reduceNe, Int.reduceLT, Int.reduceLE, Int.reduceToNat, Int.cast_ofNat_Int]
    exact ⟨(), trivial⟩
  intro _ _
  simp +contextual (maxSteps := 5000000) only [go_sem, ↓reduceIte]
  refine M_join (fun _ : Unit => ⟨[(1, .loc 1 0), (2, .loc 2 0), (3, .loc 3 0), (4, .loc 4 0), (5, .loc 5 0), (6, .int .i64 0)], [(1, .blk [.vec 16 2, .vec 18 1] false), (16, .vec 9 1 [[.str [107]], [.str [118]]] 2), (18, .vec 22 1 [[.sl 1 [[.str [49]], [.str [120]]]]] 1), (2, .blk [.vec 20 2, .vec 22 1] false), (20, .vec 9 1 [[.str [107]], [.str [118]]] 0), (22, .vec 22 1 [[.sl 1 [[.str [49]], [.str [121]]]]] 0), (3, .blk [.vec 24 2, .vec 26 1] false), (24, .vec 9 1 [[.str [107]], [.str [118]]] 0), (26, .vec 22 1 [[.sl 1 [[.str [49]], [.str [122]]]]] 0), (4, .blk [.vec 16 2, .vec 16 2, .vec 34 2, .int .i64 1, .int .i64 1, .vec 36 1, .nil, .nil, .vec 38 1, .nil, .nil] false), (34, .vec 45 2 [[.int .i64 0, .int .i64 0], [.int .i64 1, .int .i64 1]] 2), (36, .vec 45 2 [[.int .i64 0, .int .i64 0]] 1), (38, .vec 47 6 [[.int .i64 0, .int .i64 0, .int .i64 1, .int .i64 1, .str [120], .str [121]]] 1), (5, .blk lB false)]⟩) (fun _ => True) ?_ ?_
  · simp +contextual (maxSteps := 5000000) only [go_sem, ↓reduceIte, Int.reduceEq, Int.reduceNe, Int.reduceLT, Int.reduceLE, Int.reduceToNat, Int.cast_ofNat_Int, c_Ap, st_Ap, o1, p1]
    exact ⟨(), trivial⟩
  intro _ _
  simp +contextual (maxSteps := 5000000) only [go_sem, ↓reduceIte]
  refine M_join (fun _ : Unit => ⟨[(1, .loc 1 0), (2, .loc 2 0), (3, .loc 3 0), (4, .loc 4 0), (5, .loc 5 0), (6, .int .i64 0), (7, .loc 7 0), (8, .int .i64 0)], [(1, .blk [.vec 16 2, .vec 18 1] false), (16, .vec 9 1 [[.str [107]], [.str [118]]] 2), (18, .vec 22 1 [[.sl 1 [[.str [49]], [.str [120]]]]] 1), (2, .blk [.vec 20 2, .vec 22 1] false), (20, .vec 9 1 [[.str [107]], [.str [118]]] 2), (22, .vec 22 1 [[.sl 1 [[.str [49]], [.str [121]]]]] 1), (3, .blk [.vec 24 2, .vec 26 1] false), (24, .vec 9 1 [[.str [107]], [.str [118]]] 0), (26, .vec 22 1 [[.sl 1 [[.str [49]], [.str [122]]]]] 0), (4, .blk [.vec 16 2, .vec 16 2, .vec 34 2, .int .i64 1, .int .i64 1, .vec 36 1, .nil, .nil, .vec 38 1, .nil, .nil] false), (34, .vec 45 2 [[.int .i64 0, .int .i64 0], [.int .i64 1, .int .i64 1]] 2), (36, .vec 45 2 [[.int .i64 0, .int .i64 0]] 1), (38, .vec 47 6 [[.int .i64 0, .int .i64 0, .int .i64 1, .int .i64 1, .str [120], .str [121]]] 1), (5, .blk lB false), (7, .blk lA false)]⟩) (fun _ => True) ?_ ?_
  · simp +contextual (maxSteps := 5000000) only [go_sem, ↓reduceIte, Int.reduceEq, Int.reduceNe, Int.reduceLT, Int.reduceLE, Int.reduceToNat, Int.cast_ofNat_Int, c_Bk, st_Bk, o2, p2]
    exact ⟨(), trivial⟩
  intro _ _
  simp +contextual (maxSteps := 5000000) only [go_sem, ↓reduceIte]
  refine M_join (fun _ : Unit => ⟨[(1, .loc 1 0), (2, .loc 2 0), (3, .loc 3 0), (4, .loc 4 0), (5, .loc 5 0), (6, .int .i64 0), (7, .loc 7 0), (8, .int .i64 0), (10, .int .i64 16)], [(1, .blk [.vec 16 2, .vec 18 1] false), (16, .vec 9 1 [[.str [107]], [.str [118]]] 2), (18, .vec 22 1 [[.sl 1 [[.str [49]], [.str [120]]]]] 1), (2, .blk [.vec 20 2, .vec 22 1] false), (20, .vec 9 1 [[.str [107]], [.str [118]]] 2), (22, .vec 22 1 [[.sl 1 [[.str [49]], [.str [121]]]]] 1), (3, .blk [.vec 24 2, .vec 26 1] false), (24, .vec 9 1 [[.str [107]], [.str [118]]] 2), (26, .vec 22 1 [[.sl 1 [[.str [49]], [.str [122]]]]] 1), (4, .blk [.vec 16 2, .vec 16 2, .vec 34 2, .int .i64 1, .int .i64 1, .vec 36 1, .nil, .nil, .vec 38 1, .nil, .nil] false), (34, .vec 45 2 [[.int .i64 0, .int .i64 0], [.int .i64 1, .int .i64 1]] 2), (36, .vec 45 2 [[.int .i64 0, .int .i64 0]] 1), (38, .vec 47 6 [[.int .i64 0, .int .i64 0, .int .i64 1, .int .i64 1, .str [120], .str [121]]] 1), (5, .blk lB false), (7, .blk lA false)]⟩) (fun _ => True) ?_ ?_
  · simp +contextual (maxSteps := 5000000) only [go_sem, ↓reduceIte, Int.reduceEq, Int.reduceNe, Int.reduceLT, Int.reduceLE, Int.reduceToNat, Int.cast_ofNat_Int, c_Ap, st_Ap, o3, p3]
    exact ⟨(), trivial⟩
  intro _ _
  simp +contextual (maxSteps := 5000000) only [go_sem, ↓reduceIte]
  refine M_join (fun _ : Unit => ⟨[(1, .loc 1 0), (2, .loc 2 0), (3, .loc 3 0), (4, .loc 4 0), (5, .loc 5 0), (6, .int .i64 0), (7, .loc 7 0), (8, .int .i64 0), (10, .int .i64 16), (12, .int .i64 14)], [(1, .blk [.vec 16 2, .vec 18 1] false), (16, .vec 9 1 [[.str [107]], [.str [118]]] 2), (18, .vec 22 1 [[.sl 1 [[.str [49]], [.str [120]]]]] 1), (2, .blk [.vec 20 2, .vec 22 1] false), (20, .vec 9 1 [[.str [107]], [.str [118]]] 2), (22, .vec 22 1 [[.sl 1 [[.str [49]], [.str [121]]]]] 1), (3, .blk [.vec 24 2, .vec 26 1] false), (24, .vec 9 1 [[.str [107]], [.str [118]]] 2), (26, .vec 22 1 [[.sl 1 [[.str [49]], [.str [122]]]]] 1), (4, .blk [.vec 16 2, .vec 16 2, .vec 34 2, .int .i64 1, .int .i64 1, .vec 36 1, .nil, .nil, .vec 38 1, .nil, .nil] false), (34, .vec 45 2 [[.int .i64 0, .int .i64 0], [.int .i64 1, .int .i64 1]] 2), (36, .vec 45 2 [[.int .i64 0, .int .i64 0]] 1), (38, .vec 47 6 [[.int .i64 0, .int .i64 0, .int .i64 1, .int .i64 1, .str [120], .str [121]]] 1), (5, .blk lB false), (7, .blk lA false)]⟩) (fun _ => True) ?_ ?_
  · simp +contextual (maxSteps := 5000000) only [go_sem, ↓reduceIte, Int.reduceEq, Int.reduceNe, Int.reduceLT, Int.reduceLE, Int.reduceToNat, Int.cast_ofNat_Int, c_Ap, st_Ap, o4, p4]
    exact ⟨(), trivial⟩
  intro _ _
  simp +contextual (maxSteps := 5000000) only [go_sem, ↓reduceIte]
  refine M_join (fun _ : Unit => ⟨[(1, .loc 1 0), (2, .loc 2 0), (3, .loc 3 0), (4, .loc 4 0), (5, .loc 5 0), (6, .int .i64 0), (7, .loc 7 0), (8, .int .i64 0), (10, .int .i64 16), (12, .int .i64 14), (14, .int .i64 15)], [(1, .blk [.vec 16 2, .vec 18 1] false), (16, .vec 9 1 [[.str [107]], [.str [118]]] 2), (18, .vec 22 1 [[.sl 1 [[.str [49]], [.str [120]]]]] 1), (2, .blk [.vec 20 2, .vec 22 1] false), (20, .vec 9 1 [[.str [107]], [.str [118]]] 2), (22, .vec 22 1 [[.sl 1 [[.str [49]], [.str [121]]]]] 1), (3, .blk [.vec 24 2, .vec 26 1] false), (24, .vec 9 1 [[.str [107]], [.str [118]]] 2), (26, .vec 22 1 [[.sl 1 [[.str [49]], [.str [122]]]]] 1), (4, .blk [.vec 16 2, .vec 16 2, .vec 34 2, .int .i64 1, .int .i64 1, .vec 36 1, .nil, .nil, .vec 38 1, .nil, .nil] false), (34, .vec 45 2 [[.int .i64 0, .int .i64 0], [.int .i64 1, .int .i64 1]] 2), (36, .vec 45 2 [[.int .i64 0, .int .i64 0]] 1), (38, .vec 47 6 [[.int .i64 0, .int .i64 0, .int .i64 1, .int .i64 1, .str [120], .str [121]]] 1), (5, .blk lB false), (7, .blk lA false)]⟩) (fun _ => True) ?_ ?_
  · simp +contextual (maxSteps := 5000000) only [go_sem, ↓reduceIte, Int.reduceEq, Int.reduceNe, Int.reduceLT, Int.reduceLE, Int.reduceToNat, Int.cast_ofNat_Int, c_Ap, st_Ap, o5, p5]
    exact ⟨(), trivial⟩
  intro _ _
  simp +contextual (maxSteps := 5000000) only [go_sem, ↓reduceIte]
  refine M_join (fun _ : Unit => ⟨[(1, .loc 1 0), (3, .loc 3 0), (4, .loc 4 0), (6, .int .i64 0), (8, .int .i64 0), (10, .int .i64 16), (12, .int .i64 14), (14, .int .i64 15), (15, .bool true)], [(1, .blk [.vec 16 2, .vec 18 1] false), (16, .vec 9 1 [[.str [107]], [.str [118]]] 2), (18, .vec 22 1 [[.sl 1 [[.str [49]], [.str [120]]]]] 1), (3, .blk [.vec 24 2, .vec 26 1] false), (24, .vec 9 1 [[.str [107]], [.str [118]]] 2), (26, .vec 22 1 [[.sl 1 [[.str [49]], [.str [122]]]]] 1), (4, .blk [.vec 16 2, .vec 16 2, .vec 34 2, .int .i64 1, .int .i64 1, .vec 36 1, .nil, .nil, .vec 38 1, .nil, .nil] false), (34, .vec 45 2 [[.int .i64 0, .int .i64 0], [.int .i64 1, .int .i64 1]] 2), (36, .vec 45 2 [[.int .i64 0, .int .i64 0]] 1), (38, .vec 47 6 [[.int .i64 0, .int .i64 0, .int .i64 1, .int .i64 1, .str [120], .str [121]]] 1)]⟩) (fun _ => True) ?_ ?_
  · simp +contextual (maxSteps := 5000000) only [go_sem, ↓reduceIte, Int.reduceEq, Int.reduceNe, Int.reduceLT, Int.reduceLE, Int.reduceToNat, Int.cast_ofNat_Int, c_rTS, st_rTS, e1, e2, g1, g2]
    exact ⟨(), trivial⟩
  intro _ _
  simp +contextual (maxSteps := 5000000) only [go_sem, ↓reduceIte, Int.reduceEq, Int.reduceNe, Int.reduceLT, Int.reduceLE, Int.reduceToNat, Int.cast_ofNat_Int, c_Hld, st_Hld, h1, h2, g3, g4]
end Go.Proofs.YtknkjakppikjeaaGreat

set_option linter.unusedSimpArgs false
namespace Go.Proofs.YtknkjakppikjeaaGreat
open Go.Tn
set_option maxHeartbeats 8000000
set_option maxRecDepth 100000
/- what few gives: sizes -/
theorem sum_le {l : List Str} {c : Nat} (h : ∀ s ∈ l, s.length ≤ c) : (l.map List.length).sum ≤ l.length * c := by
  induction l with
  | nil => simp
  | cons x l ih =>
    have h1 := ih (fun s hs => h s (List.mem_cons.2 (.inr hs)))
    have h2 := h x (by simp)
    rw [List.map_cons, List.sum_cons, List.length_cons, Nat.succ_mul]; omega
theorem flat_len {l : List (List Str)} {c : Nat} (h : ∀ r ∈ l, r.length ≤ c) : l.flatten.length ≤ l.length * c := by
  induction l with
  | nil => simp
  | cons x l ih =>
    have h1 := ih (fun s hs => h s (List.mem_cons.2 (.inr hs)))
    have h2 := h x (by simp)
    rw [List.flatten_cons, List.length_append, List.length_cons, Nat.succ_mul]; omega
theorem gup_mem {m : MP} {k : Int × Int} {v : Str} {x : (Int × Int) × Str} (h : x ∈ gup m k v) : x ∈ m ∨ x = (k, v) := by
  induction m with
  | nil => simp only [gup, List.mem_cons, List.not_mem_nil, or_false] at h; exact .inr h
  | cons y m ih =>
    simp only [gup] at h
    split at h
    · rcases List.mem_cons.1 h with h | h
      · exact .inr h
      · exact .inl (List.mem_cons.2 (.inr h))
    · rcases List.mem_cons.1 h with h | h
      · exact .inl (List.mem_cons.2 (.inl h))
      · rcases ih h with h | h
        · exact .inl (List.mem_cons.2 (.inr h))
        · exact .inr h
theorem glk_mem {m : MP} {k : Int × Int} : glk [] m k = [] ∨ ∃ x ∈ m, x.2 = glk [] m k := by
  induction m with
  | nil => exact .inl rfl
  | cons y m ih =>
    simp only [glk]
    split
    · exact .inr ⟨y, by simp, rfl⟩
    · rcases ih with h | ⟨x, hx, e⟩
      · exact .inl h
      · exact .inr ⟨x, List.mem_cons.2 (.inr hx), e⟩
theorem gainM_mem {l : List Sp} {m : MP} {x : (Int × Int) × Str} (h : x ∈ l.foldl (fun m x => gup m (x.1, x.2.1) x.2.2) m) : x ∈ m ∨ x.2 ∈ txP l := by
  induction l generalizing m with
  | nil => exact .inl h
  | cons y l ih =>
    rcases ih h with h | h
    · rcases gup_mem h with h | h
      · exact .inl h
      · exact .inr (by rw [h]; simp [txP])
    · exact .inr (by simp only [txP, List.map_cons, List.mem_cons] at h ⊢; exact .inr h)
theorem setM_mem {l : List St6} {m : MP} {x : (Int × Int) × Str} (h : x ∈ setM m l) : x ∈ m ∨ x.2 ∈ txS l := by
  unfold setM at h
  induction l generalizing m with
  | nil => exact .inl h
  | cons y l ih =>
    rcases ih h with h | h
    · rcases gup_mem h with h | h
      · exact .inl h
      · exact .inr (by rw [h]; simp [txS])
    · exact .inr (by simp only [txS, List.flatMap_cons, List.mem_append] at h ⊢; exact .inr h)
theorem setO_mem {β : Type} {f : β → Int} {v : β → List Str} : ∀ {l : List β} {m : OR'} {o : Option (List Str)}, o ∈ setO f v m l → o ∈ m ∨ ∃ x ∈ l, o = some (v x)
  | [], _, _, h => .inl h
  | x :: l, m, o, h => by
    rcases setO_mem (l := l) (m := m.set (f x).toNat (some (v x))) h with h | ⟨y, hy, e⟩
    · rcases List.mem_or_eq_of_mem_set h with h | h
      · exact .inl h
      · exact .inr ⟨x, by simp, h⟩
    · exact .inr ⟨y, by simp [hy], e⟩
structure Sm (d : Dl) : Prop where
  cnt : cntN d ≤ 300
  na : d.na ≤ 60
  nb : d.nb ≤ 60
  dels : (txL d.dels).length ≤ 2000
  inss : (txL d.inss).length ≤ 2000
  texts : ∀ s ∈ txF d, s.length ≤ 2000
theorem mxL_le {l : List Str} {s : Str} (h : s ∈ l) : s.length ≤ mxL l := by
  suffices ∀ (l : List Str) (n : Nat), n ≤ l.foldl (fun n s => max n s.length) n ∧ ∀ s ∈ l, s.length ≤ l.foldl (fun n s => max n s.length) n from (this l 0).2 s h
  intro l
  induction l with
  | nil => intro n; simp
  | cons x l ih =>
    intro n
    have := ih (max n x.length)
    refine ⟨by have := this.1; simp only [List.foldl_cons]; omega, fun s hs => ?_⟩
    rcases List.mem_cons.1 hs with rfl | hs
    · have := this.1; simp only [List.foldl_cons]; omega
    · exact this.2 s hs
theorem few_sm {d : Dl} (h : fewF d = true) : Sm d := by
  unfold fewF at h
  simp only [Bool.and_eq_true, decide_eq_true_eq] at h
  obtain ⟨⟨hn, h1, h2⟩, hm⟩ := h
  exact ⟨hn, h1, h2, by omega, by omega, fun s hs => by have := mxL_le hs; omega⟩
theorem txF_turn (d : Dl) (s : Str) : s ∈ txF (turnD d) ↔ s ∈ txF d := by
  have e1 : ∀ a b : List Ln, txL (a ++ b) = txL a ++ txL b := fun a b => by unfold txL; simp
  have e2 : ∀ a b : List Sp, txP (a ++ b) = txP a ++ txP b := fun a b => by unfold txP; simp
  have e3 : s ∈ txS (turnSs d.sets) ↔ s ∈ txS d.sets := by
    unfold txS turnSs
    simp only [List.mem_flatMap]
    constructor
    · rintro ⟨x, hx, hs⟩
      have hx := (perm_turnSs d.sets).mem_iff.1 hx
      obtain ⟨y, hy, rfl⟩ := List.mem_map.1 hx
      refine ⟨y, hy, ?_⟩
      simp only [turnS, List.mem_cons, List.not_mem_nil, or_false] at hs ⊢
      exact hs.symm
    · rintro ⟨x, hx, hs⟩
      refine ⟨turnS x, (perm_turnSs d.sets).mem_iff.2 (List.mem_map.2 ⟨x, hx, rfl⟩), ?_⟩
      simp only [turnS, List.mem_cons, List.not_mem_nil, or_false] at hs ⊢
      exact hs.symm
  unfold txF
  simp only [turnD, e1, e2, List.mem_append, e3]
  constructor <;> · rintro ((((h | h) | h | h) | h) | h | h) <;> simp [h]
theorem Sm.turn {d : Dl} (h : Sm d) : Sm (turnD d) := by
  have c := h.cnt
  refine ⟨?_, h.nb, h.na, h.inss, h.dels, fun s hs => h.texts s ((txF_turn d s).1 hs)⟩
  unfold cntN at c ⊢
  simp only [turnD, turnP_len, turnSs_len]
  omega
theorem line_le {l : List Ln} {x : Ln} (h : x ∈ l) : x.2.length ≤ (txL l).length := by
  unfold txL
  obtain ⟨a, b, rfl⟩ := List.append_of_mem h
  simp; omega
theorem Sm.okDl {d : Dl} (h : Sm d) : okDl d := by
  have c := h.cnt
  have := h.dels
  have := h.inss
  unfold cntN at c
  have hc : (txL (d.dels ++ d.inss)).length = (txL d.dels).length + (txL d.inss).length := by unfold txL; simp
  constructor <;> omega
theorem Sm.okTD {d : Dl} (h : Sm d) {t : Tab} (ht : okTb t) : okTD t d := by
  have := h.na
  have := h.nb
  refine ⟨ht, h.okDl, by omega, by omega, fun x hx => ?_⟩
  have := line_le hx
  have hc : (txL (d.dels ++ d.inss)).length = (txL d.dels).length + (txL d.inss).length := by unfold txL; simp
  have := h.dels
  have := h.inss
  omega
/- a table whose texts are small -/
structure SmT (t : Tab) : Prop where
  ok : okTb t
  texts : ∀ s ∈ alF t, s.length ≤ 8000
theorem cell_small {t : Tab} (h : SmT t) (i j : Int) : (cellF t i j).length ≤ 8000 := by
  unfold cellF
  split
  · simp
  · rename_i g
    refine h.texts _ ?_
    unfold alF
    refine List.mem_flatten.2 ⟨t.2.getD i.toNat [], List.mem_cons.2 (.inr (getD_mem (by omega))), getD_mem (by omega)⟩
theorem few3_sz : ∀ {l : List (List Str)} {n : Nat}, fewOut l n = true → ∀ r ∈ l, r.length ≤ 60
  | [], _, _, r, hr => by simp at hr
  | x :: l, n, h, r, hr => by
    simp only [fewOut] at h
    split at h
    · cases h
    · rename_i hx
      rcases List.mem_cons.1 hr with rfl | hr
      · omega
      · cases hf : fewIn x n with
        | none => rw [hf] at h; cases h
        | some m => rw [hf] at h; exact few3_sz (n := m) h r hr
theorem alF_sum (t : Tab) : ((alF t).map List.length).sum = slen t.1 + rlen t.2 := by
  have : ∀ l : List (List Str), (l.flatten.map List.length).sum = rlen l := by
    intro l
    induction l with
    | nil => rfl
    | cons x l ih => rw [List.flatten_cons, List.map_append, List.sum_append, ih]; rfl
  unfold alF
  rw [this]; rfl
theorem mem_sum {l : List Str} {s : Str} (h : s ∈ l) : s.length ≤ (l.map List.length).sum := by
  obtain ⟨a, b, rfl⟩ := List.append_of_mem h
  simp; omega
theorem few4_sm {t : Tab} (h : few4 t = true) : SmT t := by
  unfold few4 at h
  simp only [Bool.and_eq_true, decide_eq_true_eq] at h
  obtain ⟨⟨h1, h2⟩, h3⟩ := h
  have hs := alF_sum t
  unfold few3 at h1
  have hr : t.2.length ≤ 60 := by
    by_cases g : 60 < t.2.length
    · rw [if_pos g] at h1; cases h1
    · omega
  refine ⟨⟨by omega, by omega, by omega⟩, fun s hs' => ?_⟩
  have := mem_sum hs'
  omega
theorem resT_len (t : Tab) (d : Dl) : (resT t d).2.length = d.nb.toNat := by
  unfold resT finO rowO insO
  rw [List.length_map, setO_len, setO_len, List.length_replicate]
theorem ce_small {t : Tab} {d : Dl} (ht : SmT t) (h : Sm d) (i k q : Int) : (ceF t (toldM d) (fromM d.cols) i k q).length ≤ 8000 := by
  unfold ceF
  split
  · rcases glk_mem (m := toldM d) (k := (k, q)) with e | ⟨x, hx, e⟩
    · rw [e]; simp
    · rw [← e]
      have e2 : ∀ a b : List Sp, txP (a ++ b) = txP a ++ txP b := fun a b => by unfold txP; simp
      have : x.2 ∈ txF d := by
        unfold txF
        rw [e2]
        simp only [List.mem_append]
        rcases setM_mem hx with hx | hx
        · rcases gainM_mem hx with hx | hx
          · cases hx
          · exact .inr (.inr hx)
        · exact .inl (.inr hx)
      have := h.texts _ this
      omega
  · exact cell_small ht _ _
theorem res_rows {t : Tab} {d : Dl} (ht : SmT t) (h : Sm d) : ∀ r ∈ (resT t d).2, r.length ≤ 2000 ∧ ∀ s ∈ r, s.length ≤ 8000 := by
  intro r hr
  unfold resT at hr
  obtain ⟨o, ho, rfl⟩ := List.mem_map.1 hr
  unfold finO rowO at ho
  rcases setO_mem ho with ho | ⟨p, hp, rfl⟩
  · unfold insO at ho
    rcases setO_mem ho with ho | ⟨x, hx, rfl⟩
    · obtain ⟨_, rfl⟩ := List.mem_replicate.1 ho
      simp
    · have h1 := line_le hx
      have h2 := h.inss
      refine ⟨by simp only [Option.getD_some]; omega, fun s hs => ?_⟩
      have e1 : ∀ a b : List Ln, txL (a ++ b) = txL a ++ txL b := fun a b => by unfold txL; simp
      have : s ∈ txF d := by
        unfold txF
        rw [e1]
        simp only [List.mem_append]
        exact .inl (.inl (.inr (.inr (List.mem_flatMap.2 ⟨x, hx, hs⟩))))
      have := h.texts _ this
      omega
  · have c := h.cnt
    unfold cntN at c
    simp only [Option.getD_some]
    refine ⟨by unfold nrow rowF; rw [List.length_map, List.length_range]; omega, fun s hs => ?_⟩
    unfold nrow rowF at hs
    obtain ⟨q, _, rfl⟩ := List.mem_map.1 hs
    exact ce_small ht h _ _ _
theorem res_sm {t : Tab} {d : Dl} (ht : SmT t) (h : Sm d) : SmT (resT t d) := by
  have hr := res_rows ht h
  have hl := resT_len t d
  have c := h.cnt
  have hb := h.nb
  unfold cntN at c
  have htx : ∀ s ∈ alF (resT t d), s.length ≤ 8000 := by
    intro s hs
    unfold alF at hs
    obtain ⟨r, hr', hs⟩ := List.mem_flatten.1 hs
    rcases List.mem_cons.1 hr' with rfl | hr'
    · have : s ∈ txF d := by
        unfold txF
        simp only [List.mem_append]
        exact .inl (.inl (.inl (.inr hs)))
      have := h.texts _ this
      omega
    · exact (hr r hr').2 s hs
  have hB : (resT t d).1.length ≤ 300 := by show d.B.length ≤ 300; omega
  have h1 := sum_le htx
  have h2 : (alF (resT t d)).length ≤ 122000 := by
    unfold alF
    have := flat_len (l := (resT t d).1 :: (resT t d).2) (c := 2000) (fun r h' => by
      rcases List.mem_cons.1 h' with rfl | h'
      · omega
      · exact (hr r h').1)
    rw [List.length_cons] at this
    omega
  generalize resT t d = u at *
  refine ⟨⟨by omega, by omega, ?_⟩, htx⟩
  omega
theorem few_ap {t : Tab} {d : Dl} (h1 : few4 t = true) (h2 : fewF d = true) : okAp (eTb t) (eDl d) (dDl (eDl d)) := by
  rw [dDl_eDl]
  refine ⟨?_, ?_, ?_, ?_⟩
  · rw [dTb_eTb]; exact wkL_self _
  · rw [dDl_eDl]; exact wkL_self _
  · rw [dTb_eTb]; exact (few_sm h2).okTD (few4_sm h1).ok
  · rw [dTb_eTb]; exact (res_sm (few4_sm h1) (few_sm h2)).ok
end Go.Proofs.YtknkjakppikjeaaGreat

set_option linter.unusedSimpArgs false
namespace Go.Proofs.YtknkjakppikjeaaGreat
open Go.Tn
set_option maxHeartbeats 8000000
set_option maxRecDepth 100000
def c_works (caps args : List D) : Prop × Out := match caps, args with | [], [] => (True, .ret (.bool true)) | _, _ => (False, .ret .any)
theorem st_works : StC Tryz.prog 5 c_works := by
  intro caps args; unfold c_works; split
  · exact fun _ => fc_works
  · exact fun h => h.elim
def c_DChk (caps args : List D) : Prop × Out := match caps, args with | [], [.agg r] => (wkL r (eDl (dDl r)) ∧ okDl (dDl r) ∧ (dDl r).na < 1000000000 ∧ (dDl r).nb < 1000000000, .ret (.int .i64 (chkD (dDl r)))) | _, _ => (False, .ret .any)
theorem st_DChk : StC Tryz.prog 54 c_DChk := by
  intro caps args; unfold c_DChk; split
  · exact fun h => fc_wk (wkL_self []) (wk_agg1 h.1) (by intro ys h; cases h) (fc_DCheck _ h.2.1 h.2.2.1 h.2.2.2)
  · exact fun h => h.elim
theorem eTb_lit (t : Tab) : eTb t = [.sl 1 (t.1.map eS), .sl 1 (t.2.map eR)] := rfl
theorem wrong_zero {t : Tab} {d : Dl} (h : wrongF t d = 0) : tchk t = 0 ∧ chkD d = 0 ∧ t.1 = d.A ∧ (t.2.length : Int) = d.na ∧ heldF t d = true := by
  unfold wrongF at h
  by_cases a : tchk t = 0
  · rw [if_neg (fun h => h a)] at h
    by_cases b : chkD d = 0
    · rw [if_neg (fun h => h b)] at h
      by_cases c : t.1 = d.A
      · rw [if_neg (fun h => h c)] at h
        by_cases e : (t.2.length : Int) = d.na
        · rw [if_neg (fun h => h e)] at h
          cases g : heldF t d with
          | false => rw [if_pos g] at h; cases h
          | true => exact ⟨a, b, c, e, rfl⟩
        · rw [if_pos e] at h; cases h
      · rw [if_pos c] at h; cases h
    · rw [if_pos b] at h; exact absurd h b
  · rw [if_pos a] at h; exact absurd h a
theorem ap_zero {t : Tab} {d : Dl} (h : apE t d = 0) : wrongF t d = 0 ∧ tchk (resT t d) = 0 := by
  unfold apE at h
  by_cases a : wrongF t d = 0
  · rw [if_neg (fun h => h a)] at h; exact ⟨a, h⟩
  · rw [if_pos a] at h; exact absurd h a
structure HeldP (t : Tab) (d : Dl) : Prop where
  dels : ∀ x ∈ d.dels, 0 ≤ x.1 ∧ x.1 < t.2.length ∧ t.2.getD x.1.toNat [] = x.2
  sets : ∀ x ∈ d.sets, cellF t x.i x.p = x.o
  lost : ∀ x ∈ d.lost, cellF t x.1 x.2.1 = x.2.2
theorem heldF_iff (t : Tab) (d : Dl) : heldF t d = true ↔ HeldP t d := by
  unfold heldF
  simp only [Bool.and_eq_true, Bool.not_eq_true', List.any_eq_false, delF, setF, lostF, Bool.or_eq_true, decide_eq_true_eq, not_or, Classical.not_not]
  constructor
  · rintro ⟨⟨h1, h2⟩, h3⟩
    exact ⟨fun x hx => by have := h1 x hx; exact ⟨by omega, by omega, this.2⟩, h2, h3⟩
  · rintro ⟨h1, h2, h3⟩
    exact ⟨⟨fun x hx => by have := h1 x hx; exact ⟨⟨by omega, by omega⟩, this.2.2⟩, h2⟩, h3⟩
end Go.Proofs.YtknkjakppikjeaaGreat
