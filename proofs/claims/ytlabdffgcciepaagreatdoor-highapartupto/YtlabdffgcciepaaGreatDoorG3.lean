/-
  What the functions compute that the law of this claim reaches. By an AI agent.
-/
import Derived.Test.YtlabdffgcciepaaGreatDoorRows
import Derived.WalkKit
import Derived.ProofKit
import Derived.Test.YtlabdffgcciepaaGreatDoorG2
set_option linter.unusedSimpArgs false
set_option linter.unusedVariables false
set_option linter.unusedSectionVars false
namespace Go.Proofs.YtlabdffgcciepaaGreatDoor
open Go.Tn
set_option maxHeartbeats 8000000
set_option maxRecDepth 100000
end Go.Proofs.YtlabdffgcciepaaGreatDoor
namespace Go.Proofs.YtlabdffgcciepaaGreatDoor
open Go.Tn
set_option maxHeartbeats 8000000
set_option maxRecDepth 100000
def stP (l : List (Int × Int)) : List (Int × Int) := (stF l).map fun j => l.getD j.toNat (0, 0)
theorem stR_len : ∀ (n : List Int) (k : List (Int × Int)) (i want : Int) (last : Option Int), (stR i k n want last).length ≤ k.length
  | [], k, i, want, last => by cases k <;> simp [stR]
  | _ :: _, [], i, want, last => by simp [stR]
  | m :: n, p :: k, i, want, last => by
    simp only [stR]
    split
    · have := stR_len n k (i + 1) (want - 1) (some p.1)
      simp only [List.length_cons]; omega
    · have := stR_len n k (i + 1) want last
      simp only [List.length_cons]; omega
theorem stF_len (l : List (Int × Int)) : (stF l).length ≤ l.length := stR_len _ _ _ _ _
def bbF (l : List (Int × Int)) (b : Int) : Int × Int := l.foldl (fun p q => if q.2 = b then q else p) (-1, b)
def byF (l : List (Int × Int)) (nb : Nat) : List (Int × Int) := (List.range nb).map fun b : Nat => bbF l b
theorem byF_len (l : List (Int × Int)) (b : Nat) : (byF l b).length = b := by simp [byF]
def stpF (S : List Int) (a : Int) (q : Int × Int) : Bool := decide (q.1 ∈ S) && (decide (0 ≤ q.2) && decide (a < q.1))
def plI (S : List Int) (a : Int) (L : List (Int × Int)) : Nat := (L.takeWhile fun q => !stpF S a q).length
end Go.Proofs.YtlabdffgcciepaaGreatDoor
namespace Go.Proofs.YtlabdffgcciepaaGreatDoor
open Go.Tn
set_option maxHeartbeats 8000000
set_option maxRecDepth 100000
def insW (S : List Int) (L : List (Int × Int)) (a : Int) : List (Int × Int) := L.take (plI S a L) ++ (a, -1) :: L.drop (plI S a L)
def odW (S : List Int) (gone : List Int) (L : List (Int × Int)) : List (Int × Int) := gone.foldl (insW S) L
theorem plI_le (S : List Int) (a : Int) (L : List (Int × Int)) : plI S a L ≤ L.length := (List.takeWhile_sublist _).length_le
theorem insW_len (S : List Int) (L : List (Int × Int)) (a : Int) : (insW S L a).length = L.length + 1 := by
  have := plI_le S a L
  unfold insW
  simp; omega
theorem odW_take {S gone : List Int} {L : List (Int × Int)} {i : Nat} (h : i < gone.length) : odW S (gone.take (i + 1)) L = insW S (odW S (gone.take i) L) (gone.getD i 0) := by
  unfold odW
  rw [List.take_add_one, List.getElem?_eq_getElem h, List.foldl_append, List.getD_eq_getElem?_getD, List.getElem?_eq_getElem h]; rfl
theorem odW_len (S : List Int) : ∀ (gone : List Int) (L : List (Int × Int)), (odW S gone L).length = L.length + gone.length
  | [], L => rfl
  | a :: g, L => by
    have := odW_len S g (insW S L a)
    rw [insW_len] at this
    show (odW S g (insW S L a)).length = _
    rw [this]; simp; omega
def odF (l : List (Int × Int)) (na nb : Int) : List (Int × Int) := odW ((stP l).map (·.1)) (rsL (l.map (·.1)) na.toNat) (byF l nb.toNat)
def odT (l : List (Int × Int)) (na nb : Int) : List (Int × Int) := if chk l na nb = 0 then odF l na nb else []
end Go.Proofs.YtlabdffgcciepaaGreatDoor
namespace Go.Proofs.YtlabdffgcciepaaGreatDoor
open Go.Tn
set_option maxHeartbeats 8000000
set_option maxRecDepth 100000
end Go.Proofs.YtlabdffgcciepaaGreatDoor
namespace Go.Proofs.YtlabdffgcciepaaGreatDoor
open Go.Tn
set_option maxHeartbeats 8000000
set_option maxRecDepth 100000
def tkA (x : Int) (G : List Int) : List Int := G.takeWhile fun a => !decide (x < a)
def dpA (x : Int) (G : List Int) : List Int := G.dropWhile fun a => !decide (x < a)
def gnP (G : List Int) : List (Int × Int) := G.map fun a => (a, -1)
def wvF (st : Int × Int → Bool) : List (Int × Int) → List Int → List (Int × Int)
  | [], G => gnP G
  | p :: r, G => if st p = true then gnP (tkA p.1 G) ++ p :: wvF st r (dpA p.1 G) else p :: wvF st r G
theorem wvF_congr {st st' : Int × Int → Bool} : ∀ (L : List (Int × Int)) (G : List Int), (∀ p ∈ L, st p = st' p) → wvF st L G = wvF st' L G
  | [], _, _ => rfl
  | p :: r, G, h => by
    simp only [wvF, h p (by simp)]
    rw [wvF_congr r _ (fun q hq => h q (by simp [hq])), wvF_congr r _ (fun q hq => h q (by simp [hq]))]
theorem wvF_nil (st : Int × Int → Bool) : ∀ L : List (Int × Int), wvF st L [] = L
  | [] => rfl
  | p :: r => by simp [wvF, tkA, dpA, gnP, wvF_nil st r]
theorem wvF_len (st : Int × Int → Bool) : ∀ (L : List (Int × Int)) (G : List Int), (wvF st L G).length = L.length + G.length
  | [], G => by simp [wvF, gnP]
  | p :: r, G => by
    have h1 := congrArg List.length (List.takeWhile_append_dropWhile (p := fun a => !decide (p.1 < a)) (l := G))
    rw [List.length_append] at h1
    simp only [wvF]
    split
    · rw [List.length_append, List.length_cons, wvF_len]
      simp only [gnP, tkA, dpA, List.length_map, List.length_cons] at h1 ⊢
      omega
    · rw [List.length_cons, wvF_len]; simp only [List.length_cons]; omega
theorem insW_stop {S : List Int} {a : Int} {q : Int × Int} {L : List (Int × Int)} (h : stpF S a q = true) : insW S (q :: L) a = (a, -1) :: q :: L := by
  simp [insW, plI, h]
theorem insW_skip {S : List Int} {a : Int} {q : Int × Int} {L : List (Int × Int)} (h : stpF S a q = false) : insW S (q :: L) a = q :: insW S L a := by
  simp [insW, plI, h]
theorem insW_gone (S : List Int) (a : Int) (L : List (Int × Int)) : ∀ G : List Int, insW S (gnP G ++ L) a = gnP G ++ insW S L a
  | [] => rfl
  | x :: G => by
    have := insW_gone S a L G
    simp only [gnP, List.map_cons, List.cons_append] at this ⊢
    rw [insW_skip (by simp [stpF]), this]
def stW (S : List Int) (p : Int × Int) : Bool := decide (p.1 ∈ S) && decide (0 ≤ p.2)
theorem gnP_snoc (G : List Int) (a : Int) : gnP (G ++ [a]) = gnP G ++ [(a, -1)] := by simp [gnP]
theorem tk_all {x : Int} : ∀ {G : List Int}, (∀ y ∈ G, ¬ x < y) → tkA x G = G ∧ dpA x G = []
  | [], _ => ⟨rfl, rfl⟩
  | y :: G, h => by
    obtain ⟨h1, h2⟩ := tk_all (x := x) (G := G) (fun z hz => h z (by simp [hz]))
    have hy := h y (by simp)
    simp only [tkA, dpA] at h1 h2 ⊢
    simp [hy, h1, h2]
theorem tk_snoc {x a : Int} (ha : x < a) : ∀ G : List Int, tkA x (G ++ [a]) = tkA x G ∧ dpA x (G ++ [a]) = dpA x G ++ [a]
  | [] => by simp [tkA, dpA, ha]
  | y :: G => by
    obtain ⟨h1, h2⟩ := tk_snoc ha G
    simp only [tkA, dpA] at h1 h2 ⊢
    by_cases h : x < y
    · simp [h]
    · simp only [List.cons_append, List.takeWhile_cons, List.dropWhile_cons, h, decide_false, Bool.not_false, if_true]
      rw [h1, h2]; exact ⟨rfl, rfl⟩
theorem dp_sub (x : Int) (G : List Int) : ∀ y ∈ dpA x G, y ∈ G := fun _ hy => (List.dropWhile_sublist _).subset hy
theorem wv_snoc (S : List Int) (a : Int) : ∀ (L : List (Int × Int)) (G : List Int), (∀ x ∈ G, x < a) → (∀ p ∈ L, p.1 ≠ a) → insW S (wvF (stW S) L G) a = wvF (stW S) L (G ++ [a])
  | [], G, _, _ => by
    have := insW_gone S a [] G
    rw [List.append_nil] at this
    show insW S (gnP G) a = gnP (G ++ [a])
    rw [this, gnP_snoc]; rfl
  | p :: r, G, hG, hL => by
    have hp := hL p (by simp)
    simp only [wvF]
    by_cases hs : stW S p = true
    · rw [if_pos hs, if_pos hs, insW_gone]
      simp only [stW, Bool.and_eq_true, decide_eq_true_eq] at hs
      by_cases hlt : a < p.1
      · obtain ⟨h1, h2⟩ := tk_all (x := p.1) (G := G) (fun y hy => by have := hG y hy; omega)
        obtain ⟨h3, h4⟩ := tk_all (x := p.1) (G := G ++ [a]) (fun y hy => by
          rcases List.mem_append.1 hy with hy | hy
          · have := hG y hy; omega
          · have : y = a := by simpa using hy
            omega)
        rw [h1, h2, h3, h4, insW_stop (by simp [stpF, hs.1, hs.2, hlt]), gnP_snoc, List.append_assoc]; rfl
      · obtain ⟨h1, h2⟩ := tk_snoc (x := p.1) (a := a) (by omega) G
        rw [h1, h2, insW_skip (by simp [stpF, hlt]), wv_snoc S a r _ (fun x hx => hG x (dp_sub _ _ x hx)) (fun q hq => hL q (by simp [hq]))]
    · rw [if_neg hs, if_neg hs, insW_skip, wv_snoc S a r G hG (fun q hq => hL q (by simp [hq]))]
      simp only [stW, Bool.and_eq_true, decide_eq_true_eq] at hs
      simp only [stpF, Bool.and_eq_false_imp, decide_eq_true_eq]
      intro h1 h2
      exact absurd ⟨h1, h2⟩ hs
theorem odW_wv (S : List Int) (L : List (Int × Int)) (G : List Int) (hG : G.Pairwise (· < ·)) (hL : ∀ p ∈ L, p.1 ∉ G) : odW S G L = wvF (stW S) L G := by
  have key : ∀ k, k ≤ G.length → odW S (G.take k) L = wvF (stW S) L (G.take k) := by
    intro k
    induction k with
    | zero => intro _; rw [List.take_zero, wvF_nil]; rfl
    | succ k ih =>
      intro hk
      have hk' : k < G.length := by omega
      rw [odW_take hk', ih (by omega), List.take_add_one, List.getElem?_eq_getElem hk', List.getD_eq_getElem?_getD, List.getElem?_eq_getElem hk', Option.getD_some, Option.toList_some]
      refine wv_snoc S _ L _ (fun x hx => ?_) (fun p hp e => hL p hp (by rw [e]; exact List.getElem_mem hk'))
      obtain ⟨i, hi, rfl⟩ := List.getElem_of_mem hx
      simp only [List.length_take] at hi
      rw [List.getElem_take]
      exact List.pairwise_iff_getElem.1 hG i k (by omega) hk' (by omega)
  have := key G.length (Nat.le_refl _)
  rwa [List.take_length] at this
theorem rsL_up (l : List Int) (n : Nat) : (rsL l n).Pairwise (· < ·) := by
  unfold rsL
  rw [List.pairwise_map]
  refine List.Pairwise.imp (R := fun a b => a < b) (fun h => by omega) ?_
  exact (List.pairwise_lt_range).filter _
theorem bbF_cases (b : Int) (l : List (Int × Int)) : (∃ q ∈ l, q.2 = b ∧ bbF l b = q) ∨ ((∀ q ∈ l, q.2 ≠ b) ∧ bbF l b = (-1, b)) := by
  have gen : ∀ (l : List (Int × Int)) (acc : Int × Int), (∃ q ∈ l, q.2 = b ∧ l.foldl (fun p q => if q.2 = b then q else p) acc = q) ∨ ((∀ q ∈ l, q.2 ≠ b) ∧ l.foldl (fun p q => if q.2 = b then q else p) acc = acc) := by
    intro l
    induction l with
    | nil => intro acc; exact .inr ⟨by simp, rfl⟩
    | cons x r ih =>
      intro acc
      rw [List.foldl_cons]
      by_cases e : x.2 = b
      · rw [if_pos e]
        rcases ih x with ⟨q, hq, h1, h2⟩ | ⟨h1, h2⟩
        · exact .inl ⟨q, by simp [hq], h1, h2⟩
        · exact .inl ⟨x, by simp, e, h2⟩
      · rw [if_neg e]
        rcases ih acc with ⟨q, hq, h1, h2⟩ | ⟨h1, h2⟩
        · exact .inl ⟨q, by simp [hq], h1, h2⟩
        · refine .inr ⟨fun q hq => ?_, h2⟩
          rcases List.mem_cons.1 hq with rfl | hq
          · exact e
          · exact h1 q hq
  exact gen l _
theorem stP_mem {l : List (Int × Int)} {p : Int × Int} (h : p ∈ stP l) : p ∈ l := by
  obtain ⟨j, hj, rfl⟩ := List.mem_map.1 h
  have := stF_in l j hj
  exact getD_mem (by omega)
theorem Good.lt {l : List (Int × Int)} {na nb : Int} (g : Good l na nb) : l.Pairwise (fun p q => p.2 < q.2) := by
  have h1 := g.up
  have h2 := List.pairwise_map.1 (List.nodup_iff_pairwise_ne.1 g.nb)
  refine (h1.and h2).imp fun ⟨a, b⟩ => ?_
  omega
def stB (l : List (Int × Int)) (p : Int × Int) : Bool := decide (p.2 ∈ (stP l).map (·.2))
theorem stB_eq {l : List (Int × Int)} {na nb : Int} (g : Good l na nb) {b : Nat} : stB l (bbF l b) = stW ((stP l).map (·.1)) (bbF l b) := by
  unfold stB stW
  rw [Bool.eq_iff_iff]
  simp only [decide_eq_true_eq, Bool.and_eq_true]
  rcases bbF_cases b l with ⟨q, hq, h1, h2⟩ | ⟨h1, h2⟩
  · rw [h2]
    have hb := g.inn q hq
    unfold inB at hb
    constructor
    · intro h
      obtain ⟨r, hr, e⟩ := List.mem_map.1 h
      have : r = q := inj_at g.nb (stP_mem hr) hq e
      subst this
      exact ⟨List.mem_map.2 ⟨r, hr, rfl⟩, by omega⟩
    · rintro ⟨h, _⟩
      obtain ⟨r, hr, e⟩ := List.mem_map.1 h
      have : r = q := inj_at g.na (stP_mem hr) hq e
      subst this
      exact List.mem_map.2 ⟨r, hr, rfl⟩
  · rw [h2]
    constructor
    · intro h
      obtain ⟨r, hr, e⟩ := List.mem_map.1 h
      exact absurd e (h1 r (stP_mem hr))
    · rintro ⟨h, _⟩
      obtain ⟨r, hr, e⟩ := List.mem_map.1 h
      have := g.inn r (stP_mem hr)
      unfold inB at this
      simp only at e; omega
theorem od_wv {l : List (Int × Int)} {na nb : Int} (g : Good l na nb) : odF l na nb = wvF (stB l) (byF l nb.toNat) (rsL (l.map (·.1)) na.toNat) := by
  have e : odF l na nb = odW ((stP l).map (·.1)) (rsL (l.map (·.1)) na.toNat) (byF l nb.toNat) := rfl
  rw [e, odW_wv _ _ _ (rsL_up _ _), wvF_congr]
  · intro p hp
    obtain ⟨b, _, rfl⟩ := List.mem_map.1 hp
    exact (stB_eq g).symm
  · intro p hp hr
    obtain ⟨b, _, rfl⟩ := List.mem_map.1 hp
    obtain ⟨⟨h0, _⟩, h1⟩ := mem_rsL.1 hr
    rcases bbF_cases b l with ⟨q, hq, _, h2⟩ | ⟨_, h2⟩
    · rw [h2] at h1; exact h1 (List.mem_map.2 ⟨q, hq, rfl⟩)
    · rw [h2] at h0; simp only at h0; omega
def leftOk (l R : List (Int × Int)) (b : Nat) : Prop := ∃ k, R = l.drop k ∧ (∀ q ∈ l.take k, q.2 < b) ∧ ∀ q ∈ R, (b : Int) ≤ q.2
theorem left_0 {l : List (Int × Int)} {na nb : Int} (g : Good l na nb) : leftOk l l 0 := ⟨0, rfl, by simp, fun q hq => by
  have := g.inn q hq
  unfold inB at this
  omega⟩
theorem left_hit {l R : List (Int × Int)} {b : Nat} {na nb : Int} (g : Good l na nb) {p : Int × Int} (h : leftOk l (p :: R) b) (hp : p.2 = b) : bbF l b = p ∧ leftOk l R (b + 1) := by
  obtain ⟨k, h1, h2, h3⟩ := h
  have hpl : p ∈ l := (List.drop_sublist k l).subset (by rw [← h1]; simp)
  have hup := List.Pairwise.sublist (List.drop_sublist k l) g.lt
  rw [← h1, List.pairwise_cons] at hup
  constructor
  · rcases bbF_cases b l with ⟨q, hq, e1, e2⟩ | ⟨e1, _⟩
    · rw [e2]; exact inj_at g.nb hq hpl (by rw [e1, hp])
    · exact absurd hp (e1 p hpl)
  · have hk : k < l.length := by
      rcases Nat.lt_or_ge k l.length with h | h
      · exact h
      · rw [List.drop_of_length_le h] at h1; cases h1
    have hd := List.drop_eq_getElem_cons hk
    rw [← h1] at hd
    obtain ⟨e1, e2⟩ := List.cons.inj hd
    refine ⟨k + 1, e2, fun q hq => ?_, fun q hq => ?_⟩
    · rw [List.take_add_one, List.getElem?_eq_getElem hk, ← e1] at hq
      rcases List.mem_append.1 hq with hq | hq
      · have := h2 q hq; omega
      · have : q = p := by simpa using hq
        rw [this]; omega
    · have := hup.1 q hq; omega
theorem left_miss {l R : List (Int × Int)} {b : Nat} (h : leftOk l R b) (hp : ∀ p r, R = p :: r → p.2 ≠ b) {na nb : Int} (g : Good l na nb) : bbF l b = (-1, (b : Int)) ∧ leftOk l R (b + 1) := by
  obtain ⟨k, h1, h2, h3⟩ := h
  have hup := List.Pairwise.sublist (List.drop_sublist k l) g.lt
  rw [← h1] at hup
  have hn : ∀ q ∈ R, (b : Int) < q.2 := by
    cases R with
    | nil => simp
    | cons p r =>
      have hpp := h3 p (by simp)
      have hpb := hp p r rfl
      intro q hq
      rcases List.mem_cons.1 hq with rfl | hq
      · omega
      · have := (List.pairwise_cons.1 hup).1 q hq; omega
  constructor
  · rcases bbF_cases b l with ⟨q, hq, e1, _⟩ | ⟨_, e2⟩
    · rw [← List.take_append_drop k l, ← h1] at hq
      rcases List.mem_append.1 hq with hq | hq
      · have := h2 q hq; omega
      · have := hn q hq; omega
    · exact e2
  · refine ⟨k, h1, fun q hq => ?_, fun q hq => ?_⟩
    · have := h2 q hq; omega
    · have := hn q hq; omega
theorem byF_drop {l : List (Int × Int)} {n b : Nat} (h : b < n) : (byF l n).drop b = bbF l b :: (byF l n).drop (b + 1) := by
  have hb : b < (byF l n).length := by rw [byF_len]; exact h
  rw [List.drop_eq_getElem_cons hb]
  congr 1
  simp [byF]
end Go.Proofs.YtlabdffgcciepaaGreatDoor
namespace Go.Proofs.YtlabdffgcciepaaGreatDoor
open Go.Tn
set_option maxHeartbeats 8000000
set_option maxRecDepth 100000
theorem fc_until (a b x : Int) : FC Tryz.prog 62 [.box [.int .i64 a, .int .i64 b]] [.int .i64 x] (.ret (.bool (decide (a < x)))) := by
  refine fc_M (fn := Tryz.f62) (C := (tab [] [])) (rs := [3]) mixed (by kernel_rfl) (by kernel_rfl) rfl rfl (by kernel_rfl) (by intro ys h; cases h) ?_
  simp +contextual (maxSteps := 5000000) only [go_sem, ↓reduceIte]
theorem fc_never (x : Int) : FC Tryz.prog 63 [] [.int .i64 x] (.ret (.bool false)) := by
  refine fc_M (fn := Tryz.f63) (C := (tab [] [])) (rs := [2]) mixed (by kernel_rfl) (by kernel_rfl) rfl rfl (by kernel_rfl) (by intro ys h; cases h) ?_
  simp +contextual (maxSteps := 5000000) only [go_sem, ↓reduceIte]
def c_unt (cs : List D) (q : Int → Bool) (caps args : List D) : Prop × Out := match args with
  | [.int .i64 x] => (caps = cs, .ret (.bool (q x)))
  | _ => (False, .ret .any)
theorem st_unt {g : Nat} {cs : List D} {q : Int → Bool} (h : ∀ x, FC Tryz.prog g cs [.int .i64 x] (.ret (.bool (q x)))) : StC Tryz.prog g (c_unt cs q) := by
  intro caps args; unfold c_unt; split
  · rintro rfl; exact h _
  · exact fun h => h.elim
theorem fcm_ga (G : List Int) : FCM Tryz.prog 61 [(false, .sl 1 (G.map eI))] [] [(1, .blk [.sl 1 (G.map eI)] false)] (.ret (.fn 102 [] [.loc 1 0])) := by
  refine fcm_M (fn := Tryz.f61) (C := (tab [] [])) (rs := [2]) mixed (by kernel_rfl) (by kernel_rfl) rfl rfl (by kernel_rfl) ?_ ?_
  · simp +contextual (maxSteps := 5000000) only [go_sem, ↓reduceIte]
  simp +contextual (maxSteps := 5000000) only [go_sem, ↓reduceIte]
theorem fcm_take (g : Nat) (cs : List D) (hcs : cleanL [.fn g [] cs] = true) (q : Int → Bool) (h : ∀ x, FC Tryz.prog g cs [.int .i64 x] (.ret (.bool (q x)))) (G : List Int) (hG : G.length < 1000000000) :
    FCM Tryz.prog 102 [(false, .fn g [] cs), (true, .loc 1 0)] [(1, .blk [.sl 1 (G.map eI)] false)]
      [(1, .blk [.sl 1 ((G.dropWhile fun a => !q a).map eI)] false), (22, .vec 39 2 ((gnP (G.takeWhile fun a => !q a)).map eP) 0)] (.ret (.vec 22 (G.takeWhile fun a => !q a).length)) := by
  have cl := clrL_of (cl_fn hcs)
  have hst := st_unt h
  refine fcm_M (fn := Tryz.f102) (C := (tab [(g, c_unt cs q)] [] [4003])) (rs := [3]) mixed (by kernel_rfl) (by kernel_rfl) rfl rfl (by kernel_rfl) ?_ ?_
  · simp +contextual (maxSteps := 5000000) only [go_sem, ↓reduceIte]
  simp +contextual (maxSteps := 5000000) only [go_sem, ↓reduceIte]
  refine M_loopI (fun s : List Int × List Int => ⟨[(0, .fn g [] cs), (1, .loc 1 0), (4, .vec 22 s.1.length)], [(1, .blk [.sl 1 (s.2.map eI)] false), (22, .vec 39 2 ((gnP s.1).map eP) 0)]⟩) (fun s => s.2.length)
    (fun s => s.2.length < 1000000000 ∧ s.1.length + s.2.length = G.length ∧ s.1 ++ s.2.takeWhile (fun a => !q a) = G.takeWhile (fun a => !q a) ∧ s.2.dropWhile (fun a => !q a) = G.dropWhile fun a => !q a) ([], G) ?_ ?_
  · simp +contextual (maxSteps := 5000000) only [go_sem, ↓reduceIte, gnP, cl.cv5, cl.rf5, cl.nw5, cl.fz5, cl.wkL, cl.inOL]
    exact hG
  rintro ⟨A, R⟩ ⟨h1, h2, h3, h4⟩
  simp only at h1 h2 h3 h4 ⊢
  by_cases hlt : 0 < R.length
  rotate_left
  · have e : R = [] := List.eq_nil_of_length_eq_zero (by omega)
    have hlt' : ¬ (0 : Int) < R.length := by omega
    simp +contextual (maxSteps := 5000000) only [go_sem, ↓reduceIte, hlt', hlt]
    subst e
    rw [← h3, ← h4]
    intro _; simp
  · have hat := eI_at R 0 hlt
    have hlt' : (0 : Int) < R.length := by omega
    have hlt2 : 1 ≤ R.length := by omega
    have hd := drop_getD (l := R) (d := (0 : Int)) hlt
    rw [List.drop_zero] at hd
    cases hq : q (R.getD 0 0) with
    | true =>
      have e1 : R.takeWhile (fun a => !q a) = [] := by rw [hd, List.takeWhile_cons, hq]; rfl
      have e2 : R.dropWhile (fun a => !q a) = R := by rw [hd, List.dropWhile_cons, hq]; rfl
      simp +contextual (maxSteps := 5000000) only [go_sem, ↓reduceIte, hlt', hlt, hat, hq, Int.toNat_zero, Int.reduceToNat, Nat.sub_zero, Nat.le_refl, c_unt, hst, cl.cv6, cl.rf6, cl.nw6, cl.fz6, cl.cv5, cl.rf5, cl.nw5, cl.fz5, cl.wkL, cl.inOL]
      rw [← h3, ← h4, e1, e2]
      intro _; simp
    | false =>
      have e1 : R.takeWhile (fun a => !q a) = R.getD 0 0 :: (R.drop 1).takeWhile (fun a => !q a) := by
        conv => lhs; rw [hd, List.takeWhile_cons, hq]
        rfl
      have e2 : R.dropWhile (fun a => !q a) = (R.drop 1).dropWhile (fun a => !q a) := by
        conv => lhs; rw [hd, List.dropWhile_cons, hq]
        rfl
      simp +contextual (maxSteps := 5000000) only [go_sem, ↓reduceIte, hlt', hlt, hat, hq, Int.toNat_zero, Int.reduceToNat, Nat.sub_zero, Nat.le_refl, c_unt, hst, cl.cv6, cl.rf6, cl.nw6, cl.fz6, cl.cv5, cl.rf5, cl.nw5, cl.fz5, cl.wkL, cl.inOL]
      refine fun _ => ⟨Int.le_refl _, fun _ => M_cutK [22] 10 ⟨by decide, by kernel_rfl⟩ ?_⟩
      simp only [List.take_succ_cons, List.take_zero, List.drop_succ_cons, List.drop_zero]
      simp +contextual (maxSteps := 5000000) only [go_sem, ↓reduceIte, hlt', hlt, hat, hq, Int.toNat_zero, Int.reduceToNat, Nat.sub_zero, Nat.le_refl, cl.cv5, cl.rf5, cl.nw5, cl.fz5, cl.wkL, cl.inOL]
      refine ⟨Int.le_refl _, fun _ => ⟨⟨by omega, by omega⟩, fun _ => ⟨⟨by simp [gnP], by omega⟩, fun _ => ⟨(A ++ [R.getD 0 0], R.drop 1), ⟨by simp, ?_, by simp [gnP, eP]⟩, by simp; omega, by simp; omega, by simp; omega, ?_, by rw [← h4, e2]⟩⟩⟩⟩
      · rw [List.take_of_length_le (by simp), List.map_drop]
      · rw [← h3, e1]; simp
def cm_ga (ds : List D) (_ : Hp) : MS := match ds with
  | [.sl 1 rows] => .yes (rows = (rows.map dI).map eI) [] [(1, .blk [.sl 1 rows] false)] (.ret (.fn 102 [] [.loc 1 0]))
  | _ => .bad
theorem stm_ga : StMC Tryz.prog 61 [9] cm_ga := by
  intro ds H pre mu o1 out h hp
  unfold cm_ga at h
  split at h
  · rename_i rows
    cases h
    have := fcm_ga (rows.map dI)
    rw [← hp] at this
    exact this
  · cases h
def cm_tk1 (g i o : Nat) (a : Int) : Option LObj → MS
  | some (.blk [.sl 1 rows] false) => .yes (((g = 62 ∧ i = 1 ∧ o = 0) ∧ rows = (rows.map dI).map eI) ∧ rows.length < 1000000000) [i]
      [(i, .blk [.sl 1 ((dpA a (rows.map dI)).map eI)] false), (22, .vec 39 2 ((gnP (tkA a (rows.map dI))).map eP) 0)] (.ret (.vec 22 (tkA a (rows.map dI)).length))
  | _ => .bad
def cm_tk0 (g i o : Nat) : Option LObj → MS
  | some (.blk [.sl 1 rows] false) => .yes (((g = 63 ∧ i = 1 ∧ o = 0) ∧ rows = (rows.map dI).map eI) ∧ rows.length < 1000000000) [i]
      [(i, .blk [.sl 1 []] false), (22, .vec 39 2 ((gnP (rows.map dI)).map eP) 0)] (.ret (.vec 22 rows.length))
  | _ => .bad
def cm_tk (ds : List D) (H : Hp) : MS := match ds with
  | [.fn g [] [.box [.int .i64 a, .int .i64 _]], .loc i o] => cm_tk1 g i o a (H i)
  | [.fn g [] [], .loc i o] => cm_tk0 g i o (H i)
  | _ => .bad
theorem tk_tt : ∀ G : List Int, (G.takeWhile fun _ => !false) = G ∧ (G.dropWhile fun _ => !false) = []
  | [] => ⟨rfl, rfl⟩
  | x :: G => by obtain ⟨h1, h2⟩ := tk_tt G; simp only [Bool.not_false] at h1 h2 ⊢; simp [h1, h2]
theorem stm_tk : StMC Tryz.prog 102 [1] cm_tk := by
  intro ds H pre mu o1 out h hp
  unfold cm_tk at h
  split at h
  · rename_i g a b i o
    unfold cm_tk1 at h
    split at h
    · rename_i rows hi
      cases h
      obtain ⟨⟨⟨rfl, rfl, rfl⟩, hr⟩, hl⟩ := hp
      rw [objs_one hi]
      have := fcm_take 62 [.box [.int .i64 a, .int .i64 b]] rfl (fun x => decide (a < x)) (fun x => fc_until a b x) (rows.map dI) (by simpa using hl)
      rw [← hr] at this
      exact this
    · cases h
  · rename_i g i o
    unfold cm_tk0 at h
    split at h
    · rename_i rows hi
      cases h
      obtain ⟨⟨⟨rfl, rfl, rfl⟩, hr⟩, hl⟩ := hp
      rw [objs_one hi]
      have := fcm_take 63 [] rfl (fun x => false) (fun x => fc_never x) (rows.map dI) (by simpa using hl)
      rw [← hr, (tk_tt _).1, (tk_tt _).2, List.length_map] at this
      exact this
    · cases h
  · cases h
def tree17 : Tr := (.node (.cons 0 (.node (.cons 1 (.node (.cons 2 (.node (.cons 3 (.node (.cons 4 (.node (.cons 5 (.node (.cons 6 .leaf .nil)) .nil)) (.cons 5 (.node (.cons 4 (.node (.cons 6 .leaf .nil)) .nil)) .nil))) (.cons 5 (.node (.cons 3 (.node (.cons 4 (.node (.cons 6 .leaf .nil)) .nil)) .nil)) .nil))) (.cons 3 (.node (.cons 2 (.node (.cons 4 (.node (.cons 5 (.node (.cons 6 .leaf .nil)) .nil)) (.cons 5 (.node (.cons 4 (.node (.cons 6 .leaf .nil)) .nil)) .nil))) (.cons 4 (.node (.cons 2 (.node (.cons 5 (.node (.cons 6 .leaf .nil)) .nil)) .nil)) .nil))) .nil))) (.cons 3 (.node (.cons 1 (.node (.cons 2 (.node (.cons 4 (.node (.cons 5 (.node (.cons 6 .leaf .nil)) .nil)) (.cons 5 (.node (.cons 4 (.node (.cons 6 .leaf .nil)) .nil)) .nil))) (.cons 4 (.node (.cons 2 (.node (.cons 5 (.node (.cons 6 .leaf .nil)) .nil)) .nil)) .nil))) (.cons 4 (.node (.cons 1 (.node (.cons 2 (.node (.cons 5 (.node (.cons 6 .leaf .nil)) .nil)) .nil)) .nil)) .nil))) .nil))) (.cons 3 (.node (.cons 0 (.node (.cons 1 (.node (.cons 2 (.node (.cons 4 (.node (.cons 5 (.node (.cons 6 .leaf .nil)) .nil)) (.cons 5 (.node (.cons 4 (.node (.cons 6 .leaf .nil)) .nil)) .nil))) (.cons 4 (.node (.cons 2 (.node (.cons 5 (.node (.cons 6 .leaf .nil)) .nil)) .nil)) .nil))) (.cons 4 (.node (.cons 1 (.node (.cons 2 (.node (.cons 5 (.node (.cons 6 .leaf .nil)) .nil)) .nil)) .nil)) .nil))) (.cons 4 (.node (.cons 0 (.node (.cons 1 (.node (.cons 2 (.node (.cons 5 (.node (.cons 6 .leaf .nil)) .nil)) .nil)) .nil)) .nil)) .nil))) .nil)))
def stM (l : List (Int × Int)) (js : List Int) : List (Int × Int) := js.foldl (fun m j => mup m (l.getD j.toNat (0, 0)).2 1) []
theorem stM_snoc (l : List (Int × Int)) (js : List Int) (j : Int) : stM l (js ++ [j]) = mup (stM l js) (l.getD j.toNat (0, 0)).2 1 := by unfold stM; rw [List.foldl_append]; rfl
theorem stM_lk (l : List (Int × Int)) (b : Int) (js : List Int) : mlk (stM l js) b = if b ∈ (js.map fun j => l.getD j.toNat (0, 0)).map (·.2) then 1 else 0 := by
  have gen : ∀ (js : List Int) (m : List (Int × Int)), mlk (js.foldl (fun m j => mup m (l.getD j.toNat (0, 0)).2 1) m) b = if b ∈ (js.map fun j => l.getD j.toNat (0, 0)).map (·.2) then 1 else mlk m b := by
    intro js
    induction js with
    | nil => intro m; simp
    | cons j r ih =>
      intro m
      rw [List.foldl_cons, ih, mlk_mup]
      simp only [List.map_cons, List.mem_cons]
      by_cases h1 : b ∈ (r.map fun j => l.getD j.toNat (0, 0)).map (·.2)
      · rw [if_pos h1, if_pos (.inr h1)]
      · rw [if_neg h1]
        by_cases h2 : b = (l.getD j.toNat (0, 0)).2
        · rw [if_pos h2, if_pos (.inl h2)]
        · rw [if_neg h2, if_neg (fun h => h.elim h2 h1)]
  exact gen js []
theorem fc_Order (l : List (Int × Int)) (na nb : Int) (hl : l.length < 1000000) (hna : na < 1000000) (hnb : nb < 1000000) : FC Tryz.prog 16 [] [.sl 2 (l.map eP), .int .i64 na, .int .i64 nb] (.ret (.tup [.sl 2 ((odT l na nb).map eP), .int .i64 (chk l na nb)])) := by
  have hd1 : (l.map eP).map dP = l := dP_eP l
  have hl2 : l.length < 1000000000 := by omega
  have hnb2 : nb < 1000000000 := by omega
  have hna2 : na < 1000000000 := by omega
  have hna3 : na ≤ 1000000000 := by omega
  refine fc_M (fn := Tryz.f16) (C := (tab [(31, c_Check), (60, c_Still), (32, c_RestA)] [(61, [9], cm_ga), (102, [1], cm_tk)] [7017, 16])) (rs := [6, 7]) mixed (by kernel_rfl) (by kernel_rfl) rfl rfl (by kernel_rfl) (by intro ys h; cases h) ?_
  unfold odT
  by_cases hc : chk l na nb = 0
  rotate_left
  · rw [if_neg hc]
    simp +contextual (maxSteps := 5000000) only [go_sem, ↓reduceIte, c_Check, st_Check, hd1, hc, hl2, hnb2, hna2, List.map_nil]
  rw [if_pos hc]
  have hg := (chk_zero l na nb).1 hc
  have h0a := hg.a0
  have h0b := hg.b0
  obtain ⟨n, rfl⟩ : ∃ n : Nat, nb = n := ⟨nb.toNat, by omega⟩
  rw [od_wv hg, Int.toNat_natCast]
  have hstl := stF_len l
  have hgl := rsL_len (l.map (·.1)) na.toNat
  have hbl := byF_len l n
  simp +contextual (maxSteps := 5000000) only [go_sem, ↓reduceIte, c_Check, st_Check, hd1, hc, hl2, hnb2, hna2, c_Still, st_Still, hl]
  intro _
  refine M_loopI (fun i : Nat => ⟨[(0, .sl 2 (l.map eP)), (1, .int .i64 na), (2, .int .i64 n), (9, .lmap 23), (25, .sl 1 ((stF l).map eI)), (26, .int .i64 (stF l).length), (27, .int .i64 i)], [(23, .mp ((stM l ((stF l).take i)).map kI) ((stM l ((stF l).take i)).map vI) false)]⟩) (fun i => (stF l).length - i) (fun i => i ≤ (stF l).length) 0 ?_ ?_
  · simp +contextual (maxSteps := 5000000) only [go_sem, ↓reduceIte, stM, List.foldl_nil]
    rfl
  intro i hi
  by_cases hlt : i < (stF l).length
  · have hat := eI_at (stF l) i hlt
    have hj := stF_in l _ (getD_mem (d := (0 : Int)) hlt)
    have hsn : (stF l).take (i + 1) = (stF l).take i ++ [(stF l).getD i 0] := by
      rw [List.take_add_one, List.getElem?_eq_getElem hlt, List.getD_eq_getElem?_getD, List.getElem?_eq_getElem hlt]; rfl
    have hst := stM_snoc l ((stF l).take i) ((stF l).getD i 0)
    rw [← hsn] at hst
    generalize (stF l).getD i 0 = j at hat hj hst
    obtain ⟨k, rfl⟩ : ∃ k : Nat, j = k := ⟨j.toNat, by omega⟩
    have hk : k < l.length := by omega
    have hat2 := eP_at l k hk
    simp +contextual (maxSteps := 5000000) only [go_sem, ↓reduceIte, hlt, hat, hat2, hk]
    rw [Int.toNat_natCast] at hst
    exact ⟨inR64 (by omega) (by omega), fun _ => ⟨i + 1, ⟨by simp, by rw [hst], by rw [hst]⟩, by omega, by omega⟩⟩
  obtain rfl : i = (stF l).length := by omega
  simp +contextual (maxSteps := 5000000) only [go_sem, ↓reduceIte, hlt, hd1, hna3, hl2, c_RestA, st_RestA, cm_ga, stm_ga, dI_eI]
  have hW := wvF_len (stB l) (byF l n) (rsL (l.map (·.1)) na.toNat)
  have hgl2 : (rsL (l.map (·.1)) na.toNat).length < 1000000000 := by omega
  generalize hG0 : rsL (l.map (·.1)) na.toNat = G0 at *
  have hlk : ∀ b : Nat, mlk (stM l (stF l)) b = if stB l (bbF l b) = true then 1 else 0 := fun b => by
    rw [stM_lk]
    have e : (bbF l b).2 = b := by
      rcases bbF_cases b l with ⟨q, _, h1, h2⟩ | ⟨_, h2⟩
      · rw [h2, h1]
      · rw [h2]
    have e2 : stB l (bbF l b) = decide ((b : Int) ∈ (stP l).map (·.2)) := by unfold stB; rw [e]
    rw [e2]
    simp only [decide_eq_true_eq]
    rfl
  rw [List.take_length]
  generalize stM l (stF l) = sm at hlk ⊢
  refine M_loopI (fun s : (List (Int × Int) × List Int) × List (Int × Int) × Nat => ⟨[(0, .sl 2 (s.1.1.map eP)), (9, .lmap 23), (12, .fn 102 [] [.loc 1 0]), (13, .vec 76 s.2.1.length), (42, .int .i64 n), (43, .int .i64 s.2.2)],
    [(23, .mp (sm.map kI) (sm.map vI) false), (1, .blk [.sl 1 (s.1.2.map eI)] false), (76, .vec 39 2 (s.2.1.map eP) 0)]⟩) (fun s => n - s.2.2)
    (fun s => ((s.2.2 ≤ n ∧ leftOk l s.1.1 s.2.2) ∧ s.1.1.length < 1000000000 ∧ s.1.2.length < 1000000000) ∧ s.2.1 ++ wvF (stB l) ((byF l n).drop s.2.2) s.1.2 = wvF (stB l) (byF l n) G0) ((l, G0), [], 0) ?_ ?_
  · simp +contextual (maxSteps := 5000000) only [go_sem, ↓reduceIte]
    exact ⟨rfl, left_0 hg, hl2, hgl2⟩
  rintro ⟨⟨R, G⟩, A, b⟩ ⟨⟨⟨hb, hR⟩, hRl, hGl⟩, hA⟩
  simp only at hb hR hRl hGl hA ⊢
  have hAl := congrArg List.length hA
  rw [List.length_append] at hAl
  by_cases hlt : b < n
  rotate_left
  · obtain rfl : b = n := by omega
    rw [List.drop_of_length_le (by omega)] at hA
    simp +contextual (maxSteps := 5000000) only [go_sem, ↓reduceIte, hlt, Nat.lt_irrefl, cm_tk, cm_tk0, stm_tk, dI_eI]
    have hgp : (gnP G).length = G.length := by simp [gnP]
    have hwl : (wvF (stB l) [] G).length = G.length := hgp
    refine ⟨hGl, ⟨hgp, by omega⟩, fun _ => ?_⟩
    rw [← hA, List.map_append]; rfl
  have hbd := byF_drop (l := l) hlt
  rw [hbd] at hA
  have hlkb := hlk b
  have hpb : (bbF l b).2 = b := by
    rcases bbF_cases b l with ⟨q, _, h1, h2⟩ | ⟨_, h2⟩
    · rw [h2, h1]
    · rw [h2]
  simp +contextual (maxSteps := 5000000) only [go_sem, ↓reduceIte, hlt]
  refine M_join (fun R' : List (Int × Int) => ⟨[(0, .sl 2 (R'.map eP)), (9, .lmap 23), (12, .fn 102 [] [.loc 1 0]), (13, .vec 76 A.length), (14, .int .i64 b), (15, .loc 15 0), (42, .int .i64 n), (43, .int .i64 b)],
    [(23, .mp (sm.map kI) (sm.map vI) false), (1, .blk [.sl 1 (G.map eI)] false), (76, .vec 39 2 (A.map eP) 0), (15, .blk [.int .i64 (bbF l b).1, .int .i64 b] false)]⟩) (fun R' => leftOk l R' (b + 1) ∧ R'.length < 1000000000) ?_ ?_
  · by_cases hr0 : 0 < R.length
    · have hat := eP_at R 0 hr0
      have hr0' : (0 : Int) < R.length := by omega
      have hd := drop_getD (l := R) (d := ((0 : Int), (0 : Int))) hr0
      rw [List.drop_zero] at hd
      by_cases hrb : (R.getD 0 (0, 0)).2 = b
      · obtain ⟨e1, e2⟩ := left_hit hg (hd ▸ hR) hrb
        rw [hrb] at hat
        simp +contextual (maxSteps := 5000000) only [go_sem, ↓reduceIte, hr0, hr0', hat, Int.toNat_zero, Int.reduceToNat, Nat.sub_zero, Nat.le_refl]
        refine fun _ => ⟨Int.le_refl _, fun _ => M_tree tree17 (by show chkTr _ _ _ _ = true; kernel_rfl) ?_⟩
        unfold tree17
        simp +contextual (maxSteps := 5000000) only [go_sem, ↓reduceIte, hr0, hr0', hat, Int.toNat_zero, Int.reduceToNat, Nat.sub_zero, Nat.le_refl]
        have hr1 : (1 : Int) ≤ R.length := by omega
        have fin : ∃ s, ((R.map eP).drop 1 |>.take (R.length - 1)) = List.map eP s ∧ leftOk l s (b + 1) ∧ s.length < 1000000000 := ⟨R.drop 1, by rw [List.take_of_length_le (by simp), List.map_drop], e2, by simp; omega⟩
        obtain ⟨s, q1, q2, q3⟩ := fin
        rw [q1, e1]
        and_intros
        all_goals
          intros
          and_intros
          all_goals first | omega | (intros; refine ⟨s, ⟨rfl, rfl⟩, q2, q3⟩) | (intros; refine ⟨⟨by omega, by omega⟩, fun _ => ⟨s, ⟨rfl, rfl⟩, q2, q3⟩⟩) | (intros; refine ⟨by omega, fun _ => ⟨s, ⟨rfl, rfl⟩, q2, q3⟩⟩)
      · obtain ⟨e1, e2⟩ := left_miss hR (fun p r e => by subst e; exact hrb) hg
        simp +contextual (maxSteps := 5000000) only [go_sem, ↓reduceIte, hr0, hr0', hat, Int.toNat_zero, Int.reduceToNat, Nat.sub_zero, Nat.le_refl, hrb]
        exact fun _ => ⟨Int.le_refl _, fun _ => ⟨R, ⟨rfl, by rw [e1]⟩, e2, hRl⟩⟩
    · have hr0' : ¬ (0 : Int) < R.length := by omega
      obtain ⟨e1, e2⟩ := left_miss hR (fun p r e => by subst e; simp at hr0) hg
      simp +contextual (maxSteps := 5000000) only [go_sem, ↓reduceIte, hr0, hr0', Int.toNat_zero, Int.reduceToNat, Nat.sub_zero, Nat.le_refl]
      exact fun _ => ⟨R, ⟨rfl, by rw [e1]⟩, e2, hRl⟩
  rintro R' ⟨hR', hRl'⟩
  have hpe : eP (bbF l b) = [.int .i64 (bbF l b).1, .int .i64 b] := by
    generalize bbF l b = p at hpb ⊢
    rw [← hpb]; rfl
  have hAl2 : A.length < 100000000 := by omega
  cases hs : stB l (bbF l b) with
  | true =>
    rw [if_pos hs] at hlkb
    simp only [wvF] at hA
    rw [if_pos hs] at hA
    have htk : (tkA (bbF l b).1 G).length ≤ G.length := (List.takeWhile_sublist _).length_le
    have hdp : (dpA (bbF l b).1 G).length ≤ G.length := (List.dropWhile_sublist _).length_le
    have hgp : (gnP (tkA (bbF l b).1 G)).length = (tkA (bbF l b).1 G).length := by simp [gnP]
    simp +contextual (maxSteps := 5000000) only [go_sem, ↓reduceIte, hlkb, Int.reduceEq, Int.reduceNe, Int.reduceLT, Int.reduceLE, Int.reduceToNat, Int.cast_ofNat_Int, cm_tk, cm_tk1, stm_tk, dI_eI]
    refine ⟨hGl, ⟨hgp, by omega⟩, fun _ => ⟨by omega, fun _ => ⟨inR64 (by omega) (by omega), fun _ => ⟨((R', dpA (bbF l b).1 G), A ++ gnP (tkA (bbF l b).1 G) ++ [bbF l b], b + 1), ⟨⟨rfl, by simp [hgp]; omega, by simp⟩, rfl, by simp [hpe]⟩, by simp only; omega, ⟨⟨by simp only; omega, hR'⟩, hRl', by simp only; omega⟩, ?_⟩⟩⟩⟩
    rw [← hA]; simp
  | false =>
    rw [if_neg (by rw [hs]; simp)] at hlkb
    simp only [wvF] at hA
    rw [if_neg (by rw [hs]; simp)] at hA
    simp +contextual (maxSteps := 5000000) only [go_sem, ↓reduceIte, hlkb, Int.reduceEq, Int.reduceNe, Int.reduceLT, Int.reduceLE, Int.reduceToNat, Int.cast_ofNat_Int]
    refine ⟨by omega, fun _ => ⟨inR64 (by omega) (by omega), fun _ => ⟨((R', G), A ++ [bbF l b], b + 1), ⟨⟨rfl, by simp, by simp⟩, rfl, by simp [hpe]⟩, by simp only; omega, ⟨⟨by simp only; omega, hR'⟩, hRl', hGl⟩, ?_⟩⟩⟩
    rw [← hA]; simp
def c_Order (caps args : List D) : Prop × Out := match caps, args with
  | [], [.sl 2 rows, .int .i64 na, .int .i64 nb] => ((rows = (rows.map dP).map eP ∧ rows.length < 1000000) ∧ na < 1000000 ∧ nb < 1000000, .ret (.tup [.sl 2 ((odT (rows.map dP) na nb).map eP), .int .i64 (chk (rows.map dP) na nb)]))
  | _, _ => (False, .ret .any)
theorem st_Order : StC Tryz.prog 16 c_Order := by
  intro caps args; unfold c_Order; split
  · rename_i rows na nb
    rintro ⟨⟨h1, h2⟩, h3, h4⟩
    have := fc_Order (rows.map dP) na nb (by simpa using h2) h3 h4
    rw [← h1] at this
    exact this
  · exact fun h => h.elim
end Go.Proofs.YtlabdffgcciepaaGreatDoor
namespace Go.Proofs.YtlabdffgcciepaaGreatDoor
open Go.Tn
set_option maxHeartbeats 8000000
set_option maxRecDepth 100000
def c_RefS (caps args : List D) : Prop × Out := match caps, args with | [], [.sl 1 a, .sl 1 b] => (a = (a.map dS).map eS ∧ b = (b.map dS).map eS, .ret (.bool (decide (a.map dS = b.map dS)))) | _, _ => (False, .ret .any)
theorem st_RefS : StC Tryz.prog 27 c_RefS := by
  intro caps args; unfold c_RefS; split
  · rename_i a b
    rintro ⟨h1, h2⟩
    have := fc_RefS (a.map dS) (b.map dS)
    rw [← h1, ← h2] at this
    exact this
  · exact fun h => h.elim
end Go.Proofs.YtlabdffgcciepaaGreatDoor
namespace Go.Proofs.YtlabdffgcciepaaGreatDoor
open Go.Tn
set_option maxHeartbeats 8000000
set_option maxRecDepth 100000
theorem fc_Same1 (x y : Ln) : FC Tryz.prog 45 [] [.agg (eL x), .agg (eL y)] (.ret (.bool (decide (x = y)))) := by
  have e : decide (x = y) = (decide (x.1 = y.1) && decide (x.2 = y.2)) := by
    obtain ⟨a, b⟩ := x; obtain ⟨c, e⟩ := y
    simp [Prod.mk.injEq, Bool.decide_and]
  rw [e]
  unfold eL
  refine fc_M (fn := Tryz.f45) (C := (tab [(46, c_EqS)] [])) (rs := [4]) mixed (by kernel_rfl) (by kernel_rfl) rfl rfl (by kernel_rfl) (by intro ys h; cases h) ?_
  by_cases a : x.1 = y.1
  · simp +contextual (maxSteps := 5000000) only [go_sem, ↓reduceIte, c_EqS, st_EqS, dS_eS, a]
  · simp +contextual (maxSteps := 5000000) only [go_sem, ↓reduceIte, c_EqS, st_EqS, dS_eS, a]
def c_Same1 (caps args : List D) : Prop × Out := match caps, args with
  | [], [.agg x, .agg y] => (x = eL (dL x) ∧ y = eL (dL y), .ret (.bool (decide (dL x = dL y))))
  | _, _ => (False, .ret .any)
theorem st_Same1 : StC Tryz.prog 45 c_Same1 := by
  intro caps args; unfold c_Same1; split
  · rename_i x y
    rintro ⟨h1, h2⟩
    have := fc_Same1 (dL x) (dL y)
    rw [← h1, ← h2] at this
    exact this
  · exact fun h => h.elim
theorem eL_dL (x : Ln) : eL (dL (eL x)) = eL x := by
  have := congrArg (List.map eL) (dL_eL [x])
  simpa using this
theorem dL_eL1 (x : Ln) : dL (eL x) = x := by
  have := dL_eL [x]
  simpa using this
theorem fc_EqF (l k : List Ln) : FC Tryz.prog 48 [] [.sl 2 (l.map eL), .sl 2 (k.map eL), .fn 45 [] []] (.ret (.bool (decide (l = k)))) := by
  refine fc_M (fn := Tryz.f48) (C := (tab [(45, c_Same1)] [])) (rs := [6]) mixed (by kernel_rfl) (by kernel_rfl) rfl rfl (by kernel_rfl) (by intro ys h; cases h) ?_
  by_cases hlen : l.length = k.length
  · simp +contextual (maxSteps := 5000000) only [go_sem, ↓reduceIte, hlen]
    intro _
    refine M_loopI (fun i : Nat => ⟨[(0, .sl 2 (l.map eL)), (1, .sl 2 (k.map eL)), (2, .fn 45 [] []), (15, .sl 2 (l.map eL)), (16, .int .i64 k.length), (17, .int .i64 i)], []⟩) (fun i => l.length - i) (fun i => i ≤ l.length ∧ ∀ j, j < i → l.getD j (0, []) = k.getD j (0, [])) 0 ?_ ?_
    · simp +contextual (maxSteps := 5000000) only [go_sem, ↓reduceIte]
      rfl
    · intro i hi
      obtain ⟨hi, ho⟩ := hi
      by_cases hlt : i < k.length
      · have ha := eL_at l i (by omega)
        have hb := eL_at k i hlt
        have hl2 : i < l.length := by omega
        generalize hx : l.getD i (0, []) = x at ha
        generalize hy : k.getD i (0, []) = y at hb
        have e1 := eL_dL x
        have e2 := eL_dL y
        have e3 := dL_eL1 x
        have e4 := dL_eL1 y
        unfold eL at e1 e2 e3 e4
        by_cases q : x = y
        · subst q
          simp +contextual (maxSteps := 5000000) only [go_sem, ↓reduceIte, hlt, hl2, ha, hb, c_Same1, st_Same1, eq_self, e1, e3, eL]
          refine ⟨inR64 (by omega) (by omega), fun _ => ⟨i + 1, by simp, by omega, by omega, fun j hj => ?_⟩⟩
          rcases lt_cases hj with h | rfl
          · exact ho j h
          · rw [hx, hy]
        · have hne : ¬ l = k := fun h => q (by rw [← hx, ← hy, h])
          have hd : decide (l = k) = false := decide_eq_false hne
          rw [hd]
          simp +contextual (maxSteps := 5000000) only [go_sem, ↓reduceIte, hlt, hl2, ha, hb, c_Same1, st_Same1, e1, e2, e3, e4, q, eL]
      · have hd : decide (l = k) = true := decide_eq_true (eq_of_at (0, []) hlen (fun j hj => ho j (by omega)))
        rw [hd]
        have hl3 : ¬ i < l.length := by omega
        simp +contextual (maxSteps := 5000000) only [go_sem, ↓reduceIte, hlt, hl3]
  · have hd : decide (l = k) = false := decide_eq_false (fun h => hlen (by rw [h]))
    rw [hd]
    simp +contextual (maxSteps := 5000000) only [go_sem, ↓reduceIte, hlen]
def c_EqP (caps args : List D) : Prop × Out := match caps, args with | [], [.sl 2 a, .sl 2 b] => (a = (a.map dP).map eP ∧ b = (b.map dP).map eP, .ret (.bool (decide (a.map dP = b.map dP)))) | _, _ => (False, .ret .any)
theorem st_EqP : StC Tryz.prog 47 c_EqP := by
  intro caps args; unfold c_EqP; split
  · rename_i a b
    rintro ⟨h1, h2⟩
    have := fc_EqualP (a.map dP) (b.map dP)
    rw [← h1, ← h2] at this
    exact this
  · exact fun h => h.elim
def c_Eq6 (caps args : List D) : Prop × Out := match caps, args with | [], [.sl 6 a, .sl 6 b] => (a = (a.map d6).map eD6 ∧ b = (b.map d6).map eD6, .ret (.bool (decide (a.map d6 = b.map d6)))) | _, _ => (False, .ret .any)
theorem st_Eq6 : StC Tryz.prog 49 c_Eq6 := by
  intro caps args; unfold c_Eq6; split
  · rename_i a b
    rintro ⟨h1, h2⟩
    have := fc_Equal6 (a.map d6) (b.map d6)
    rw [← h1, ← h2] at this
    exact this
  · exact fun h => h.elim
def c_EqSp (caps args : List D) : Prop × Out := match caps, args with | [], [.sl 3 a, .sl 3 b] => (a = (a.map dSp).map eSp ∧ b = (b.map dSp).map eSp, .ret (.bool (decide (a.map dSp = b.map dSp)))) | _, _ => (False, .ret .any)
theorem st_EqSp : StC Tryz.prog 50 c_EqSp := by
  intro caps args; unfold c_EqSp; split
  · rename_i a b
    rintro ⟨h1, h2⟩
    have := fc_EqualSp (a.map dSp) (b.map dSp)
    rw [← h1, ← h2] at this
    exact this
  · exact fun h => h.elim
def c_EqF (caps args : List D) : Prop × Out := match caps, args with | [], [.sl 2 a, .sl 2 b, .fn g [] []] => (g = 45 ∧ a = (a.map dL).map eL ∧ b = (b.map dL).map eL, .ret (.bool (decide (a.map dL = b.map dL)))) | _, _ => (False, .ret .any)
theorem st_EqF : StC Tryz.prog 48 c_EqF := by
  intro caps args; unfold c_EqF; split
  · rename_i a b g
    rintro ⟨rfl, h1, h2⟩
    have := fc_EqF (a.map dL) (b.map dL)
    rw [← h1, ← h2] at this
    exact this
  · exact fun h => h.elim
def sameF (d e : Dl) : Bool := decide (d.A = e.A) && decide (d.B = e.B) && decide (d.cols = e.cols) && decide (d.rows = e.rows) && decide (d.na = e.na) && decide (d.nb = e.nb) && decide (d.dels = e.dels) && decide (d.inss = e.inss) && decide (d.sets = e.sets) && decide (d.lost = e.lost) && decide (d.gain = e.gain)
theorem sameF_iff (d e : Dl) : sameF d e = true ↔ d = e := by
  obtain ⟨a1, a2, a3, a4, a5, a6, a7, a8, a9, a10, a11⟩ := d
  obtain ⟨b1, b2, b3, b4, b5, b6, b7, b8, b9, b10, b11⟩ := e
  simp only [sameF, Bool.and_eq_true, decide_eq_true_eq, Dl.mk.injEq]
  constructor
  · rintro ⟨⟨⟨⟨⟨⟨⟨⟨⟨⟨h1, h2⟩, h3⟩, h4⟩, h5⟩, h6⟩, h7⟩, h8⟩, h9⟩, h10⟩, h11⟩
    exact ⟨h1, h2, h3, h5, h6, h4, h7, h8, h9, h10, h11⟩
  · rintro ⟨h1, h2, h3, h5, h6, h4, h7, h8, h9, h10, h11⟩
    exact ⟨⟨⟨⟨⟨⟨⟨⟨⟨⟨h1, h2⟩, h3⟩, h4⟩, h5⟩, h6⟩, h7⟩, h8⟩, h9⟩, h10⟩, h11⟩
theorem fc_DSame (d e : Dl) : FC Tryz.prog 12 [] [.agg (eDl d), .agg (eDl e)] (.ret (.bool (sameF d e))) := by
  refine fc_M (fn := Tryz.f12) (C := (tab [(46, c_EqS), (47, c_EqP), (49, c_Eq6), (50, c_EqSp), (48, c_EqF)] [] [])) (rs := [4]) mixed (by kernel_rfl) (by kernel_rfl) rfl rfl (by kernel_rfl) (by intro ys h; cases h) ?_
  unfold eDl sameF
  simp +contextual (maxSteps := 5000000) only [go_sem, ↓reduceIte, c_EqS, st_EqS, dS_eS, c_EqP, st_EqP, dP_eP, c_Eq6, st_Eq6, d6_eD6, c_EqSp, st_EqSp, dSp_eSp, c_EqF, st_EqF, dL_eL]
end Go.Proofs.YtlabdffgcciepaaGreatDoor
namespace Go.Proofs.YtlabdffgcciepaaGreatDoor
open Go.Tn
set_option maxHeartbeats 8000000
set_option maxRecDepth 100000
def pR (d : D) : List (List D) := match d with | .sl _ rows => rows | _ => []
def dDl (r : List D) : Dl := match r with
  | [a, b, co, .int _ na, .int _ nb, ro, de, ins, se, lo, ga] => ⟨(pR a).map dS, (pR b).map dS, (pR co).map dP, na, nb, (pR ro).map dP, (pR de).map dL, (pR ins).map dL, (pR se).map d6, (pR lo).map dSp, (pR ga).map dSp⟩
  | _ => ⟨[], [], [], 0, 0, [], [], [], [], [], []⟩
theorem dDl_eDl (d : Dl) : dDl (eDl d) = d := by
  simp only [eDl, dDl, pR, dS_eS, dP_eP, dL_eL, d6_eD6, dSp_eSp]
abbrev lA : List D := [.sl 1 [[.str [97]]], .sl 1 [[.str [98]]], .nil, .int .i64 0, .int .i64 0, .nil, .nil, .nil, .nil, .nil, .nil]
abbrev lB : List D := [.sl 1 [[.str [97]]], .sl 1 [[.str [98]]], .nil, .int .i64 1, .int .i64 0, .nil, .nil, .nil, .nil, .nil, .nil]
abbrev lC : List D := [.sl 1 [[.str [97]]], .sl 1 [[.str [97]]], .sl 2 [[.int .i64 0, .int .i64 0]], .int .i64 1, .int .i64 1, .sl 2 [[.int .i64 0, .int .i64 0]], .nil, .nil, .sl 6 [[.int .i64 0, .int .i64 0, .int .i64 0, .int .i64 0, .str [120], .str [121]]], .nil, .nil]
abbrev lE : List D := [.nil, .nil, .nil, .int .i64 0, .int .i64 0, .nil, .nil, .nil, .nil, .nil, .nil]
theorem k1 : chkD (dDl lA) = 0 := by decide +kernel
theorem k2 : chkD (dDl lB) = 13 := by decide +kernel
theorem k3 : chkD (dDl lC) = 0 := by decide +kernel
theorem k4 : chkD (dDl lE) = 8 := by decide +kernel
structure okArg (r : List D) : Prop where
  wk : wkL r (eDl (dDl r))
  ok : okDl (dDl r)
  na : (dDl r).na < 1000000000
  nb : (dDl r).nb < 1000000000
  cs : ∀ x ∈ (dDl r).dels ++ (dDl r).inss, x.2.length < 1000000000
theorem okArg_eDl {d : Dl} (h : okDl d) (h1 : d.na < 1000000000) (h2 : d.nb < 1000000000) (h3 : ∀ x ∈ d.dels ++ d.inss, x.2.length < 1000000000) : okArg (eDl d) := by
  refine ⟨by rw [dDl_eDl]; exact wkL_self _, ?_, ?_, ?_, ?_⟩ <;> rw [dDl_eDl] <;> assumption
theorem oE : okArg lE := ⟨by simp [wkL, wk, dDl, pR, eDl], by constructor <;> decide +kernel, by decide +kernel, by decide +kernel, by decide +kernel⟩
theorem wk_agg {r s : List D} (h : wkL r s) : wkL [.agg r] [.agg s] := by simp only [wkL, wk]; exact ⟨h, trivial⟩
theorem wk_agg2 {r s r' s' : List D} (h : wkL r s) (h' : wkL r' s') : wkL [.agg r, .agg r'] [.agg s, .agg s'] := by simp only [wkL, wk]; exact ⟨h, h', trivial⟩
def c_DChk (caps args : List D) : Prop × Out := match caps, args with | [], [.agg r] => (okArg r, .ret (.int .i64 (chkD (dDl r)))) | _, _ => (False, .ret .any)
theorem st_DChk : StC Tryz.prog 11 c_DChk := by
  intro caps args; unfold c_DChk; split
  · exact fun h => fc_wk (wkL_self []) (wk_agg h.wk) (by intro ys h; cases h) (fc_DCheck _ h.ok h.na h.nb)
  · exact fun h => h.elim
def c_DSame (caps args : List D) : Prop × Out := match caps, args with | [], [.agg r, .agg s] => (okArg r ∧ okArg s, .ret (.bool (sameF (dDl r) (dDl s)))) | _, _ => (False, .ret .any)
theorem st_DSame : StC Tryz.prog 12 c_DSame := by
  intro caps args; unfold c_DSame; split
  · exact fun h => fc_wk (wkL_self []) (wk_agg2 h.1.wk h.2.wk) (by intro ys h; cases h) (fc_DSame _ _)
  · exact fun h => h.elim
def c_fewD (caps args : List D) : Prop × Out := match caps, args with | [], [.agg r] => (wkL r (eDl (dDl r)) ∧ okT (dDl r), .ret (.bool (fewF (dDl r)))) | _, _ => (False, .ret .any)
theorem st_fewD : StC Tryz.prog 7 c_fewD := by
  intro caps args; unfold c_fewD; split
  · exact fun h => fc_wk (wkL_self []) (wk_agg h.1) (by intro ys h; cases h) (fc_Few _ h.2)
  · exact fun h => h.elim
end Go.Proofs.YtlabdffgcciepaaGreatDoor
namespace Go.Proofs.YtlabdffgcciepaaGreatDoor
open Go.Tn
set_option maxHeartbeats 8000000
set_option maxRecDepth 100000
end Go.Proofs.YtlabdffgcciepaaGreatDoor
namespace Go.Proofs.YtlabdffgcciepaaGreatDoor
open Go.Tn
set_option maxHeartbeats 8000000
set_option maxRecDepth 100000
theorem line_le {l : List Ln} {x : Ln} (h : x ∈ l) : x.2.length ≤ (txL l).length := by
  unfold txL
  obtain ⟨a, b, rfl⟩ := List.append_of_mem h
  simp; omega
theorem few_ok {d : Dl} (h : fewF d = true) : okDl d ∧ okArg (eDl d) ∧ cntN d ≤ 300 ∧ (d.na ≤ 60 ∧ d.nb ≤ 60) := by
  unfold fewF at h
  simp only [Bool.and_eq_true, decide_eq_true_eq] at h
  obtain ⟨⟨hn, h1, h2⟩, hm⟩ := h
  have hn' := hn
  unfold cntN at hn
  have hc : (txL (d.dels ++ d.inss)).length = (txL d.dels).length + (txL d.inss).length := by unfold txL; simp
  have ok : okDl d := by constructor <;> omega
  refine ⟨ok, okArg_eDl ok (by omega) (by omega) (fun x hx => ?_), hn', h1, h2⟩
  have := line_le hx
  omega
theorem eDl_lit (d : Dl) : eDl d = [.sl 1 (d.A.map eS), .sl 1 (d.B.map eS), .sl 2 (d.cols.map eP), .int .i64 d.na, .int .i64 d.nb, .sl 2 (d.rows.map eP), .sl 2 (d.dels.map eL), .sl 2 (d.inss.map eL), .sl 6 (d.sets.map eD6), .sl 3 (d.lost.map eSp), .sl 3 (d.gain.map eSp)] := rfl
end Go.Proofs.YtlabdffgcciepaaGreatDoor
namespace Go.Proofs.YtlabdffgcciepaaGreatDoor
open Go.Tn Go.RowKit
theorem own : ownKnob Tryz.prog.godebug = none := by kernel_rfl
theorem laidOut : laidOutB Tryz.prog = true := by kernel_rfl
mutual
theorem bulk_eq {H : Type} : ∀ d : DataW H, Rows.uptoBulk d = blk d
  | .lit l => by cases l <;> simp [Rows.uptoBulk, blk]
  | .nil => by simp [Rows.uptoBulk, blk]
  | .ptr d => by simp [Rows.uptoBulk, blk, bulk_eq d]
  | .slice elems spare => by simp [Rows.uptoBulk, blk, bulkL_eq elems, bulkL_eq spare]
  | .agg parts => by simp [Rows.uptoBulk, blk, bulkL_eq parts]
  | .iface _ d => by simp [Rows.uptoBulk, blk, bulk_eq d]
  | .map entries => by simp [Rows.uptoBulk, blk, bulkE_eq entries]
  | .held _ => by simp [Rows.uptoBulk, blk]
theorem bulkL_eq {H : Type} : ∀ l : List (DataW H), Rows.uptoBulkAll l = blkL l
  | [] => by simp [Rows.uptoBulkAll, blkL]
  | d :: r => by simp [Rows.uptoBulkAll, blkL, bulk_eq d, bulkL_eq r]
theorem bulkE_eq {H : Type} : ∀ l : List (Lit × DataW H), Rows.uptoBulkEntries l = blkE l
  | [] => by simp [Rows.uptoBulkEntries, blkE]
  | x :: r => by simp [Rows.uptoBulkEntries, blkE, bulk1_eq x, bulkE_eq r]
theorem bulk1_eq {H : Type} : ∀ x : Lit × DataW H, Rows.uptoBulkEntry x = blk1 x
  | (l, d) => by cases l <;> simp [Rows.uptoBulkEntry, blk1, bulk_eq d]
end
theorem small_le {H : Type} {ds : List (DataW H)} (h : Rows.uptoSmall H ds = true) : blkL ds ≤ 1048576 := by
  rw [← bulkL_eq]; exact of_decide_eq_true h
theorem fits_sS {d : D} (h : Fits (.slc [.str]) d) : ∃ l : List Str, d = .sl 1 (l.map eS) := by
  unfold Fits at h
  obtain ⟨r, rfl, g⟩ := h
  exact ⟨r.map dS, by rw [← fits_S g]; rfl⟩
theorem fits_sL {d : D} (h : Fits (.slc [.int .i64, .slc [.str]]) d) : ∃ l : List Ln, d = .sl 2 (l.map eL) := by
  unfold Fits at h
  obtain ⟨rows, rfl, g⟩ := h
  refine ⟨rows.map dL, ?_⟩
  have : rows = (rows.map dL).map eL := map_id_of fun r hr => by
    have := g r hr
    simp only [FitsL] at this
    obtain ⟨_, _, rfl, ⟨n, rfl⟩, _, _, rfl, h2, rfl⟩ := this
    obtain ⟨l, rfl⟩ := fits_sS h2
    simp only [dL, eL, List.headD_cons, List.tail_cons, rowsOf, iOf]
    rw [dS_eS]
  rw [← this]; rfl
theorem fits_s6 {d : D} (h : Fits (.slc [.int .i64, .int .i64, .int .i64, .int .i64, .str, .str]) d) : ∃ l : List St6, d = .sl 6 (l.map eD6) := by
  unfold Fits at h
  obtain ⟨rows, rfl, g⟩ := h
  refine ⟨rows.map d6, ?_⟩
  have : rows = (rows.map d6).map eD6 := map_id_of fun r hr => by
    have := g r hr
    simp only [FitsL, Fits] at this
    obtain ⟨_, _, rfl, ⟨_, rfl⟩, _, _, rfl, ⟨_, rfl⟩, _, _, rfl, ⟨_, rfl⟩, _, _, rfl, ⟨_, rfl⟩, _, _, rfl, ⟨_, rfl⟩, _, _, rfl, ⟨_, rfl⟩, rfl⟩ := this
    rfl
  rw [← this]; rfl
theorem fits_sSp {d : D} (h : Fits (.slc [.int .i64, .int .i64, .str]) d) : ∃ l : List Sp, d = .sl 3 (l.map eSp) := by
  unfold Fits at h
  obtain ⟨rows, rfl, g⟩ := h
  refine ⟨rows.map dSp, ?_⟩
  have : rows = (rows.map dSp).map eSp := map_id_of fun r hr => by
    have := g r hr
    simp only [FitsL, Fits] at this
    obtain ⟨_, _, rfl, ⟨_, rfl⟩, _, _, rfl, ⟨_, rfl⟩, _, _, rfl, ⟨_, rfl⟩, rfl⟩ := this
    rfl
  rw [← this]; rfl
theorem szD_pos (d : D) : 1 ≤ szD d := by unfold szD; split <;> omega
theorem szR_mem {r : List D} : ∀ {l : List (List D)}, r ∈ l → szL r ≤ szR l
  | x :: l, h => by
    simp only [szR]
    rcases List.mem_cons.1 h with rfl | h
    · omega
    · have := szR_mem h; omega
theorem szR_len {α : Type} {e : α → List D} (he : ∀ x, e x ≠ []) : ∀ l : List α, l.length ≤ szR (l.map e)
  | [] => by simp
  | x :: l => by
    have h1 := szR_len he l
    have h2 : 1 ≤ szL (e x) := by
      cases h : e x with
      | nil => exact absurd h (he x)
      | cons d r => simp only [szL]; have := szD_pos d; omega
    simp only [List.map_cons, szR, List.length_cons]; omega
theorem txL_sz : ∀ l : List Ln, (txL l).length ≤ szR (l.map eL)
  | [] => by simp [txL]
  | x :: l => by
    have h1 := txL_sz l
    have h2 := szR_len (e := eS) (by intro x h; cases h) x.2
    simp only [txL, List.flatMap_cons, List.length_append, List.map_cons, szR, eL, szL, szD] at h1 ⊢; omega
def delta_shs : List Sh := [.slc [.str], .slc [.str], .slc [.int .i64, .int .i64], .int .i64, .int .i64, .slc [.int .i64, .int .i64], .slc [.int .i64, .slc [.str]], .slc [.int .i64, .slc [.str]], .slc [.int .i64, .int .i64, .int .i64, .int .i64, .str, .str], .slc [.int .i64, .int .i64, .str], .slc [.int .i64, .int .i64, .str]]
theorem okT_of {d : Dl} (h : szL (eDl d) ≤ 1048576) : okT d := by
  simp only [eDl, szL, szD] at h
  have a1 := szR_len (e := eS) (by intro x h; cases h) d.A
  have a2 := szR_len (e := eS) (by intro x h; cases h) d.B
  have a3 := szR_len (e := eP) (by intro x h; cases h) d.cols
  have a4 := szR_len (e := eP) (by intro x h; cases h) d.rows
  have a5 := szR_len (e := eL) (by intro x h; cases h) d.dels
  have a6 := szR_len (e := eL) (by intro x h; cases h) d.inss
  have a7 := szR_len (e := eD6) (by intro x h; cases h) d.sets
  have a8 := szR_len (e := eSp) (by intro x h; cases h) d.lost
  have a9 := szR_len (e := eSp) (by intro x h; cases h) d.gain
  have b1 := txL_sz d.dels
  have b2 := txL_sz d.inss
  have tS : ∀ {l : List Str} {s : Str}, s ∈ l → s.length ≤ szR (l.map eS) := fun {l s} hs => by
    have := szR_mem (List.mem_map_of_mem (f := eS) hs)
    simp only [eS, szL, szD] at this; omega
  have tL : ∀ {l : List Ln} {s : Str}, s ∈ txL l → s.length ≤ szR (l.map eL) := fun {l s} hs => by
    obtain ⟨x, hx, hs⟩ := List.mem_flatMap.1 hs
    have h1 := szR_mem (List.mem_map_of_mem (f := eL) hx)
    have h2 := tS hs
    simp only [eL, szL, szD] at h1; omega
  have t6 : ∀ {l : List St6} {s : Str}, s ∈ txS l → s.length ≤ szR (l.map eD6) := fun {l s} hs => by
    obtain ⟨x, hx, hs⟩ := List.mem_flatMap.1 hs
    have h1 := szR_mem (List.mem_map_of_mem (f := eD6) hx)
    simp only [eD6, szL, szD] at h1
    simp only [List.mem_cons, List.not_mem_nil, or_false] at hs
    rcases hs with rfl | rfl <;> omega
  have tP : ∀ {l : List Sp} {s : Str}, s ∈ txP l → s.length ≤ szR (l.map eSp) := fun {l s} hs => by
    obtain ⟨x, hx, rfl⟩ := List.mem_map.1 hs
    have h1 := szR_mem (List.mem_map_of_mem (f := eSp) hx)
    simp only [eSp, szL, szD] at h1; omega
  refine ⟨by omega, by omega, by omega, by omega, by omega, by omega, by omega, by omega, by omega, ?_, fun s hs => ?_⟩
  · have : (txL (d.dels ++ d.inss)).length = (txL d.dels).length + (txL d.inss).length := by unfold txL; simp
    omega
  · unfold txF at hs
    have e1 : txL (d.dels ++ d.inss) = txL d.dels ++ txL d.inss := by unfold txL; simp
    have e2 : txP (d.lost ++ d.gain) = txP d.lost ++ txP d.gain := by unfold txP; simp
    rw [e1, e2] at hs
    simp only [List.mem_append] at hs
    rcases hs with (((hs | hs) | hs | hs) | hs) | hs | hs
    · have := tS hs; omega
    · have := tS hs; omega
    · have := tL hs; omega
    · have := tL hs; omega
    · have := t6 hs; omega
    · have := tP hs; omega
    · have := tP hs; omega
theorem open_delta {cs : List D} (hc : FitsL delta_shs cs) : ∃ d : Dl, cs = eDl d := by
  simp only [delta_shs, FitsL] at hc
  obtain ⟨_, _, rfl, h0, _, _, rfl, h1, _, _, rfl, h2, _, _, rfl, h3, _, _, rfl, h4, _, _, rfl, h5, _, _, rfl, h6, _, _, rfl, h7, _, _, rfl, h8, _, _, rfl, h9, _, _, rfl, h10, rfl⟩ := hc
  obtain ⟨A, rfl⟩ := fits_sS h0
  obtain ⟨B, rfl⟩ := fits_sS h1
  obtain ⟨co, rfl⟩ := fits_sP h2
  obtain ⟨na, rfl⟩ := fits_i h3
  obtain ⟨nb, rfl⟩ := fits_i h4
  obtain ⟨ro, rfl⟩ := fits_sP h5
  obtain ⟨de, rfl⟩ := fits_sL h6
  obtain ⟨ins, rfl⟩ := fits_sL h7
  obtain ⟨se, rfl⟩ := fits_s6 h8
  obtain ⟨lo, rfl⟩ := fits_sSp h9
  obtain ⟨ga, rfl⟩ := fits_sSp h10
  exact ⟨⟨A, B, co, na, nb, ro, de, ins, se, lo, ga⟩, rfl⟩
end Go.Proofs.YtlabdffgcciepaaGreatDoor
namespace Go.Proofs.YtlabdffgcciepaaGreatDoor
open Go.Tn
instance fenW : Fen Tryz.prog := ⟨False⟩
theorem untameW : ¬ tame Tryz.prog := fun h => h
end Go.Proofs.YtlabdffgcciepaaGreatDoor
