/-
  What the functions compute that the law of this claim reaches. By an AI agent.
-/
import Derived.Test.YtlabdffgcciepaaGreatDoorCards
import Derived.Test.YtlabdffgcciepaaGreatDoorTie
import Derived.WalkKit
import Derived.ProofKit
import Derived.OpenShut
import Derived.Deep.DeepHandedRow
import Derived.Deep.DeepWitnessRowRef
import Derived.Lib.LaidTab
import Derived.LaidMore
import Derived.LaidSub
import Derived.Lay
import Derived.SevenTiedAt
import Derived.Shelf.Vars
import Derived.Test.YtlabdffgcciepaaGreatDoorG4
set_option linter.unusedSimpArgs false
set_option linter.unusedVariables false
set_option linter.unusedSectionVars false
namespace Go.Proofs.YtlabdffgcciepaaGreatDoor
open Go.Tn
set_option maxHeartbeats 16000000
set_option maxRecDepth 100000
def tree10 : Tr := (.por 0 (.por 1 (.por 2 (.por 3 (.por 4 (.por 5 (.por 6 (.por 7 (.por 8 .leaf)))))))))
def tree21 : Tr := (.por 0 (.por 1 (.por 5 (.node (.cons 2 (.node (.cons 3 (.node (.cons 4 (.por 6 (.por 7 (.por 8 (.por 9 (.por 10 (.por 11 .leaf)))))) (.cons 6 (.por 4 (.por 7 (.por 8 (.por 9 (.por 10 (.por 11 .leaf)))))) .nil))) (.cons 4 (.node (.cons 3 (.por 6 (.por 7 (.por 8 (.por 9 (.por 10 (.por 11 .leaf)))))) (.cons 6 (.por 3 (.por 7 (.por 8 (.por 9 (.por 10 (.por 11 .leaf)))))) .nil))) (.cons 6 (.por 3 (.por 4 (.por 7 (.por 8 (.por 9 (.por 10 (.por 11 .leaf))))))) .nil)))) (.cons 4 (.node (.cons 2 (.node (.cons 3 (.por 6 (.por 7 (.por 8 (.por 9 (.por 10 (.por 11 .leaf)))))) (.cons 6 (.por 3 (.por 7 (.por 8 (.por 9 (.por 10 (.por 11 .leaf)))))) .nil))) (.cons 6 (.por 2 (.por 3 (.por 7 (.por 8 (.por 9 (.por 10 (.por 11 .leaf))))))) .nil))) (.cons 6 (.por 2 (.por 3 (.por 4 (.por 7 (.por 8 (.por 9 (.por 10 (.por 11 .leaf)))))))) .nil)))))))
theorem w_RestA : StC Tryz.prog 32 c_RestA := stC_wide fenN fenW untameW (by intro a b; unfold c_RestA; split <;> rfl) st_RestA
abbrev Sm6 := List ((Int × Int) × List St6)
def sM6 (l : List St6) : Sm6 := l.foldl (fun m x => gup m (x.i, x.j) (glk [] m (x.i, x.j) ++ [x])) []
theorem sM6_take {l : List St6} {i : Nat} (h : i < l.length) : sM6 (l.take (i + 1)) = gup (sM6 (l.take i)) ((l.getD i default).i, (l.getD i default).j) (glk [] (sM6 (l.take i)) ((l.getD i default).i, (l.getD i default).j) ++ [l.getD i default]) := by
  unfold sM6
  rw [List.take_add_one, List.getElem?_eq_getElem h, List.foldl_append, List.getD_eq_getElem?_getD, List.getElem?_eq_getElem h]; rfl
theorem sM6_lk (p : Int × Int) (l : List St6) : glk [] (sM6 l) p = stF6 l p := by
  have key : ∀ i, i ≤ l.length → glk [] (sM6 (l.take i)) p = stF6 (l.take i) p := by
    intro i
    induction i with
    | zero => intro _; rfl
    | succ i ih =>
      intro hi
      have hlt : i < l.length := by omega
      rw [sM6_take hlt, glk_gup, stF6_take hlt]
      have ih := ih (by omega)
      by_cases e : p = ((l.getD i default).i, (l.getD i default).j)
      · rw [if_pos e, ← e, ih, if_pos (by rw [e]; exact ⟨rfl, rfl⟩)]
      · rw [if_neg e, ih, if_neg (fun h => e (Prod.ext h.1.symm h.2.symm)), List.append_nil]
  have := key l.length (Nat.le_refl _)
  rwa [List.take_length] at this
def mB (n : Nat) : List (Int × Int) := (List.range n).map fun b : Nat => ((-1 : Int), (b : Int))
def stPs (l : List (Int × Int)) (n : Nat) : List (Int × Int) := l.foldl (fun L p => L.set p.2.toNat p) (mB n)
theorem stPs_take {l : List (Int × Int)} {n i : Nat} (h : i < l.length) : stPs (l.take (i + 1)) n = (stPs (l.take i) n).set (l.getD i (0, 0)).2.toNat (l.getD i (0, 0)) := by
  unfold stPs
  rw [List.take_add_one, List.getElem?_eq_getElem h, List.foldl_append, List.getD_eq_getElem?_getD, List.getElem?_eq_getElem h]; rfl
theorem stPs_len (l : List (Int × Int)) (n : Nat) : (stPs l n).length = n := by
  have gen : ∀ (l L : List (Int × Int)), (l.foldl (fun L p => L.set p.2.toNat p) L).length = L.length := by
    intro l
    induction l with
    | nil => intro L; rfl
    | cons p r ih => intro L; rw [List.foldl_cons, ih]; simp
  unfold stPs; rw [gen]; simp [mB]
theorem stPs_by {l : List (Int × Int)} {na nb : Int} (g : Good l na nb) {n : Nat} : stPs l n = byF l n := by
  have gen : ∀ (l L : List (Int × Int)) (b : Nat), (∀ p ∈ l, 0 ≤ p.2) → (l.foldl (fun L p => L.set p.2.toNat p) L)[b]? = (L[b]?).map fun x => l.foldl (fun (p q : Int × Int) => if q.2 = (b : Int) then q else p) x := by
    intro l
    induction l with
    | nil => intro L b _; simp
    | cons p r ih =>
      intro L b h
      have hp := h p (by simp)
      rw [List.foldl_cons, ih _ _ (fun q hq => h q (by simp [hq])), List.getElem?_set]
      by_cases e : p.2.toNat = b
      · have e2 : p.2 = (b : Int) := by omega
        rw [if_pos e]
        by_cases hb : p.2.toNat < L.length
        · rw [if_pos hb, List.getElem?_eq_getElem (by omega)]
          simp [e2]
        · rw [if_neg hb, List.getElem?_eq_none (by omega)]; rfl
      · have e2 : ¬ p.2 = (b : Int) := by omega
        rw [if_neg e]
        cases L[b]? with
        | none => rfl
        | some x => simp [e2]
  apply List.ext_getElem?
  intro b
  unfold stPs byF
  rw [gen l (mB n) b (fun p hp => (g.inn p hp).2.2.1), List.getElem?_map]
  unfold mB
  rw [List.getElem?_map, Option.map_map]
  by_cases hb : b < n
  · rw [List.getElem?_range hb]; rfl
  · rw [List.getElem?_eq_none (by simpa using hb)]; rfl
def vwC (d : Dl) (cols sets : D) : List D := eDl d ++ [cols, .mp ((stQ d.cols (stF d.cols)).map kPi) ((stQ d.cols (stF d.cols)).map vPi), .mp ((stQ d.rows (stF d.rows)).map kPi) ((stQ d.rows (stF d.rows)).map vPi), .mp ((spM d.gain).map kP) ((spM d.gain).map vP), .mp ((spM d.lost).map kP) ((spM d.lost).map vP), .mp ((lnM d.dels).map kLo) ((lnM d.dels).map vLo), .mp ((lnM d.inss).map kLo) ((lnM d.inss).map vLo), sets]
def eVw (d : Dl) : List D := vwC d (.sl 2 ((shF d).map eP)) (.mp ((sM6 d.sets).map fun x => keP x.1) ((sM6 d.sets).map fun x => .sl 6 (x.2.map eD6)))
theorem mfindP {V : Type} {kty : Ty} {M : List ((Int × Int) × V)} {a b : Int} (h : kty.kind = .struct) (he : kty.eagg = true) (hk : kty.zero = [.int .i64 0, .int .i64 0]) : mfind kty (M.map fun x => keP x.1) (.agg [.int .i64 a, .int .i64 b]) = some (gix M (a, b)) := gfind (ke := keP) (eqK_pair h he hk) (a, b) M
theorem eqKP {kty : Ty} {a b c e : Int} (h : kty.kind = .struct) (he : kty.eagg = true) (hk : kty.zero = [.int .i64 0, .int .i64 0]) : eqK kty (.agg [.int .i64 a, .int .i64 b]) (.agg [.int .i64 c, .int .i64 e]) = some (decide ((a, b) = (c, e))) := eqK_pair h he hk (a, b) (c, e)
theorem gix_none {K V : Type} [DecidableEq K] {v0 v : V} {k : K} : ∀ {m : List (K × V)}, gix m k = none → gup m k v = m ++ [(k, v)] ∧ glk v0 m k = v0
  | [], _ => ⟨rfl, rfl⟩
  | x :: r, h => by
    simp only [gix] at h
    by_cases e : x.1 = k
    · rw [if_pos e] at h; cases h
    · rw [if_neg e, Option.map_eq_none_iff] at h
      obtain ⟨h1, h2⟩ := gix_none (v0 := v0) (v := v) h
      simp only [gup, glk, if_neg e, h1, h2, List.cons_append]
      exact ⟨trivial, trivial⟩
theorem gix_someS {K V : Type} [DecidableEq K] {v0 v : V} {k : K} {d : K × V} : ∀ {m : List (K × V)} {s : Nat}, gix m k = some s → s < m.length ∧ gup m k v = m.set s (k, v) ∧ glk v0 m k = (m.getD s d).2 ∧ (m.getD s d).1 = k
  | [], _, h => by cases h
  | x :: r, s, h => by
    simp only [gix] at h
    by_cases e : x.1 = k
    · rw [if_pos e] at h; cases h
      simp [gup, glk, e]
    · rw [if_neg e] at h
      obtain ⟨j, hj, rfl⟩ := Option.map_eq_some_iff.1 h
      obtain ⟨h1, h2, h3, h4⟩ := gix_someS (v0 := v0) (v := v) (d := d) hj
      simp only [gup, glk, if_neg e, h2, h3]
      exact ⟨by simpa using h1, rfl, rfl, h4⟩
theorem gup_lenle {K V : Type} [DecidableEq K] (k : K) (v : V) : ∀ m : List (K × V), (gup m k v).length ≤ m.length + 1
  | [] => by simp [gup]
  | x :: r => by
    have := gup_lenle k v r
    simp only [gup]; split <;> simp only [List.length_cons] <;> omega
theorem sM6_len (l : List St6) : ∀ i, (sM6 (l.take i)).length ≤ i
  | 0 => by simp [sM6]
  | i + 1 => by
    have ih := sM6_len l i
    by_cases h : i < l.length
    · rw [sM6_take h]
      have := gup_lenle ((l.getD i default).i, (l.getD i default).j) (glk [] (sM6 (l.take i)) ((l.getD i default).i, (l.getD i default).j) ++ [l.getD i default]) (sM6 (l.take i))
      omega
    · have e : l.take (i + 1) = l.take i := by rw [List.take_of_length_le (by omega), List.take_of_length_le (by omega)]
      rw [e]; omega
theorem sM6_vl (l : List St6) : ∀ i, ∀ x ∈ sM6 (l.take i), x.2.length ≤ i
  | 0, x, h => by simp [sM6] at h
  | i + 1, x, h => by
    have ih := sM6_vl l i
    by_cases hl : i < l.length
    · rw [sM6_take hl] at h
      generalize l.getD i default = s at h
      generalize sM6 (l.take i) = M at h ih
      cases hgx : gix M (s.i, s.j) with
      | none =>
        obtain ⟨u1, u2⟩ := gix_none (v0 := ([] : List St6)) (v := [s]) hgx
        rw [u2, List.nil_append, u1] at h
        rcases List.mem_append.1 h with h | h
        · have := ih x h; omega
        · have : x = ((s.i, s.j), [s]) := by simpa using h
          rw [this]; simp
      | some k =>
        obtain ⟨u1, u2, u3, _⟩ := gix_someS (v0 := ([] : List St6)) (v := (M.getD k ((0, 0), [])).2 ++ [s]) (d := ((0, 0), [])) hgx
        rw [u3, u2] at h
        rcases List.mem_or_eq_of_mem_set h with h | h
        · have := ih x h; omega
        · have hk := ih (M.getD k ((0, 0), [])) (getD_mem u1)
          rw [h]; simp only [List.length_append, List.length_cons, List.length_nil]; omega
    · have e : l.take (i + 1) = l.take i := by rw [List.take_of_length_le (by omega), List.take_of_length_le (by omega)]
      rw [e] at h
      have := ih x h; omega
theorem sM6_vlen {M : Sm6} {i : Nat} (h : ∀ x ∈ M, x.2.length ≤ i) {k : Nat} (hk : k < M.length) : ((M.getD k ((0, 0), [])).2).length ≤ i := h _ (getD_mem hk)
def hdS (d : Dl) (N : List (Int × Int)) (i : Nat) : Hd := ⟨[(1, .loc 1 0), (3, .loc 33 0), (92, .sl 6 (d.sets.map eD6)), (93, .int .i64 d.sets.length), (94, .int .i64 i)],
  (1, .blk (eDl d) false) :: (33, .blk (vwC d (.vec 48 N.length) (.lmap 31)) false) :: (48, .vec 39 2 (N.map eP) 0) :: (31, .mv ((sM6 (d.sets.take i)).map fun x => keP x.1) (idsFG 31 0 ((sM6 (d.sets.take i)).map (·.2)))) :: famFG 6 eD6 31 41 0 ((sM6 (d.sets.take i)).map (·.2))⟩
theorem fc_look (d : Dl) (ho : okDl d) (g : OkD d) : FC Tryz.prog 14 [] [.agg (eDl d)] (.ret (.box (eVw d))) := by
  have hd1 : (d.cols.map eP).map dP = d.cols := dP_eP _
  have hd2 : (d.rows.map eP).map dP = d.rows := dP_eP _
  have hd3 : (d.gain.map eSp).map dSp = d.gain := dSp_eSp _
  have hd4 : (d.lost.map eSp).map dSp = d.lost := dSp_eSp _
  have hd5 : (d.dels.map eL).map dL = d.dels := dL_eL _
  have hd6 : (d.inss.map eL).map dL = d.inss := dL_eL _
  obtain ⟨hA, hB, hC, hR, hDe, hIn, hSe, hLo, hGa, _⟩ := ho
  refine fc_M (fn := Tryz.f14) (C := (tab [(51, c_hst), (52, c_hsp), (53, c_hln), (32, c_RestA)] [] [4001, 7010, 7021])) (rs := [2]) mixed (by kernel_rfl) (by kernel_rfl) rfl rfl (by kernel_rfl) (by intro ys h; cases h) ?_
  unfold eDl
  simp +contextual (maxSteps := 5000000) only [go_sem, ↓reduceIte]
  refine M_cut 20 ⟨by decide, by kernel_rfl⟩ ?_
  simp only [List.take_succ_cons, List.take_zero, List.drop_succ_cons, List.drop_zero]
  simp +contextual (maxSteps := 5000000) only [go_sem, ↓reduceIte, c_hst, st_hst, c_hsp, st_hsp, c_hln, st_hln, hd1, hd2, hd3, hd4, hd5, hd6, hC, hR, hDe, hIn, hLo, hGa]
  generalize hq1 : stQ d.cols (stF d.cols) = q1
  generalize hq2 : stQ d.rows (stF d.rows) = q2
  generalize hq3 : spM d.gain = q3
  generalize hq4 : spM d.lost = q4
  generalize hq5 : lnM d.dels = q5
  generalize hq6 : lnM d.inss = q6
  have hvw : ∀ a b, vwC d a b = eDl d ++ [a, .mp (q1.map kPi) (q1.map vPi), .mp (q2.map kPi) (q2.map vPi), .mp (q3.map kP) (q3.map vP), .mp (q4.map kP) (q4.map vP), .mp (q5.map kLo) (q5.map vLo), .mp (q6.map kLo) (q6.map vLo), b] := fun a b => by unfold vwC; rw [hq1, hq2, hq3, hq4, hq5, hq6]
  have hev : eVw d = vwC d (.sl 2 ((shF d).map eP)) (.mp ((sM6 d.sets).map fun x => keP x.1) ((sM6 d.sets).map fun x => .sl 6 (x.2.map eD6))) := rfl
  rw [hev, hvw]
  clear hq1 hq2 hq3 hq4 hq5 hq6 hev
  intro _
  refine M_loopI (fun q : Nat => ⟨[(1, .loc 1 0), (3, .loc 33 0), (36, .int .i64 d.B.length), (37, .int .i64 q)], [(1, .blk (eDl d) false), (31, .mp [] [] false), (33, .blk (vwC d (.vec 48 q) (.lmap 31)) false), (48, .vec 39 2 ((mB q).map eP) 0)]⟩) (fun q => d.B.length - q) (fun q => q ≤ d.B.length) 0 ?_ ?_
  · simp only [hvw]
    simp +contextual (maxSteps := 5000000) only [go_sem, ↓reduceIte, eDl, mB, List.range_zero]
    rfl
  intro q hq
  simp only [hvw]
  have hml : (mB q).length = q := by simp [mB]
  by_cases hlt : q < d.B.length
  · have hsu : mB (q + 1) = mB q ++ [(-1, (q : Int))] := by unfold mB; rw [List.range_succ, List.map_append]; rfl
    simp +contextual (maxSteps := 5000000) only [go_sem, ↓reduceIte, eDl, hlt]
    exact ⟨⟨hml, by omega⟩, fun _ => ⟨inR64 (by omega) (by omega), fun _ => ⟨q + 1, ⟨by simp, rfl, by rw [hsu, List.map_append]; rfl⟩, by omega, by omega⟩⟩⟩
  obtain rfl : q = d.B.length := by omega
  simp +contextual (maxSteps := 5000000) only [go_sem, ↓reduceIte, eDl, hlt]
  intro _
  refine M_loopI (fun i : Nat => ⟨[(1, .loc 1 0), (3, .loc 33 0), (53, .sl 2 (d.cols.map eP)), (54, .int .i64 d.cols.length), (55, .int .i64 i)], [(1, .blk (eDl d) false), (31, .mp [] [] false), (33, .blk (vwC d (.vec 48 d.B.length) (.lmap 31)) false), (48, .vec 39 2 ((stPs (d.cols.take i) d.B.length).map eP) 0)]⟩) (fun i => d.cols.length - i) (fun i => i ≤ d.cols.length) 0 ?_ ?_
  · simp only [hvw]
    simp +contextual (maxSteps := 5000000) only [go_sem, ↓reduceIte, eDl, stPs, List.foldl_nil]
    rfl
  intro i hi
  simp only [hvw]
  have hsl := stPs_len (d.cols.take i) d.B.length
  by_cases hlt : i < d.cols.length
  · have hat := eP_at d.cols i hlt
    have hst := stPs_take (n := d.B.length) hlt
    have hin := g.cols.inn _ (getD_mem (d := ((0 : Int), (0 : Int))) hlt)
    generalize d.cols.getD i (0, 0) = p at hat hst hin
    unfold inB at hin
    obtain ⟨k, hk⟩ : ∃ k : Nat, p.2 = k := ⟨p.2.toNat, by omega⟩
    rw [hk] at hat hst
    rw [Int.toNat_natCast] at hst
    have hkB : k < d.B.length := by omega
    simp +contextual (maxSteps := 5000000) only [go_sem, ↓reduceIte, eDl, hlt, hat]
    refine M_tree tree10 (by show chkTr _ _ _ _ = true; kernel_rfl) ?_
    unfold tree10
    simp +contextual (maxSteps := 5000000) only [go_sem, ↓reduceIte, eDl, hkB, hsl]
    have hdr : List.drop 2 ((List.map eP (stPs (List.take i d.cols) d.B.length)).getD k []) = [] := by rw [eP_at _ k (by omega)]; rfl
    rw [hdr]
    exact ⟨by omega, fun _ => ⟨inR64 (by omega) (by omega), fun _ => ⟨i + 1, ⟨by simp, by rw [hst, List.map_set]; congr 1; unfold eP; rw [hk]⟩, by omega, by omega⟩⟩⟩
  obtain rfl : i = d.cols.length := by omega
  rw [List.take_length] at hsl ⊢
  have hby : stPs d.cols d.B.length = byF d.cols d.B.length := stPs_by g.cols
  rw [hby] at hsl ⊢
  have hC2 : d.cols.length < 1000000000 := by omega
  have hA2 : (d.A.length : Int) ≤ 1000000000 := by omega
  simp +contextual (maxSteps := 5000000) only [go_sem, ↓reduceIte, eDl, hlt, c_RestA, w_RestA, hd1, hC2, hA2]
  have hsh : shF d = byF d.cols d.B.length ++ gnP (rsL (d.cols.map (·.1)) d.A.length) := rfl
  have hgl := rsL_len (d.cols.map (·.1)) d.A.length
  have hbl := byF_len d.cols d.B.length
  rw [hsh]
  generalize rsL (d.cols.map (·.1)) d.A.length = G at hgl ⊢
  intro _
  refine M_loopI (fun i : Nat => ⟨[(1, .loc 1 0), (3, .loc 33 0), (73, .vec 73 G.length), (74, .int .i64 G.length), (75, .int .i64 i)], [(1, .blk (eDl d) false), (31, .mp [] [] false), (33, .blk (vwC d (.vec 48 (d.B.length + i)) (.lmap 31)) false), (48, .vec 39 2 ((byF d.cols d.B.length ++ gnP (G.take i)).map eP) 0), (73, .vec 3 1 (G.map eI) 0)]⟩) (fun i => G.length - i) (fun i => i ≤ G.length) 0 ?_ ?_
  · simp only [hvw]
    simp +contextual (maxSteps := 5000000) only [go_sem, ↓reduceIte, eDl, gnP]
    rfl
  intro i hi
  simp only [hvw]
  by_cases hlt : i < G.length
  · have hat := eI_at G i hlt
    have hsn : G.take (i + 1) = G.take i ++ [G.getD i 0] := by
      rw [List.take_add_one, List.getElem?_eq_getElem hlt, List.getD_eq_getElem?_getD, List.getElem?_eq_getElem hlt]; rfl
    have hgp : (gnP (G.take i)).length = i := by simp [gnP]; omega
    simp +contextual (maxSteps := 5000000) only [go_sem, ↓reduceIte, eDl, hlt, hat]
    have hab : (byF d.cols d.B.length).length + (gnP (List.take i G)).length = d.B.length + i := by omega
    exact ⟨⟨hab, by omega⟩, fun _ => ⟨inR64 (by omega) (by omega), fun _ => ⟨i + 1, ⟨by simp, by rw [Nat.add_assoc], by rw [hsn, gnP_snoc]; simp [eP]⟩, by omega, by omega⟩⟩⟩
  obtain rfl : i = G.length := by omega
  rw [List.take_length]
  have hNl : (byF d.cols d.B.length ++ gnP G).length = d.B.length + G.length := by simp [gnP, hbl]
  generalize byF d.cols d.B.length ++ gnP G = N at hNl ⊢
  rw [← hNl]
  simp +contextual (maxSteps := 5000000) only [go_sem, ↓reduceIte, eDl, hlt]
  intro _
  refine M_loopI (fun i : Nat => hdS d N i) (fun i => d.sets.length - i) (fun i => i ≤ d.sets.length) 0 ?_ ?_
  · unfold hdS
    simp only [hvw]
    simp +contextual (maxSteps := 5000000) only [go_sem, ↓reduceIte, eDl, sM6, List.foldl_nil, idsFG, famFG]
    exact ⟨rfl, trivial⟩
  intro i hi
  unfold hdS
  simp only [hvw]
  have hML := sM6_len d.sets i
  by_cases hlt : i < d.sets.length
  · have hat := eD6_at d.sets i hlt
    have hsm := sM6_take hlt
    have hvI := sM6_vl d.sets i
    generalize sM6 (d.sets.take i) = M at hsm hML hvI ⊢
    generalize d.sets.getD i default = s at hat hsm
    have hidl : (idsFG 31 0 (M.map (·.2))).length = M.length := by rw [ids_lenG]; simp
    simp +contextual (maxSteps := 5000000) only [go_sem, ↓reduceIte, eDl, hlt, hat, inn_ne, inn_ne', famH_litG, famU_litG]
    refine M_tree tree21 (by show chkTr _ _ _ _ = true; kernel_rfl) ?_
    unfold tree21
    cases hgx : gix M (s.i, s.j) with
    | none =>
      obtain ⟨u1, u2⟩ := gix_none (v0 := ([] : List St6)) (v := [s]) hgx
      have hU1 : mkU (famFG 6 eD6 31 41 0 (M.map (·.2))) (inn 31 M.length) = false := by
        have := (fam_noG 6 eD6 31 41 (M.map (·.2)) 0 M.length (by simp)).2
        rwa [Nat.zero_add] at this
      simp +contextual (maxSteps := 5000000) only [go_sem, ↓reduceIte, eDl, hat, mfindP, eqKP, hgx, inn_ne, inn_ne', famH_litG, famU_litG, hidl, hU1]
      have hsm' : sM6 (d.sets.take (i + 1)) = M ++ [((s.i, s.j), [s])] := by rw [hsm, u2, List.nil_append, u1]
      have hms : (sM6 (d.sets.take (i + 1))).map (·.2) = M.map (·.2) ++ [[s]] := by rw [hsm', List.map_append]; rfl
      refine ⟨inR64 (by omega) (by omega), fun _ => ⟨i + 1, ⟨by simp, ⟨⟨by rw [hsm', List.map_append]; rfl, by rw [hms, ids_snocG, List.length_map, Nat.zero_add]; rfl⟩, ids_inG 31 _ 0 fun j hj => ?_⟩, fam_entG 6 eD6 31 _ _ 0 fun j hj => ?_⟩, by omega, by omega⟩⟩
      · simp only [upd]
        simp only [inn_ne, Nat.reduceAdd, Nat.reduceMul, Nat.reduceLT, if_false]
        exact famU_atG 6 eD6 31 41 _ 0 j hj
      · rw [hms] at hj ⊢
        simp only [upd]
        simp only [inn_ne, inn_ne', Nat.reduceAdd, Nat.reduceMul, Nat.reduceLT, if_false, inn_eq, Nat.zero_add]
        by_cases hji : j = M.length
        · subst hji
          simp [List.getD_eq_getElem?_getD, eD6]
        · have hjl : j < (M.map (·.2)).length := by simp only [List.length_append, List.length_map, List.length_cons, List.length_nil] at hj ⊢; omega
          have := fam_atG 6 eD6 31 41 (M.map (·.2)) 0 j hjl
          rw [Nat.zero_add] at this
          rw [if_neg hji, this]
          rw [List.getD_eq_getElem?_getD, List.getD_eq_getElem?_getD, List.getElem?_append_left hjl]
    | some k =>
      obtain ⟨u1, u2, u3, u4⟩ := gix_someS (v0 := ([] : List St6)) (v := (M.getD k ((0, 0), [])).2 ++ [s]) (d := ((0, 0), [])) hgx
      have hida : (idsFG 31 0 (M.map (·.2))).getD k (0, 0) = (inn 31 k, ((M.map (·.2)).getD k []).length) := by
        have := ids_atG 31 (M.map (·.2)) 0 k (by simpa using u1)
        rwa [Nat.zero_add] at this
      have hMk : (M.map (·.2)).getD k [] = (M.getD k ((0, 0), [])).2 := by
        rw [List.getD_eq_getElem?_getD, List.getElem?_map, List.getD_eq_getElem?_getD, List.getElem?_eq_getElem u1]; rfl
      have hH1 : mkH (famFG 6 eD6 31 41 0 (M.map (·.2))) (inn 31 k) = some (.vec 41 6 ((M.getD k ((0, 0), [])).2.map eD6) 0) := by
        have := fam_atG 6 eD6 31 41 (M.map (·.2)) 0 k (by simpa using u1)
        rwa [Nat.zero_add, hMk] at this
      rw [hMk] at hida
      have hkne : (k = M.length) = False := eq_false (by omega)
      simp +contextual (maxSteps := 5000000) only [go_sem, ↓reduceIte, eDl, hat, mfindP, eqKP, hgx, inn_ne, inn_ne', famH_litG, famU_litG, hidl, hida, hH1, hkne, u1]
      have hsm' : sM6 (d.sets.take (i + 1)) = M.set k ((s.i, s.j), (M.getD k ((0, 0), [])).2 ++ [s]) := by rw [hsm, u3, u2]
      have hms : (sM6 (d.sets.take (i + 1))).map (·.2) = (M.map (·.2)).set k ((M.getD k ((0, 0), [])).2 ++ [s]) := by rw [hsm', List.map_set]
      have hmk : (sM6 (d.sets.take (i + 1))).map (fun x => keP x.1) = M.map fun x => keP x.1 := by
        rw [hsm', List.map_set]
        refine List.ext_getElem? fun q => ?_
        rw [List.getElem?_set]
        by_cases hq : k = q
        · subst hq
          rw [if_pos rfl, if_pos (by simpa using u1), List.getElem?_map, List.getElem?_eq_getElem u1]
          rw [List.getD_eq_getElem?_getD, List.getElem?_eq_getElem u1, Option.getD_some] at u4
          rw [Option.map_some, u4]
        · rw [if_neg hq]
      have hvl : ((M.getD k ((0, 0), [])).2).length ≤ i := sM6_vlen hvI u1
      refine ⟨by omega, fun _ => ⟨inR64 (by omega) (by omega), fun _ => ⟨i + 1, ⟨by simp, ⟨⟨by rw [hmk], by rw [hms, ids_setG _ _ _ _ _ (by simpa using u1), Nat.zero_add, List.length_append]; rfl⟩, ids_inG 31 _ 0 fun j hj => ?_⟩, fam_entG 6 eD6 31 _ _ 0 fun j hj => ?_⟩, by omega, by omega⟩⟩⟩
      · simp only [upd]
        simp only [inn_ne, Nat.reduceAdd, Nat.reduceMul, Nat.reduceLT, if_false]
        exact famU_atG 6 eD6 31 41 _ 0 j hj
      · rw [hms] at hj ⊢
        simp only [upd]
        simp only [inn_ne, inn_ne', Nat.reduceAdd, Nat.reduceMul, Nat.reduceLT, if_false, inn_eq, Nat.zero_add]
        rw [List.length_set] at hj
        by_cases hji : j = k
        · subst hji
          simp [List.getD_eq_getElem?_getD, eD6, u1]
        · have := fam_atG 6 eD6 31 41 (M.map (·.2)) 0 j hj
          rw [Nat.zero_add] at this
          rw [if_neg hji, this]
          rw [List.getD_eq_getElem?_getD, List.getD_eq_getElem?_getD, List.getElem?_set_ne (fun h => hji h.symm)]
  obtain rfl : i = d.sets.length := by omega
  rw [List.take_length] at hML ⊢
  have hfam : ∀ q, q < ((sM6 d.sets).map (·.2)).length → mkH (hdS d N d.sets.length).o (inn 31 (0 + q)) = some (.vec 41 6 ((((sM6 d.sets).map (·.2)).getD q []).map eD6) 0) := fun q hq => by
    unfold hdS
    rw [List.take_length]
    simp only [mkH, upd]
    simp only [inn_ne, Nat.reduceAdd, Nat.reduceMul, Nat.reduceLT, if_false]
    exact fam_atG 6 eD6 31 41 _ 0 q hq
  have hcv := ids_cvG 6 eD6 31 41 3 ((sM6 d.sets).map (·.2)) 0 hfam
  have hnw := ids_newG 6 eD6 31 41 3 ((sM6 d.sets).map (·.2)) 0 hfam
  unfold hdS at hcv hnw
  rw [List.take_length] at hcv hnw
  simp only [mkH, hvw, eDl, List.cons_append, List.nil_append, Nat.reduceAdd] at hcv hnw
  have hidl : (idsFG 31 0 ((sM6 d.sets).map (·.2))).length = (sM6 d.sets).length := by rw [ids_lenG]; simp
  simp +contextual (maxSteps := 5000000) only [go_sem, ↓reduceIte, eDl, hlt, ↓hcv, hnw, hidl]
  rw [List.map_map]; rfl
end Go.Proofs.YtlabdffgcciepaaGreatDoor
namespace Go.Proofs.YtlabdffgcciepaaGreatDoor
open Go.Tn
set_option maxHeartbeats 16000000
set_option maxRecDepth 100000
theorem vl (d : Dl) (k : Nat) : (List.drop k (eVw d)).length = 19 - k := by rw [List.length_drop]; rfl
theorem vl0 (d : Dl) : (eVw d).length = 19 := rfl
theorem vt0 (d : Dl) : List.take 1 (eVw d) = [.sl 1 (d.A.map eS)] := rfl
theorem vt1 (d : Dl) : List.take 1 (List.drop 1 (eVw d)) = [.sl 1 (d.B.map eS)] := rfl
theorem vt2 (d : Dl) : List.take 1 (List.drop 2 (eVw d)) = [.sl 2 (d.cols.map eP)] := rfl
theorem vt3 (d : Dl) : List.take 1 (List.drop 3 (eVw d)) = [.int .i64 d.na] := rfl
theorem vt4 (d : Dl) : List.take 1 (List.drop 4 (eVw d)) = [.int .i64 d.nb] := rfl
theorem vt11 (d : Dl) : List.take 1 (List.drop 11 (eVw d)) = [.sl 2 ((shF d).map eP)] := rfl
theorem vt12 (d : Dl) : List.take 1 (List.drop 12 (eVw d)) = [.mp ((stQ d.cols (stF d.cols)).map kPi) ((stQ d.cols (stF d.cols)).map vPi)] := rfl
theorem vt13 (d : Dl) : List.take 1 (List.drop 13 (eVw d)) = [.mp ((stQ d.rows (stF d.rows)).map kPi) ((stQ d.rows (stF d.rows)).map vPi)] := rfl
theorem vt14 (d : Dl) : List.take 1 (List.drop 14 (eVw d)) = [.mp ((spM d.gain).map kP) ((spM d.gain).map vP)] := rfl
theorem vt15 (d : Dl) : List.take 1 (List.drop 15 (eVw d)) = [.mp ((spM d.lost).map kP) ((spM d.lost).map vP)] := rfl
theorem vt16 (d : Dl) : List.take 1 (List.drop 16 (eVw d)) = [.mp ((lnM d.dels).map kLo) ((lnM d.dels).map vLo)] := rfl
theorem vt17 (d : Dl) : List.take 1 (List.drop 17 (eVw d)) = [.mp ((lnM d.inss).map kLo) ((lnM d.inss).map vLo)] := rfl
theorem vt18 (d : Dl) : List.take 1 (List.drop 18 (eVw d)) = [.mp ((sM6 d.sets).map fun x => keP x.1) ((sM6 d.sets).map fun x => .sl 6 (x.2.map eD6))] := rfl
attribute [go_sem] vl vl0 vt0 vt1 vt2 vt3 vt4 vt11 vt12 vt13 vt14 vt15 vt16 vt17 vt18
def OfOk (d : Dl) (g : Nat) (cs : List D) (q : Int × Int → Str) : Prop := cleanL [.fn g [] cs] = true ∧ ∀ p ∈ shF d, FC Tryz.prog g cs [.agg [.int .i64 p.1, .int .i64 p.2]] (.ret (.str (q p)))
def c_ofP (d : Dl) (cs : List D) (q : Int × Int → Str) (caps args : List D) : Prop × Out := match args with
  | [.agg [.int .i64 a, .int .i64 b]] => (caps = cs ∧ (a, b) ∈ shF d, .ret (.str (q (a, b))))
  | _ => (False, .ret .any)
theorem st_ofP {d : Dl} {g : Nat} {cs : List D} {q : Int × Int → Str} (h : ∀ p ∈ shF d, FC Tryz.prog g cs [.agg [.int .i64 p.1, .int .i64 p.2]] (.ret (.str (q p)))) : StC Tryz.prog g (c_ofP d cs q) := by
  intro caps args; unfold c_ofP; split
  · rintro ⟨rfl, h2⟩; exact h _ h2
  · exact fun h => h.elim
theorem fc_record (d : Dl) (hs : (shF d).length < 1000000000) (m at' : Str) (g : Nat) (cs : List D) (q : Int × Int → Str) (hok : OfOk d g cs q) :
    FC Tryz.prog 18 [] [.box (eVw d), .str m, .str at', .fn g [] cs] (.own 9 1 ((m :: at' :: (shF d).map q).map eS)) := by
  obtain ⟨hcs, hq⟩ := hok
  have cl := clrL_of (cl_fn hcs)
  have hst := st_ofP hq
  refine fc_M (fn := Tryz.f18) (C := (tab [(g, c_ofP d cs q)] [] [])) (rs := [8]) mixed (by kernel_rfl) (by kernel_rfl) rfl rfl (by kernel_rfl) (by intro ys h; cases h) ?_
  simp +contextual (maxSteps := 5000000) only [go_sem, ↓reduceIte]
  generalize hsh : shF d = sh at hs hst
  intro _
  refine M_loopI (fun i : Nat => ⟨[(3, .fn g [] cs), (9, .vec 14 (2 + i)), (18, .sl 2 (sh.map eP)), (19, .int .i64 sh.length), (20, .int .i64 i)], [(14, .vec 9 1 ((m :: at' :: (sh.take i).map q).map eS) 0)]⟩) (fun i => sh.length - i) (fun i => i ≤ sh.length) 0 ?_ ?_
  · simp +contextual (maxSteps := 5000000) only [go_sem, ↓reduceIte, cl.cv5, cl.rf5, cl.nw5, cl.fz5, cl.wkL, cl.inOL]
    exact ⟨rfl, rfl⟩
  intro i hi
  by_cases hlt : i < sh.length
  · have hat := eP_at sh i hlt
    have hsn : sh.take (i + 1) = sh.take i ++ [sh.getD i (0, 0)] := by
      rw [List.take_add_one, List.getElem?_eq_getElem hlt, List.getD_eq_getElem?_getD, List.getElem?_eq_getElem hlt]; rfl
    have hmem : ((sh.getD i (0, 0)).1, (sh.getD i (0, 0)).2) ∈ sh := getD_mem (d := ((0 : Int), (0 : Int))) hlt
    simp +contextual (maxSteps := 5000000) only [go_sem, ↓reduceIte, hlt, hat, c_ofP, hst, hsh, hmem, cl.cv6, cl.rf6, cl.nw6, cl.fz6, cl.cv5, cl.rf5, cl.nw5, cl.fz5, cl.wkL, cl.inOL]
    exact ⟨⟨by omega, by omega⟩, fun _ => ⟨inR64 (by omega) (by omega), fun _ => ⟨i + 1, ⟨⟨by rw [Nat.add_assoc], by simp⟩, by rw [hsn, List.map_append, List.map_append]; rfl⟩, by omega, by omega⟩⟩⟩
  · obtain rfl : i = sh.length := by omega
    rw [List.take_length]
    simp +contextual (maxSteps := 5000000) only [go_sem, ↓reduceIte, hlt]
    omega
theorem fc_hd1 (d : Dl) (a b : Int) : FC Tryz.prog 56 [.box [.box (eVw d)]] [.agg [.int .i64 a, .int .i64 b]] (.ret (.str (mkF (stP d.cols) (a, b)))) := by
  refine fc_M (fn := Tryz.f56) (C := (tab [] [] [])) (rs := [3]) mixed (by kernel_rfl) (by kernel_rfl) rfl rfl (by kernel_rfl) (by intro ys h; cases h) ?_
  have hlk := stQ_lk d.cols (a, b)
  unfold mkF
  by_cases c1 : b < 0
  · rw [if_pos c1]
    simp +contextual (maxSteps := 5000000) only [go_sem, ↓reduceIte, c1]
    done
  rw [if_neg c1]
  by_cases c2 : a < 0
  · rw [if_pos c2]
    simp +contextual (maxSteps := 5000000) only [go_sem, ↓reduceIte, c1, c2]
    done
  rw [if_neg c2]
  by_cases c3 : (a, b) ∈ stP d.cols
  · rw [if_pos c3] at hlk ⊢
    simp +contextual (maxSteps := 5000000) only [go_sem, ↓reduceIte, c1, c2, hlk, Int.reduceEq, Int.reduceNe, Int.reduceLT, Int.reduceLE, Int.reduceToNat, Int.cast_ofNat_Int]
    done
  · rw [if_neg c3] at hlk ⊢
    simp +contextual (maxSteps := 5000000) only [go_sem, ↓reduceIte, c1, c2, hlk, Int.reduceEq, Int.reduceNe, Int.reduceLT, Int.reduceLE, Int.reduceToNat, Int.cast_ofNat_Int]
    done
theorem fc_Join (a b w : Str) (ha : a.length < 900000) (hb : b.length < 900000) (hw : w.length ≤ 900001) : FC Tryz.prog 59 [] [.str a, .str b, .str w] (.ret (.str (a ++ w ++ b))) := by
  refine fc_M (fn := Tryz.f59) (C := (tab [] [] [])) (rs := [6]) mixed (by kernel_rfl) (by kernel_rfl) rfl rfl (by kernel_rfl) (by intro ys h; cases h) ?_
  simp +contextual (maxSteps := 5000000) only [go_sem, ↓reduceIte]
  exact ⟨by omega, fun _ => by omega⟩
def c_Jn (caps args : List D) : Prop × Out := match caps, args with
  | [], [.str a, .str b, .str w] => (a.length < 900000 ∧ b.length < 900000 ∧ w.length ≤ 900001, .ret (.str (a ++ w ++ b)))
  | _, _ => (False, .ret .any)
theorem st_Jn : StC Tryz.prog 59 c_Jn := by
  intro caps args; unfold c_Jn; split
  · rintro ⟨h1, h2, h3⟩; exact fc_Join _ _ _ h1 h2 h3
  · exact fun h => h.elim
theorem fc_hd2 (d : Dl) (w : Str) (hw : w.length ≤ 900001) (hc : ∀ s ∈ d.A ++ d.B, s.length < 900000) (a b : Int) (h : inSh d (a, b)) : FC Tryz.prog 58 [.box [.box (eVw d)], .box [.str w]] [.agg [.int .i64 a, .int .i64 b]] (.ret (.str (nmF d.A d.B w (a, b)))) := by
  obtain ⟨⟨hq1, hq2⟩, ⟨hq3, hq4⟩, hq5⟩ := h
  simp only at hq1 hq2 hq3 hq4 hq5
  refine fc_M (fn := Tryz.f58) (C := (tab [(59, c_Jn)] [] [])) (rs := [4]) mixed (by kernel_rfl) (by kernel_rfl) rfl rfl (by kernel_rfl) (by intro ys h; cases h) ?_
  unfold nmF
  by_cases c1 : b < 0
  · rw [if_pos c1]
    obtain ⟨k, rfl⟩ : ∃ k : Nat, a = k := ⟨a.toNat, by omega⟩
    have hkA : k < d.A.length := by omega
    have hatA := eS_at d.A k hkA
    simp only [Int.toNat_natCast]
    simp +contextual (maxSteps := 5000000) only [go_sem, ↓reduceIte, c1, hkA, hatA]
    done
  rw [if_neg c1]
  obtain ⟨m, rfl⟩ : ∃ m : Nat, b = m := ⟨b.toNat, by omega⟩
  have hmB : m < d.B.length := by omega
  have hatB := eS_at d.B m hmB
  have hlB := hc _ (List.mem_append_right d.A (getD_mem (d := []) hmB))
  simp only [Int.toNat_natCast]
  by_cases c2 : a < 0
  · rw [if_pos (.inl c2)]
    simp +contextual (maxSteps := 5000000) only [go_sem, ↓reduceIte, c1, c2, hmB, hatB]
    done
  obtain ⟨k, rfl⟩ : ∃ k : Nat, a = k := ⟨a.toNat, by omega⟩
  have hkA : k < d.A.length := by omega
  have hatA := eS_at d.A k hkA
  have hlA := hc _ (List.mem_append_left d.B (getD_mem (d := []) hkA))
  simp only [Int.toNat_natCast]
  generalize d.A.getD k [] = x at hatA hlA ⊢
  generalize d.B.getD m [] = y at hatB hlB ⊢
  by_cases c4 : x = y
  · rw [if_pos (.inr c4)]
    subst c4
    simp +contextual (maxSteps := 5000000) only [go_sem, ↓reduceIte, c1, c2, hkA, hmB, hatA, hatB]
    done
  · rw [if_neg (fun h => h.elim c2 c4)]
    simp +contextual (maxSteps := 5000000) only [go_sem, ↓reduceIte, c1, c2, hkA, hmB, hatA, hatB, c4, c_Jn, st_Jn, hlA, hlB, hw]
    done
end Go.Proofs.YtlabdffgcciepaaGreatDoor
namespace Go.Proofs.YtlabdffgcciepaaGreatDoor
open Go.Tn
set_option maxHeartbeats 16000000
set_option maxRecDepth 100000
theorem fc_go1 (d : Dl) (i : Int) (cells : List Str) (hg : glk none (lnM d.dels) i = some cells) (a b : Int) (h : 0 ≤ a → a < cells.length) : FC Tryz.prog 160 [.box [.box (eVw d)], .box [.int .i64 i]] [.agg [.int .i64 a, .int .i64 b]] (.ret (.str (goC cells (a, b)))) := by
  refine fc_M (fn := Tryz.f160) (C := (tab [] [] [])) (rs := [4]) mixed (by kernel_rfl) (by kernel_rfl) rfl rfl (by kernel_rfl) (by intro ys h; cases h) ?_
  unfold goC
  by_cases c : a < 0
  · rw [if_neg (by simp only; omega)]
    simp +contextual (maxSteps := 5000000) only [go_sem, ↓reduceIte, c]
    done
  · rw [if_pos (by simp only; omega)]
    have hlt := h (by omega)
    obtain ⟨k, rfl⟩ : ∃ k : Nat, a = k := ⟨a.toNat, by omega⟩
    have hk : k < cells.length := by omega
    have hat := eS_at cells k hk
    simp only [Int.toNat_natCast]
    simp +contextual (maxSteps := 5000000) only [go_sem, ↓reduceIte, c, hg, vO, hk, hat]
    done
theorem fc_fr1 (d : Dl) (i : Int) (cells : List Str) (hg : glk none (lnM d.inss) i = some cells) (a b : Int) (h : 0 ≤ b → b < cells.length) : FC Tryz.prog 162 [.box [.box (eVw d)], .box [.int .i64 i]] [.agg [.int .i64 a, .int .i64 b]] (.ret (.str (frC cells (a, b)))) := by
  refine fc_M (fn := Tryz.f162) (C := (tab [] [] [])) (rs := [4]) mixed (by kernel_rfl) (by kernel_rfl) rfl rfl (by kernel_rfl) (by intro ys h; cases h) ?_
  unfold frC
  by_cases c : b < 0
  · rw [if_neg (by simp only; omega)]
    simp +contextual (maxSteps := 5000000) only [go_sem, ↓reduceIte, c]
    done
  · rw [if_pos (by simp only; omega)]
    have hlt := h (by omega)
    obtain ⟨k, rfl⟩ : ∃ k : Nat, b = k := ⟨b.toNat, by omega⟩
    have hk : k < cells.length := by omega
    have hat := eS_at cells k hk
    simp only [Int.toNat_natCast]
    simp +contextual (maxSteps := 5000000) only [go_sem, ↓reduceIte, c, hg, vO, hk, hat]
    done
def fsC (l : List St6) (w : Str) (q : Int × Int) : Str := match l.find? fun s => decide (s.p = q.1 ∧ s.q = q.2) with | some s => s.o ++ w ++ s.n | none => []
theorem fsC_at {l : List St6} {w : Str} {q : Int × Int} {i : Nat} (hi : i < l.length) (h : ∀ j, j < i → ¬ ((l.getD j default).p = q.1 ∧ (l.getD j default).q = q.2)) (he : (l.getD i default).p = q.1 ∧ (l.getD i default).q = q.2) : fsC l w q = (l.getD i default).o ++ w ++ (l.getD i default).n := by
  have : l.find? (fun s => decide (s.p = q.1 ∧ s.q = q.2)) = some (l.getD i default) := by
    rw [List.find?_eq_some_iff_getElem]
    refine ⟨decide_eq_true he, i, hi, ?_, fun j hj => ?_⟩
    · rw [List.getD_eq_getElem?_getD, List.getElem?_eq_getElem hi]; rfl
    · have := h j hj
      rw [List.getD_eq_getElem?_getD, List.getElem?_eq_getElem (by omega)] at this
      rw [Option.getD_some] at this
      rw [decide_eq_false this]; rfl
  unfold fsC; rw [this]
theorem fsC_no {l : List St6} {w : Str} {q : Int × Int} (h : ∀ j, j < l.length → ¬ ((l.getD j default).p = q.1 ∧ (l.getD j default).q = q.2)) : fsC l w q = [] := by
  have : l.find? (fun s => decide (s.p = q.1 ∧ s.q = q.2)) = none := by
    rw [List.find?_eq_none]
    intro x hx
    obtain ⟨j, hj, rfl⟩ := List.getElem_of_mem hx
    have := h j hj
    rw [List.getD_eq_getElem?_getD, List.getElem?_eq_getElem hj] at this
    exact fun h => this (of_decide_eq_true h)
  unfold fsC; rw [this]
def pcF (d : Dl) (w : Str) (p q : Int × Int) : Str := if q.1 < 0 then glk [] (spM d.gain) (p.2, q.2) else if q.2 < 0 then glk [] (spM d.lost) (p.1, q.1) else fsC (stF6 d.sets p) w q
theorem lookSt {ty kty ety : Ty} {m : Sm6} {a b : Int} {ok : Bool} {H : Hp} {U : Us} (h : kty.kind = .struct) (he : kty.eagg = true) (hk : kty.zero = [.int .i64 0, .int .i64 0]) (hz : zeroD ety = .nil) :
    lookM ty kty ety (m.map fun x => keP x.1) (m.map fun x => .sl 6 (x.2.map eD6)) (.agg [.int .i64 a, .int .i64 b]) ok H U = .ok True (ty.kind = .map) (tupOk ok (vO 6 eD6 (glk none (m.map fun x => (x.1, some x.2)) (a, b))) ((m.map fun x => (x.1, some x.2)).any fun x => decide (x.1 = (a, b)))) H U := by
  have := glook (ke := keP) (ve := vO 6 eD6) (v0 := none) (eqK_pair h he hk) (ty := ty) (ety := ety) (m := m.map fun x => (x.1, some x.2)) (ok := ok) (H := H) (U := U) (k := (a, b)) hz
  rw [List.map_map, List.map_map] at this
  exact this
theorem glk_some (m : Sm6) (k : Int × Int) : (glk none (m.map fun x => (x.1, some x.2)) k = none ∧ glk [] m k = []) ∨ glk none (m.map fun x => (x.1, some x.2)) k = some (glk [] m k) := by
  induction m with
  | nil => exact .inl ⟨rfl, rfl⟩
  | cons x r ih =>
    simp only [List.map_cons, glk]
    by_cases e : x.1 = k
    · rw [if_pos e, if_pos e]; exact .inr rfl
    · rw [if_neg e, if_neg e]; exact ih
theorem fc_pc1 (d : Dl) (hS : d.sets.length < 1000000) (hc : ∀ s ∈ d.sets, s.o.length < 900000 ∧ s.n.length < 900000) (w : Str) (hw : w.length ≤ 900001) (pa pb a b : Int) : FC Tryz.prog 158 [.box [.box (eVw d)], .box [.int .i64 pa, .int .i64 pb], .box [.str w]] [.agg [.int .i64 a, .int .i64 b]] (.ret (.str (pcF d w (pa, pb) (a, b)))) := by
  have hL : ∀ s ∈ stF6 d.sets (pa, pb), s.o.length < 900000 ∧ s.n.length < 900000 := fun s hs => hc s (List.mem_filter.1 hs).1
  have hLl : (stF6 d.sets (pa, pb)).length ≤ d.sets.length := List.length_filter_le _ _
  have hlk := glk_some (sM6 d.sets) (pa, pb)
  rw [sM6_lk] at hlk
  refine fc_M (fn := Tryz.f158) (C := (tab [(59, c_Jn)] [] [])) (rs := [5]) mixed (by kernel_rfl) (by kernel_rfl) rfl rfl (by kernel_rfl) (by intro ys h; cases h) ?_
  unfold pcF
  by_cases c1 : a < 0
  · rw [if_pos c1]
    simp +contextual (maxSteps := 5000000) only [go_sem, ↓reduceIte, c1]
    done
  rw [if_neg c1]
  by_cases c2 : b < 0
  · rw [if_pos c2]
    simp +contextual (maxSteps := 5000000) only [go_sem, ↓reduceIte, c1, c2]
    done
  rw [if_neg c2]
  generalize stF6 d.sets (pa, pb) = L at hL hLl hlk ⊢
  rcases hlk with ⟨h1, rfl⟩ | h1
  · simp +contextual (maxSteps := 5000000) only [go_sem, ↓reduceIte, c1, c2, lookSt, h1, vO]
    rw [fsC_no (by simp)]
    refine M_loopI (fun _ : Unit => ⟨[(45, .int .i64 0), (46, .int .i64 0)], []⟩) (fun _ => 0) (fun _ => True) () ?_ ?_
    · simp +contextual (maxSteps := 5000000) only [go_sem, ↓reduceIte]
      done
    · intro _ _
      simp +contextual (maxSteps := 5000000) only [go_sem, ↓reduceIte]
      omega
  simp +contextual (maxSteps := 5000000) only [go_sem, ↓reduceIte, c1, c2, lookSt, h1, vO]
  refine M_loopI (fun i : Nat => ⟨[(3, .box [.str w]), (4, .loc 4 0), (44, .sl 6 (L.map eD6)), (45, .int .i64 L.length), (46, .int .i64 i)], [(4, .blk [.int .i64 a, .int .i64 b] false)]⟩) (fun i => L.length - i) (fun i => i ≤ L.length ∧ ∀ j, j < i → ¬ ((L.getD j default).p = a ∧ (L.getD j default).q = b)) 0 ?_ ?_
  · simp +contextual (maxSteps := 5000000) only [go_sem, ↓reduceIte]
    rfl
  rintro i ⟨hi, hn⟩
  by_cases hlt : i < L.length
  · have hat := eD6_at L i hlt
    have hsl := hL _ (getD_mem (d := default) hlt)
    have step : ¬ ((L.getD i default).p = a ∧ (L.getD i default).q = b) → ∀ j, j < i + 1 → ¬ ((L.getD j default).p = a ∧ (L.getD j default).q = b) := fun hno j hj => by
      rcases Nat.lt_or_ge j i with h | h
      · exact hn j h
      · obtain rfl : j = i := by omega
        exact hno
    have hfs := fsC_at (w := w) (q := (a, b)) hlt hn
    generalize L.getD i default = s at hat hsl step hfs
    by_cases c3 : s.p = a
    · by_cases c4 : s.q = b
      · rw [hfs ⟨c3, c4⟩]
        simp +contextual (maxSteps := 5000000) only [go_sem, ↓reduceIte, hlt, hat, c3, c4, c_Jn, st_Jn, hsl.1, hsl.2, hw]
        done
      · have hst := step (fun h => c4 h.2)
        simp +contextual (maxSteps := 5000000) only [go_sem, ↓reduceIte, hlt, hat, c3, c4]
        exact ⟨inR64 (by omega) (by omega), fun _ => ⟨i + 1, by simp, by omega, by omega, hst⟩⟩
    · have hst := step (fun h => c3 h.1)
      simp +contextual (maxSteps := 5000000) only [go_sem, ↓reduceIte, hlt, hat, c3]
      exact ⟨inR64 (by omega) (by omega), fun _ => ⟨i + 1, by simp, by omega, by omega, hst⟩⟩
  · rw [fsC_no (fun j hj => hn j (by omega))]
    simp +contextual (maxSteps := 5000000) only [go_sem, ↓reduceIte, hlt]
    done
end Go.Proofs.YtlabdffgcciepaaGreatDoor
namespace Go.Proofs.YtlabdffgcciepaaGreatDoor
open Go.Tn
set_option maxHeartbeats 16000000
set_option maxRecDepth 100000
def treeH1 : Tr := (.por 0 (.por 1 (.por 2 (.por 3 (.por 4 (.por 5 (.por 6 (.por 7 (.por 8 (.por 9 (.node (.cons 10 (.por 11 (.por 12 (.por 13 (.por 14 .leaf)))) (.cons 13 (.por 10 (.por 11 (.por 12 (.por 14 .leaf)))) .nil)))))))))))))
def treeH2 : Tr := (.por 0 (.por 1 (.por 2 (.por 3 (.por 4 (.por 5 (.por 6 (.por 7 (.por 8 (.por 9 (.por 10 (.por 11 (.por 12 (.por 13 (.por 14 (.por 15 (.por 16 (.por 17 (.por 18 (.por 19 (.por 20 (.por 21 (.por 22 .leaf)))))))))))))))))))))))
def tree157b : Tr := (.por 0 (.por 1 (.por 2 (.por 3 (.por 4 (.por 5 (.por 6 (.por 7 .leaf))))))))
def qA (d : Dl) (g : Nat) (cs : List D) : Int × Int → Str :=
  if g = 56 then mkF (stP d.cols)
  else if g = 57 then plF
  else if g = 58 then (match cs with | [_, .box [.str w]] => nmF d.A d.B w | _ => plF)
  else if g = 160 then (match cs with | [_, .box [.int .i64 i]] => goC ((glk none (lnM d.dels) i).getD []) | _ => plF)
  else if g = 162 then (match cs with | [_, .box [.int .i64 i]] => frC ((glk none (lnM d.inss) i).getD []) | _ => plF)
  else if g = 158 then (match cs with | [_, .box [.int .i64 a, .int .i64 b], .box [.str w]] => pcF d w (a, b) | _ => plF)
  else fun _ => []
theorem qA1 (d : Dl) (cs : List D) : qA d 56 cs = mkF (stP d.cols) := rfl
theorem qA2 (d : Dl) (cs : List D) : qA d 57 cs = plF := rfl
theorem qA3 (d : Dl) (x : D) (w : Str) : qA d 58 [x, .box [.str w]] = nmF d.A d.B w := rfl
theorem qA4 (d : Dl) (x : D) (i : Int) : qA d 160 [x, .box [.int .i64 i]] = goC ((glk none (lnM d.dels) i).getD []) := rfl
theorem qA5 (d : Dl) (x : D) (i : Int) : qA d 162 [x, .box [.int .i64 i]] = frC ((glk none (lnM d.inss) i).getD []) := rfl
theorem qA6 (d : Dl) (x : D) (a b : Int) (w : Str) : qA d 158 [x, .box [.int .i64 a, .int .i64 b], .box [.str w]] = pcF d w (a, b) := rfl
theorem qA7 (d : Dl) (cs : List D) : qA d 19 cs = fun _ => [] := rfl
def c_rec (d : Dl) (caps args : List D) : Prop × Out := match caps, args with
  | [], [.box r, .str m, .str a, .fn g [] cs] => (r = eVw d ∧ OfOk d g cs (qA d g cs), .own 9 1 ((m :: a :: (shF d).map (qA d g cs)).map eS))
  | _, _ => (False, .ret .any)
theorem st_rec {d : Dl} (hs : (shF d).length < 1000000000) : StC Tryz.prog 18 (c_rec d) := by
  intro caps args; unfold c_rec; split
  · rintro ⟨rfl, h⟩; exact fc_record d hs _ _ _ _ _ h
  · exact fun h => h.elim
theorem ok1 (d : Dl) : OfOk d 56 [.box [.box (eVw d)]] (mkF (stP d.cols)) := ⟨rfl, fun p _ => fc_hd1 d p.1 p.2⟩
theorem sh_in {d : Dl} (g : OkD d) {p : Int × Int} (h : p ∈ shF d) : InR .i64 p.1 ∧ InR .i64 p.2 := by
  have h1 := shown_in g p h
  have h2 := g.big
  exact ⟨inR64 (by omega) (by omega), inR64 (by omega) (by omega)⟩
theorem ok2 {d : Dl} (g : OkD d) : OfOk d 57 [] plF := ⟨rfl, fun p hp => fc_place p.1 p.2 (sh_in g hp).1 (sh_in g hp).2⟩
theorem ok3 {d : Dl} (g : OkD d) (w : Str) (hw : w.length ≤ 900001) : OfOk d 58 [.box [.box (eVw d)], .box [.str w]] (nmF d.A d.B w) := ⟨rfl, fun p hp => fc_hd2 d w hw g.texts.1 p.1 p.2 (shown_in g p hp)⟩
theorem ok4 {d : Dl} (g : OkD d) (i : Int) (cells : List Str) (hg : glk none (lnM d.dels) i = some cells) (hl : (cells.length : Int) = d.A.length) : OfOk d 160 [.box [.box (eVw d)], .box [.int .i64 i]] (goC ((glk none (lnM d.dels) i).getD [])) := by
  rw [hg]
  exact ⟨rfl, fun p hp => fc_go1 d i cells hg p.1 p.2 (fun _ => by have := (shown_in g p hp).1; omega)⟩
theorem ok5 {d : Dl} (g : OkD d) (i : Int) (cells : List Str) (hg : glk none (lnM d.inss) i = some cells) (hl : (cells.length : Int) = d.B.length) : OfOk d 162 [.box [.box (eVw d)], .box [.int .i64 i]] (frC ((glk none (lnM d.inss) i).getD [])) := by
  rw [hg]
  exact ⟨rfl, fun p hp => fc_fr1 d i cells hg p.1 p.2 (fun _ => by have := (shown_in g p hp).2.1; omega)⟩
theorem ok6 {d : Dl} (ho : okDl d) (g : OkD d) (w : Str) (hw : w.length ≤ 900001) (a b : Int) : OfOk d 158 [.box [.box (eVw d)], .box [.int .i64 a, .int .i64 b], .box [.str w]] (pcF d w (a, b)) := ⟨rfl, fun p _ => fc_pc1 d ho.sets g.texts.2 w hw a b p.1 p.2⟩
theorem fc_Put1 (a b : Int) : FC Tryz.prog 19 [] [.agg [.int .i64 a, .int .i64 b]] (.ret (.str [])) := by
  refine fc_M (fn := Tryz.f19) (C := (tab [] [] [])) (rs := [2]) mixed (by kernel_rfl) (by kernel_rfl) rfl rfl (by kernel_rfl) (by intro ys h; cases h) ?_
  simp +contextual (maxSteps := 5000000) only [go_sem, ↓reduceIte]
theorem ok7 (d : Dl) : OfOk d 19 [] (fun _ => []) := ⟨rfl, fun p _ => fc_Put1 p.1 p.2⟩
theorem w_Concat : StC Tryz.prog 55 (c_Cat 9 1) := stC_wide fenN fenW untameW (by intro a b; unfold c_Cat; split <;> rfl) st_ConcatS
theorem gS2 (a b : Str) (l : List Str) : gndL (eS a ++ (eS b ++ (List.map eS l).flatten)) = true := gS (a :: b :: l)
theorem fc_hheads (d : Dl) (ho : okDl d) (g : OkD d) : FC Tryz.prog 15 [] [.box (eVw d)] (.own 22 1 ((hdsF d (shF d)).map eR)) := by
  have hA := ho.A
  have hB := ho.B
  have hsl := shF_len d
  have hb := g.big
  have h1 := g.rows.a0
  have h2 := g.rows.b0
  have hsr := st_rec (d := d) (by omega)
  have hcat : List.map eS d.A ++ List.map eS d.B = List.map eS (d.A ++ d.B) := (List.map_append).symm
  have hcl : (d.A ++ d.B).length < 1000000000 := by rw [List.length_append]; omega
  have hcd : ((d.A ++ d.B).map eS).map dS = d.A ++ d.B := dS_eS _
  have htx := g.texts.1
  have hwl := awF_len htx
  have hgs := gS (d.A ++ d.B)
  have o1 := ok1 d
  have o2 := ok2 g
  have o3 := ok3 g _ hwl
  have hna : InR .i64 d.na := inR64 (by omega) (by omega)
  have hnb : InR .i64 d.nb := inR64 (by omega) (by omega)
  refine fc_M (fn := Tryz.f15) (C := (tab [(55, c_Cat 9 1), (54, c_Arrow), (18, c_rec d), (57, c_place)] [] [7001, 7002, 5001])) (rs := [2]) mixed (by kernel_rfl) (by kernel_rfl) rfl rfl (by kernel_rfl) (by intro ys h; cases h) ?_
  unfold hdsF
  simp +contextual (maxSteps := 5000000) only [go_sem, ↓reduceIte]
  refine M_join (fun _ : Unit => ⟨[(1, .loc 1 0), (3, .loc 3 0)], [(1, .blk [.box (eVw d)] false), (3, .blk [.str (awF (d.A ++ d.B))] false)]⟩) (fun _ => True) ?_ ?_
  · simp +contextual (maxSteps := 5000000) only [go_sem, ↓reduceIte]
    refine M_tree treeH1 (by show chkTr _ _ _ _ = true; kernel_rfl) ?_
    unfold treeH1
    simp +contextual (maxSteps := 5000000) only [go_sem, ↓reduceIte, c_Cat, w_Concat, c_Arrow, st_Arrow, hcat, hcl, hcd, hgs, wkL_self (eVw d)]
    exact ⟨by rw [← List.length_append]; exact hcl, ⟨by rw [← List.length_append]; exact hcl, htx⟩, (), trivial⟩
  intro _ _
  generalize awF (d.A ++ d.B) = w at hwl o3 ⊢
  simp +contextual (maxSteps := 5000000) only [go_sem, ↓reduceIte]
  refine M_tree treeH2 (by show chkTr _ _ _ _ = true; kernel_rfl) ?_
  unfold treeH2
  simp +contextual (maxSteps := 5000000) only [go_sem, ↓reduceIte, c_rec, hsr, qA1, qA2, qA3, o1, o2, o3, c_place, st_place, hna, hnb, gS]
  exact ⟨gS2 _ _ _, gS2 _ _ _, rfl⟩
def tree159 : Tr := (.por 0 (.por 1 (.por 2 (.por 3 (.por 4 (.por 5 (.por 6 (.por 7 .leaf))))))))
def tree161 : Tr := (.por 0 (.por 1 (.por 2 (.por 3 (.por 4 (.por 5 (.por 6 (.por 7 .leaf))))))))
theorem fc_goCells (d : Dl) (g : OkD d) (i : Int) (hi : InR .i64 i) (cells : List Str) (hg : glk none (lnM d.dels) i = some cells) (hl : (cells.length : Int) = d.A.length) :
    FC Tryz.prog 159 [] [.agg [.int .i64 i], .box (eVw d)] (.ret (.sl 1 (([45, 45, 45] :: plF (i, -1) :: (shF d).map (goC cells)).map eS))) := by
  have hsl := shF_len d
  have hb := g.big
  have hsr := st_rec (d := d) (by omega)
  have o4 := ok4 g i cells hg hl
  have hm1 : InR .i64 (-1) := inR64 (by omega) (by omega)
  have hgd : (glk none (lnM d.dels) i).getD [] = cells := by rw [hg]; rfl
  rw [hgd] at o4
  refine fc_M (fn := Tryz.f159) (C := (tab [(18, c_rec d), (57, c_place)] [] [7001])) (rs := [4]) mixed (by kernel_rfl) (by kernel_rfl) rfl rfl (by kernel_rfl) (by intro ys h; cases h) ?_
  simp +contextual (maxSteps := 5000000) only [go_sem, ↓reduceIte]
  refine M_tree tree159 (by show chkTr _ _ _ _ = true; kernel_rfl) ?_
  unfold tree159
  simp +contextual (maxSteps := 5000000) only [go_sem, ↓reduceIte, c_rec, hsr, qA4, hgd, o4, c_place, st_place, hi, hm1, gS, gS2]
theorem fc_frCells (d : Dl) (g : OkD d) (i : Int) (hi : InR .i64 i) (cells : List Str) (hg : glk none (lnM d.inss) i = some cells) (hl : (cells.length : Int) = d.B.length) :
    FC Tryz.prog 161 [] [.agg [.int .i64 i], .box (eVw d)] (.ret (.sl 1 (([43, 43, 43] :: plF (-1, i) :: (shF d).map (frC cells)).map eS))) := by
  have hsl := shF_len d
  have hb := g.big
  have hsr := st_rec (d := d) (by omega)
  have o5 := ok5 g i cells hg hl
  have hm1 : InR .i64 (-1) := inR64 (by omega) (by omega)
  have hgd : (glk none (lnM d.inss) i).getD [] = cells := by rw [hg]; rfl
  rw [hgd] at o5
  refine fc_M (fn := Tryz.f161) (C := (tab [(18, c_rec d), (57, c_place)] [] [7001])) (rs := [4]) mixed (by kernel_rfl) (by kernel_rfl) rfl rfl (by kernel_rfl) (by intro ys h; cases h) ?_
  simp +contextual (maxSteps := 5000000) only [go_sem, ↓reduceIte]
  refine M_tree tree161 (by show chkTr _ _ _ _ = true; kernel_rfl) ?_
  unfold tree161
  simp +contextual (maxSteps := 5000000) only [go_sem, ↓reduceIte, c_rec, hsr, qA5, hgd, o5, c_place, st_place, hi, hm1, gS, gS2]
def pmF (d : Dl) (p : Int × Int) (w : Str) : Str := (if p ∈ stP d.rows then ([] : Str) else [58]) ++ (if 0 < (stF6 d.sets p).length then w else [])
def prF (d : Dl) (p : Int × Int) : List Str :=
  if pmF d p (awF (txS (stF6 d.sets p))) = [] then (if d.cols.length = d.A.length ∧ d.cols.length = d.B.length then [] else [43] :: plF p :: (shF d).map (pcF d (awF (txS (stF6 d.sets p))) p))
  else pmF d p (awF (txS (stF6 d.sets p))) :: plF p :: (shF d).map (pcF d (awF (txS (stF6 d.sets p))) p)
theorem fc_prCells (d : Dl) (ho : okDl d) (g : OkD d) (a b : Int) (ha : InR .i64 a) (hb' : InR .i64 b) :
    FC Tryz.prog 157 [] [.agg [.int .i64 a, .int .i64 b], .box (eVw d)] (.ret (.sl 1 ((prF d (a, b)).map eS))) := by
  have hsl := shF_len d
  have hb := g.big
  have hsr := st_rec (d := d) (by omega)
  have hS := ho.sets
  have hL : ∀ s ∈ stF6 d.sets (a, b), s.o.length < 900000 ∧ s.n.length < 900000 := fun s hs => g.texts.2 s (List.mem_filter.1 hs).1
  have hLl : (stF6 d.sets (a, b)).length ≤ d.sets.length := List.length_filter_le _ _
  have hlk := glk_some (sM6 d.sets) (a, b)
  have hsq := stQ_lk d.rows (a, b)
  rw [sM6_lk] at hlk
  have o6 := fun w hw => ok6 ho g w hw a b
  refine fc_M (fn := Tryz.f157) (C := (tab [(18, c_rec d), (57, c_place), (54, c_Arrow)] [] [7016, 2, 5007, 8, 10, 12])) (rs := [4]) mixed (by kernel_rfl) (by kernel_rfl) rfl rfl (by kernel_rfl) (by intro ys h; cases h) ?_
  have e0 : prF d (a, b) = if pmF d (a, b) (awF (txS (stF6 d.sets (a, b)))) = [] then (if d.cols.length = d.A.length ∧ d.cols.length = d.B.length then [] else [43] :: plF (a, b) :: (shF d).map (pcF d (awF (txS (stF6 d.sets (a, b)))) (a, b))) else pmF d (a, b) (awF (txS (stF6 d.sets (a, b)))) :: plF (a, b) :: (shF d).map (pcF d (awF (txS (stF6 d.sets (a, b)))) (a, b)) := rfl
  have e1 : ∀ w, pmF d (a, b) w = (if (a, b) ∈ stP d.rows then ([] : Str) else [58]) ++ (if 0 < (stF6 d.sets (a, b)).length then w else []) := fun w => rfl
  rw [e0]
  generalize stF6 d.sets (a, b) = L at hL hLl hlk e1 ⊢
  simp +contextual (maxSteps := 5000000) only [go_sem, ↓reduceIte]
  have htl := txS_len L
  have hta : ∀ s ∈ txS L, s.length < 900000 := fun s hs => by
    obtain ⟨x, hx, h⟩ := List.mem_flatMap.1 hs
    have := hL x hx
    simp only [List.mem_cons, List.not_mem_nil, or_false] at h
    rcases h with rfl | rfl
    · exact this.1
    · exact this.2
  have htl2 : (txS L).length < 1000000000 := by omega
  have hd4 : ((txS L).map eS).map dS = txS L := dS_eS _
  have hwl := awF_len hta
  have hwp := awF_pos (txS L)
  have o6' := o6 _ hwl
  refine M_join (fun _ : Unit => ⟨[(2, .loc 2 0), (3, .loc 3 0), (5, .vec 28 (2 * L.length))], [(2, .blk [.int .i64 a, .int .i64 b] false), (3, .blk [.box (eVw d)] false), (28, .vec 9 1 ((txS L).map eS) 0)]⟩) (fun _ => True) ?_ ?_
  · rcases hlk with ⟨h1, rfl⟩ | h1
    · simp +contextual (maxSteps := 5000000) only [go_sem, ↓reduceIte, lookSt, h1, vO]
      refine M_loopI (fun _ : Unit => ⟨[(2, .loc 2 0), (3, .loc 3 0), (5, .nil), (17, .int .i64 0), (18, .int .i64 0)], [(2, .blk [.int .i64 a, .int .i64 b] false), (3, .blk [.box (eVw d)] false)]⟩) (fun _ => 0) (fun _ => True) () ?_ ?_
      · simp +contextual (maxSteps := 5000000) only [go_sem, ↓reduceIte, wkL_self (eVw d)]
        done
      · intro _ _
        simp +contextual (maxSteps := 5000000) only [go_sem, ↓reduceIte, wkL_self (eVw d), txS, List.flatMap_nil]
        rw [if_neg (by omega)]; exact ⟨(), trivial⟩
    · simp +contextual (maxSteps := 5000000) only [go_sem, ↓reduceIte, lookSt, h1, vO]
      refine M_loopI (fun i : Nat => ⟨[(2, .loc 2 0), (3, .loc 3 0), (5, .vec 28 (2 * i)), (16, .sl 6 (L.map eD6)), (17, .int .i64 L.length), (18, .int .i64 i)], [(2, .blk [.int .i64 a, .int .i64 b] false), (3, .blk [.box (eVw d)] false), (28, .vec 9 1 ((txS (L.take i)).map eS) 0)]⟩) (fun i => L.length - i) (fun i => i ≤ L.length) 0 ?_ ?_
      · simp +contextual (maxSteps := 5000000) only [go_sem, ↓reduceIte, wkL_self (eVw d), txS, List.flatMap_nil]
        rfl
      intro i hi
      have htk := txS_len (L.take i)
      have htk2 : (L.take i).length = i := by rw [List.length_take]; omega
      by_cases hlt : i < L.length
      · have hat := eD6_at L i hlt
        have hft := flat_succ (d := default) (fun s : St6 => [s.o, s.n]) hlt
        simp +contextual (maxSteps := 5000000) only [go_sem, ↓reduceIte, hlt, hat, wkL_self (eVw d)]
        exact ⟨⟨by omega, by omega⟩, fun _ => ⟨inR64 (by omega) (by omega), fun _ => ⟨i + 1, ⟨⟨by rw [Nat.mul_add], by simp⟩, by unfold txS; rw [hft, List.map_append]; rfl⟩, by omega, by omega⟩⟩⟩
      · obtain rfl : i = L.length := by omega
        rw [List.take_length]
        simp +contextual (maxSteps := 5000000) only [go_sem, ↓reduceIte, hlt, wkL_self (eVw d)]
        exact ⟨(), trivial⟩
  intro _ _
  simp +contextual (maxSteps := 5000000) only [go_sem, ↓reduceIte]
  refine M_join (fun _ : Unit => ⟨[(2, .loc 2 0), (3, .loc 3 0), (5, .vec 28 (2 * L.length)), (8, .str []), (9, .loc 9 0)], [(2, .blk [.int .i64 a, .int .i64 b] false), (3, .blk [.box (eVw d)] false), (28, .vec 9 1 ((txS L).map eS) (txS L).length), (9, .blk [.str (awF (txS L))] false)]⟩) (fun _ => True) ?_ ?_
  · simp +contextual (maxSteps := 5000000) only [go_sem, ↓reduceIte, c_Arrow, st_Arrow, hd4, htl2, wkL_self (eVw d)]
    exact ⟨⟨htl, hta⟩, (), Nat.le_refl _⟩
  intro _ _
  generalize awF (txS L) = w at hwl hwp o6' ⊢
  simp +contextual (maxSteps := 5000000) only [go_sem, ↓reduceIte]
  refine M_join (fun _ : Unit => ⟨[(2, .loc 2 0), (3, .loc 3 0), (5, .vec 28 (2 * L.length)), (8, .str (if (a, b) ∈ stP d.rows then [] else [58])), (9, .loc 9 0)], [(2, .blk [.int .i64 a, .int .i64 b] false), (3, .blk [.box (eVw d)] false), (28, .vec 9 1 ((txS L).map eS) (txS L).length), (9, .blk [.str w] false)]⟩) (fun _ => True) ?_ ?_
  · by_cases c : (a, b) ∈ stP d.rows
    · rw [if_pos c] at hsq ⊢
      simp +contextual (maxSteps := 5000000) only [go_sem, ↓reduceIte, hsq, Int.reduceEq, Int.reduceNe, Int.reduceLT, Int.reduceLE, Int.reduceToNat, Int.cast_ofNat_Int, wkL_self (eVw d)]
      exact ⟨(), Nat.le_refl _⟩
    · rw [if_neg c] at hsq ⊢
      simp +contextual (maxSteps := 5000000) only [go_sem, ↓reduceIte, hsq, Int.reduceEq, Int.reduceNe, Int.reduceLT, Int.reduceLE, Int.reduceToNat, Int.cast_ofNat_Int, wkL_self (eVw d)]
      exact ⟨(), Nat.le_refl _⟩
  intro _ _
  have e2 := e1 w
  have hml : (if (a, b) ∈ stP d.rows then ([] : Str) else [58]).length ≤ 1 := by split <;> simp
  generalize (if (a, b) ∈ stP d.rows then ([] : Str) else [58]) = m1 at hml e2 ⊢
  simp +contextual (maxSteps := 5000000) only [go_sem, ↓reduceIte]
  refine M_join (fun _ : Unit => ⟨[(2, .loc 2 0), (3, .loc 3 0), (8, .str (m1 ++ if 0 < L.length then w else [])), (9, .loc 9 0)], [(2, .blk [.int .i64 a, .int .i64 b] false), (3, .blk [.box (eVw d)] false), (9, .blk [.str w] false)]⟩) (fun _ => True) ?_ ?_
  · by_cases c1 : 0 < L.length
    · have c1' : (0 : Int) < ((2 * L.length : Nat) : Int) := by omega
      rw [if_pos c1]
      simp +contextual (maxSteps := 5000000) only [go_sem, ↓reduceIte, c1, c1', wkL_self (eVw d)]
      exact ⟨htl, fun _ => ⟨by omega, fun _ => ⟨(), trivial⟩⟩⟩
    · have c1' : ¬ (0 : Int) < ((2 * L.length : Nat) : Int) := by omega
      rw [if_neg c1]
      simp +contextual (maxSteps := 5000000) only [go_sem, ↓reduceIte, c1, c1', wkL_self (eVw d)]
      exact ⟨htl, fun _ => ⟨(), trivial⟩⟩
  intro _ _
  have hml2 : (m1 ++ if 0 < L.length then w else []).length ≤ 900002 := by rw [List.length_append]; split <;> first | omega | (simp only [List.length_nil]; omega)
  rw [← e2] at hml2 ⊢
  generalize pmF d (a, b) w = m2 at hml2 ⊢
  clear e2 e1 e0
  simp +contextual (maxSteps := 5000000) only [go_sem, ↓reduceIte]
  refine M_join (fun _ : Unit => ⟨[(2, .loc 2 0), (3, .loc 3 0), (8, .str (if m2 = [] then [43] else m2)), (9, .loc 9 0)], [(2, .blk [.int .i64 a, .int .i64 b] false), (3, .blk [.box (eVw d)] false), (9, .blk [.str w] false)]⟩) (fun _ => ¬ (m2 = [] ∧ d.cols.length = d.A.length ∧ d.cols.length = d.B.length)) ?_ ?_
  · by_cases c1 : m2 = []
    · rw [if_pos c1, if_pos c1]
      by_cases c2 : d.cols.length = d.A.length
      · by_cases c3 : d.cols.length = d.B.length
        · rw [if_pos ⟨c2, c3⟩]
          simp +contextual (maxSteps := 5000000) only [go_sem, ↓reduceIte, c1, c2, c3, wkL_self (eVw d), List.map_nil]
          exact fun _ => ⟨(), trivial⟩
        · rw [if_neg (fun h => c3 h.2)]
          simp +contextual (maxSteps := 5000000) only [go_sem, ↓reduceIte, c1, c2, c3, wkL_self (eVw d)]
          rw [if_neg (fun h => c3 (c2.trans h))]; exact ⟨(), trivial⟩
      · rw [if_neg (fun h => c2 h.1)]
        simp +contextual (maxSteps := 5000000) only [go_sem, ↓reduceIte, c1, c2, wkL_self (eVw d)]
        exact ⟨(), trivial⟩
    · rw [if_neg c1, if_neg c1]
      simp +contextual (maxSteps := 5000000) only [go_sem, ↓reduceIte, c1, wkL_self (eVw d)]
      exact ⟨(), trivial⟩
  intro _ hnq
  have hres : (if m2 = [] then (if d.cols.length = d.A.length ∧ d.cols.length = d.B.length then [] else [43] :: plF (a, b) :: List.map (pcF d w (a, b)) (shF d)) else m2 :: plF (a, b) :: List.map (pcF d w (a, b)) (shF d)) = (if m2 = [] then [43] else m2) :: plF (a, b) :: List.map (pcF d w (a, b)) (shF d) := by
    by_cases c : m2 = []
    · rw [if_pos c, if_pos c, if_neg (fun h => hnq ⟨c, h⟩)]
    · rw [if_neg c, if_neg c]
  rw [hres]
  generalize (if m2 = [] then [43] else m2) = mk
  simp +contextual (maxSteps := 5000000) only [go_sem, ↓reduceIte]
  refine M_tree tree157b (by show chkTr _ _ _ _ = true; kernel_rfl) ?_
  unfold tree157b
  simp +contextual (maxSteps := 5000000) only [go_sem, ↓reduceIte, c_rec, hsr, qA6, o6', c_place, st_place, ha, hb', gS, gS2]
  done
end Go.Proofs.YtlabdffgcciepaaGreatDoor
namespace Go.Proofs.YtlabdffgcciepaaGreatDoor
open Go.Tn
set_option maxHeartbeats 8000000
set_option maxRecDepth 100000
theorem mtF_mapH {α β : Type} {q : α → β → Bool} {f : α → β} (h : ∀ x y, q x y = true → f x = y) : ∀ {l : List α} {r : List β}, mtF q l r = true → l.map f = r
  | [], [], _ => rfl
  | x :: l, y :: r, g => by
    simp only [mtF, Bool.and_eq_true] at g
    rw [List.map_cons, h x y g.1, mtF_mapH h g.2]
theorem mem_crFH {a b : List Int} {x : Int × Int} : x ∈ crF a b ↔ x.1 ∈ a ∧ x.2 ∈ b := by
  unfold crF
  rw [List.mem_flatMap]
  constructor
  · rintro ⟨i, hi, h⟩
    obtain ⟨p, hp, rfl⟩ := List.mem_map.1 h
    exact ⟨hi, hp⟩
  · rintro ⟨h1, h2⟩
    exact ⟨x.1, h1, List.mem_map.2 ⟨x.2, h2, rfl⟩⟩
theorem crF_nodupH {b : List Int} (hb : b.Nodup) : ∀ {a : List Int}, a.Nodup → (crF a b).Nodup
  | [], _ => by simp [crF]
  | i :: a, ha => by
    rw [List.nodup_cons] at ha
    have e : crF (i :: a) b = (b.map fun p => (i, p)) ++ crF a b := rfl
    rw [e, List.nodup_append]
    refine ⟨?_, crF_nodupH hb ha.2, fun x hx y hy h => ?_⟩
    · refine (List.pairwise_map).2 (hb.imp fun h => fun e => h (by simpa using e))
    · obtain ⟨p, _, rfl⟩ := List.mem_map.1 hx
      subst h
      exact ha.1 (mem_crFH.1 hy).1
theorem OkD.gainNH {d : Dl} (g : OkD d) : (d.gain.map (fun x : Sp => (x.1, x.2.1))).Nodup := by
  rw [mtF_mapH (fun x y h => by simp only [isS, decide_eq_true_eq] at h; rw [h.1, h.2]) g.spots.2]
  exact crF_nodupH (rsL_nodup _ _) (rsL_nodup _ _)
theorem OkD.lostNH {d : Dl} (g : OkD d) : (d.lost.map (fun x : Sp => (x.1, x.2.1))).Nodup := by
  rw [mtF_mapH (fun x y h => by simp only [isS, decide_eq_true_eq] at h; rw [h.1, h.2]) g.spots.1]
  exact crF_nodupH (rsL_nodup _ _) (rsL_nodup _ _)
theorem OkD.delsNH {d : Dl} (g : OkD d) : (d.dels.map (·.1)).Nodup ∧ d.dels.map (·.1) = goneR d := by
  have e := mtF_mapH (f := fun x : Ln => x.1) (fun x y h => by simp only [isL, decide_eq_true_eq] at h; exact h.1) g.lines.1
  exact ⟨by rw [e]; exact rsL_nodup _ _, e⟩
theorem OkD.inssNH {d : Dl} (g : OkD d) : (d.inss.map (·.1)).Nodup ∧ d.inss.map (·.1) = newR' d := by
  have e := mtF_mapH (f := fun x : Ln => x.1) (fun x y h => by simp only [isL, decide_eq_true_eq] at h; exact h.1) g.lines.2
  exact ⟨by rw [e]; exact rsL_nodup _ _, e⟩
theorem glk_fold {K V α : Type} [DecidableEq K] (k : α → K) (v : α → V) (v0 : V) (a : K) : ∀ (l : List α) (m : List (K × V)), (l.map k).Nodup → glk v0 (l.foldl (fun m x => gup m (k x) (v x)) m) a = match l.find? (fun x => decide (k x = a)) with | some x => v x | none => glk v0 m a
  | [], m, _ => rfl
  | x :: r, m, h => by
    rw [List.map_cons, List.nodup_cons] at h
    rw [List.foldl_cons, glk_fold k v v0 a r _ h.2, List.find?_cons]
    by_cases e : k x = a
    · have hn : r.find? (fun x => decide (k x = a)) = none := by
        rw [List.find?_eq_none]
        intro y hy hk
        exact h.1 (List.mem_map.2 ⟨y, hy, by rw [of_decide_eq_true hk, e]⟩)
      rw [hn, decide_eq_true e]
      simp only
      rw [glk_gup, if_pos e.symm]
    · rw [decide_eq_false e]
      simp only
      cases r.find? (fun x => decide (k x = a)) with
      | none => simp only; rw [glk_gup, if_neg (fun h => e h.symm)]
      | some y => rfl
theorem lnM_lk {l : List Ln} (h : (l.map (·.1)).Nodup) {a : Int} (ha : a ∈ l.map (·.1)) : glk none (lnM l) a = some (lnR l a) := by
  unfold lnM lnR
  rw [glk_fold (fun x : Ln => x.1) (fun x => some x.2) none a l [] h]
  cases hf : l.find? fun x => decide (x.1 = a) with
  | none =>
    obtain ⟨x, hx, e⟩ := List.mem_map.1 ha
    exact absurd (decide_eq_true e) (by simpa using List.find?_eq_none.1 hf x hx)
  | some x => rfl
theorem spM_lk {l : List Sp} (h : (l.map (fun x : Sp => (x.1, x.2.1))).Nodup) (r c : Int) : glk [] (spM l) (r, c) = spR l r c := by
  unfold spM spR
  rw [glk_fold (fun x : Sp => (x.1, x.2.1)) (fun x => x.2.2) [] (r, c) l [] h]
  have e : (fun x : Sp => decide ((x.1, x.2.1) = (r, c))) = fun x => decide (x.1 = r ∧ x.2.1 = c) := by
    funext x; exact decide_eq_decide.2 (by rw [Prod.mk.injEq])
  rw [e]
  cases l.find? fun x => decide (x.1 = r ∧ x.2.1 = c) <;> rfl
theorem tlC_none {w : Str} {q : Int × Int} : ∀ {l : List St6} {c : Str}, (∀ s ∈ l, ¬ (s.p = q.1 ∧ s.q = q.2)) → tlC l w c q = c
  | [], _, _ => rfl
  | s :: r, c, h => by
    show tlC r w (if s.p = q.1 ∧ s.q = q.2 then _ else c) q = c
    rw [if_neg (h s (by simp)), tlC_none (fun t ht => h t (by simp [ht]))]
theorem tlC_fs {w : Str} {q : Int × Int} : ∀ {l : List St6}, l.Pairwise (fun s t => ¬ ((s.p = q.1 ∧ s.q = q.2) ∧ t.p = q.1 ∧ t.q = q.2)) → tlC l w [] q = fsC l w q
  | [], _ => rfl
  | s :: r, h => by
    rw [List.pairwise_cons] at h
    have e : tlC (s :: r) w [] q = tlC r w (if s.p = q.1 ∧ s.q = q.2 then s.o ++ w ++ s.n else []) q := rfl
    rw [e]
    unfold fsC
    rw [List.find?_cons]
    by_cases c : s.p = q.1 ∧ s.q = q.2
    · rw [if_pos c, decide_eq_true c, tlC_none (fun t ht hh => h.1 t ht ⟨c, hh⟩)]
    · rw [if_neg c, decide_eq_false c, tlC_fs h.2]; rfl
theorem cell_eq {d : Dl} (g : OkD d) (p q : Int × Int) (w : Str) (hq : q ∈ shF d) : tlC (stF6 d.sets p) w (tl0 d p q) q = pcF d w p q := by
  have hin := shown_in g q hq
  have hS : ∀ s ∈ stF6 d.sets p, 0 ≤ s.p ∧ 0 ≤ s.q := fun s hs => by
    have h1 := (g.sets.mem s (List.mem_filter.1 hs).1).1.2
    have := g.cols.inn _ h1
    unfold inB at this
    exact ⟨this.1, this.2.2.1⟩
  unfold pcF tl0
  by_cases c1 : q.1 < 0
  · have c2 : ¬ q.2 < 0 := by omega
    rw [if_pos c1, if_neg c2, if_pos c1, tlC_none (fun s hs h => by have := hS s hs; omega), spM_lk g.gainNH]
  · rw [if_neg c1]
    by_cases c2 : q.2 < 0
    · rw [if_pos c2, if_pos c2, tlC_none (fun s hs h => by have := hS s hs; omega), spM_lk g.lostNH, if_neg c1]
    · rw [if_neg c2, if_neg c2, if_neg c1]
      refine tlC_fs ?_
      have hk : d.sets.Pairwise (fun s t => keyS s ≠ keyS t) := List.pairwise_map.1 (List.nodup_iff_pairwise_ne.1 g.keys.1)
      refine List.Pairwise.imp_of_mem (fun {s t} hs ht h hh => h ?_) (hk.filter (fun s => decide (s.i = p.1 ∧ s.j = p.2)))
      have h1 := of_decide_eq_true (List.mem_filter.1 hs).2
      have h2 := of_decide_eq_true (List.mem_filter.1 ht).2
      unfold keyS
      rw [h1.2, h2.2, hh.1.2, hh.2.2]
theorem pr_eq {d : Dl} (g : OkD d) (p : Int × Int) : prF d p = rtold d (shF d) p := by
  have hc : (shF d).map (pcF d (awF (txS (stF6 d.sets p))) p) = (shF d).map fun q => tlC (stF6 d.sets p) (awF (txS (stF6 d.sets p))) (tl0 d p q) q := List.map_congr_left fun q hq => (cell_eq g p q _ hq).symm
  have hw := awF_pos (txS (stF6 d.sets p))
  unfold prF rtold
  rw [← hc]
  generalize (shF d).map (pcF d (awF (txS (stF6 d.sets p))) p) = cs
  have em : tlM (decide (p ∈ stP d.rows)) (stF6 d.sets p) (awF (txS (stF6 d.sets p))) = if pmF d p (awF (txS (stF6 d.sets p))) = [] then [43] else pmF d p (awF (txS (stF6 d.sets p))) := by
    unfold tlM pmF
    simp only [decide_eq_true_eq]
  have hpm : pmF d p (awF (txS (stF6 d.sets p))) = [] ↔ (p ∈ stP d.rows ∧ (stF6 d.sets p).length = 0) := by
    unfold pmF
    rw [List.append_eq_nil_iff]
    constructor
    · rintro ⟨h1, h2⟩
      constructor
      · by_cases c : p ∈ stP d.rows
        · exact c
        · rw [if_neg c] at h1; cases h1
      · by_cases c : 0 < (stF6 d.sets p).length
        · rw [if_pos c] at h2; rw [h2] at hw; simp at hw
        · omega
    · rintro ⟨h1, h2⟩
      exact ⟨if_pos h1, if_neg (by omega)⟩
  rw [em]
  generalize pmF d p (awF (txS (stF6 d.sets p))) = pm at hpm ⊢
  unfold quF
  by_cases c : pm = []
  · obtain ⟨h1, h2⟩ := hpm.1 c
    rw [if_pos c, if_pos c]
    by_cases e : d.cols.length = d.A.length ∧ d.cols.length = d.B.length
    · rw [if_pos e, if_pos (by simp [h1, h2, e.1, e.2]; exact e.1.symm.trans e.2)]
    · rw [if_neg e, if_neg (by
        simp only [Bool.and_eq_true, decide_eq_true_eq]
        exact fun h => e h.2.2)]
  · rw [if_neg c, if_neg c, if_neg (by
      simp only [Bool.and_eq_true, decide_eq_true_eq]
      exact fun h => c (hpm.2 ⟨h.1, h.2.1⟩))]
end Go.Proofs.YtlabdffgcciepaaGreatDoor
namespace Go.Proofs.YtlabdffgcciepaaGreatDoor
open Go.Tn
set_option maxHeartbeats 8000000
set_option maxRecDepth 100000
theorem recR_len {d : Dl} {p : Int × Int} (h : ¬ (0 ≤ p.1 ∧ 0 ≤ p.2)) : recR d p ≠ [] := by
  unfold recR
  rw [if_neg h]
  split <;> simp
end Go.Proofs.YtlabdffgcciepaaGreatDoor
namespace Go.Proofs.YtlabdffgcciepaaGreatDoor
open Go.Tn
set_option maxHeartbeats 16000000
set_option maxRecDepth 100000
def whD (p : Int × Int) : D := if p.2 < 0 then .ifc 112 (.agg [.int .i64 p.1]) else if p.1 < 0 then .ifc 114 (.agg [.int .i64 p.2]) else .ifc 55 (.agg [.int .i64 p.1, .int .i64 p.2])
theorem fc_what (a b : Int) : FC Tryz.prog 17 [] [.agg [.int .i64 a, .int .i64 b]] (.ret (whD (a, b))) := by
  refine fc_M (fn := Tryz.f17) (C := (tab [] [] [])) (rs := [2]) mixed (by kernel_rfl) (by kernel_rfl) rfl rfl (by kernel_rfl) (by intro ys h; cases h) ?_
  unfold whD
  by_cases c1 : b < 0
  · rw [if_pos c1]
    simp +contextual (maxSteps := 5000000) only [go_sem, ↓reduceIte, c1]
    done
  rw [if_neg c1]
  by_cases c2 : a < 0
  · rw [if_pos c2]
    simp +contextual (maxSteps := 5000000) only [go_sem, ↓reduceIte, c1, c2]
    done
  rw [if_neg c2]
  simp +contextual (maxSteps := 5000000) only [go_sem, ↓reduceIte, c1, c2]
  done
def c_wh (caps args : List D) : Prop × Out := match caps, args with
  | [], [.agg [.int .i64 a, .int .i64 b]] => (True, .ret (whD (a, b)))
  | _, _ => (False, .ret .any)
theorem st_wh : StC Tryz.prog 17 c_wh := by
  intro caps args; unfold c_wh; split
  · exact fun _ => fc_what _ _
  · exact fun h => h.elim
def c_lk (d : Dl) (caps args : List D) : Prop × Out := match caps, args with
  | [], [.agg r] => (r = eDl d, .ret (.box (eVw d)))
  | _, _ => (False, .ret .any)
theorem st_lk {d : Dl} (ho : okDl d) (g : OkD d) : StC Tryz.prog 14 (c_lk d) := by
  intro caps args; unfold c_lk; split
  · rintro rfl; exact fc_look d ho g
  · exact fun h => h.elim
def c_hh (d : Dl) (caps args : List D) : Prop × Out := match caps, args with
  | [], [x] => (x = .box (eVw d), .own 22 1 ((hdsF d (shF d)).map eR))
  | _, _ => (False, .ret .any)
theorem st_hh {d : Dl} (ho : okDl d) (g : OkD d) : StC Tryz.prog 15 (c_hh d) := by
  intro caps args; unfold c_hh; split
  · rintro rfl; exact fc_hheads d ho g
  · exact fun h => h.elim
def c_goC (d : Dl) (caps args : List D) : Prop × Out := match caps, args with
  | [], [.agg [.int .i64 i], x] => ((x = .box (eVw d) ∧ InR .i64 i) ∧ i ∈ goneR d, .ret (.sl 1 (([45, 45, 45] :: plF (i, -1) :: (shF d).map (goC (lnR d.dels i))).map eS)))
  | _, _ => (False, .ret .any)
theorem st_goC {d : Dl} (g : OkD d) : StC Tryz.prog 159 (c_goC d) := by
  intro caps args; unfold c_goC; split
  · rintro ⟨⟨rfl, hi⟩, hm⟩
    exact fc_goCells d g _ hi _ (lnM_lk g.delsNH.1 (by rw [g.delsNH.2]; exact hm)) (lnR_len g.lines.1 hm)
  · exact fun h => h.elim
def c_frC (d : Dl) (caps args : List D) : Prop × Out := match caps, args with
  | [], [.agg [.int .i64 i], x] => ((x = .box (eVw d) ∧ InR .i64 i) ∧ i ∈ newR' d, .ret (.sl 1 (([43, 43, 43] :: plF (-1, i) :: (shF d).map (frC (lnR d.inss i))).map eS)))
  | _, _ => (False, .ret .any)
theorem st_frC {d : Dl} (g : OkD d) : StC Tryz.prog 161 (c_frC d) := by
  intro caps args; unfold c_frC; split
  · rintro ⟨⟨rfl, hi⟩, hm⟩
    exact fc_frCells d g _ hi _ (lnM_lk g.inssNH.1 (by rw [g.inssNH.2]; exact hm)) (lnR_len g.lines.2 hm)
  · exact fun h => h.elim
def c_prC (d : Dl) (caps args : List D) : Prop × Out := match caps, args with
  | [], [.agg [.int .i64 a, .int .i64 b], x] => (x = .box (eVw d) ∧ InR .i64 a ∧ InR .i64 b, .ret (.sl 1 ((rtold d (shF d) (a, b)).map eS)))
  | _, _ => (False, .ret .any)
theorem st_prC {d : Dl} (ho : okDl d) (g : OkD d) : StC Tryz.prog 157 (c_prC d) := by
  intro caps args; unfold c_prC; split
  · rintro ⟨rfl, ha, hb⟩
    rw [← pr_eq g]
    exact fc_prCells d ho g _ _ ha hb
  · exact fun h => h.elim
theorem mth1 : mthF Tryz.prog 112 "tartan/high.cells" = some 159 := by kernel_rfl
theorem mth2 : mthF Tryz.prog 114 "tartan/high.cells" = some 161 := by kernel_rfl
theorem mth3 : mthF Tryz.prog 55 "tartan/high.cells" = some 157 := by kernel_rfl
theorem w_Order : StC Tryz.prog 16 c_Order := stC_wide fenN fenW untameW (by intro a b; unfold c_Order; split <;> rfl) st_Order
theorem w_DChk : StC Tryz.prog 11 c_DChk := stC_wide fenN fenW untameW (by intro a b; unfold c_DChk; split <;> rfl) st_DChk
theorem gapc (n : Nat) (l : List (Int × Int)) (h : l.length = n) : [46, 46, 46] :: ([] : Str) :: l.map (fun _ => ([] : Str)) = gapF n := by
  unfold gapF
  subst h
  congr 1
  rw [List.replicate_succ]
  congr 1
  induction l with
  | nil => rfl
  | cons x r ih => rw [List.map_cons, ih, List.length_cons, List.replicate_succ]
structure WovK (d : Dl) (p : Int × Int) : Prop where
  r1 : InR .i64 p.1
  r2 : InR .i64 p.2
  kind : (0 ≤ p.1 ∧ 0 ≤ p.2) ∨ (p.1 = -1 ∧ 0 ≤ p.2 ∧ p.2 ∈ newR' d) ∨ (p.2 = -1 ∧ 0 ≤ p.1 ∧ p.1 ∈ goneR d)
theorem wov_k {d : Dl} (g : OkD d) {p : Int × Int} (h : p ∈ odF d.rows d.na d.nb) : WovK d p := by
  have ho := wov_ok g h
  refine ⟨ho.r1, ho.r2, ?_⟩
  rcases odF_mem g.rows h with h | ⟨h1, h2⟩ | ⟨h1, h2⟩
  · have := g.rows.inn p h
    unfold inB at this
    exact .inl (by omega)
  · exact .inr (.inl ⟨h1, (mem_rsL.1 h2).1.1, h2⟩)
  · exact .inr (.inr ⟨h1, (mem_rsL.1 h2).1.1, h2⟩)
theorem fc_hPut (d : Dl) (ho : okDl d) (hok : okArg (eDl d)) : FC Tryz.prog 8 [] [.agg (eDl d)] (.ret (.tup [.sl 1 ((rputF d).map eR), .int .i64 (chkD d)])) := by
  have hdd := dDl_eDl d
  have hck : c_DChk [] [.agg (eDl d)] = (okArg (eDl d), .ret (.int .i64 (chkD (dDl (eDl d))))) := rfl
  rw [hdd] at hck
  have hlk : c_lk d [] [.agg (eDl d)] = (eDl d = eDl d, .ret (.box (eVw d))) := rfl
  have hd1 : (d.rows.map eP).map dP = d.rows := dP_eP _
  have hRo := ho.rows
  refine fc_M (fn := Tryz.f8) (C := (tab [(11, c_DChk), (14, c_lk d), (15, c_hh d), (16, c_Order), (17, c_wh), (159, c_goC d), (161, c_frC d), (157, c_prC d), (18, c_rec d)] [] [1, 5004, 5005, 5012, 14])) (rs := [2, 3]) mixed (by kernel_rfl) (by kernel_rfl) rfl rfl (by kernel_rfl) (by intro ys h; cases h) ?_
  by_cases hz : chkD d = 0
  rotate_left
  · have e0 : rputF d = [] := if_neg hz
    rw [e0]
    unfold eDl at hck hok ⊢
    simp +contextual (maxSteps := 5000000) only [go_sem, ↓reduceIte]
    refine M_join (fun _ : Unit => ⟨[], []⟩) (fun _ => False) ?_ ?_
    · simp +contextual (maxSteps := 5000000) only [go_sem, ↓reduceIte, hck, w_DChk, hok, hz, Int.reduceEq, Int.reduceNe, Int.reduceLT, Int.reduceLE, Int.reduceToNat, Int.cast_ofNat_Int, List.map_nil]
    · exact fun _ h => h.elim
  have g := (chkD_zero d).1 hz
  have hlkS := st_lk ho g
  have hhS := st_hh ho g
  have goS := st_goC g
  have frS := st_frC g
  have prS := st_prC ho g
  have hb := g.big
  have h1 := g.rows.a0
  have h2 := g.rows.b0
  have hsl := shF_len d
  have hsr := st_rec (d := d) (by omega)
  have o7 := ok7 d
  have hna : d.na < 1000000 := by omega
  have hnb : d.nb < 1000000 := by omega
  have e0 : rputF d = hpF d (recR d) := if_pos hz
  have e1 : odT d.rows d.na d.nb = odF d.rows d.na d.nb := if_pos ((chk_zero _ _ _).2 g.rows)
  have e2 : hpF d (recR d) = hdsF d (shF d) ++ (rwF' (recR d) (shF d).length (odF d.rows d.na d.nb)).1 := rfl
  have hWl := odF_len (l := d.rows) (na := d.na) (nb := d.nb)
  have hrl := rsL_len (d.rows.map (·.1)) d.na.toNat
  have hwo := fun p hp => wov_k g (p := p) hp
  have hh3 : (hdsF d (shF d)).length = 3 := rfl
  rw [e0, e2, hz]
  generalize hW : odF d.rows d.na d.nb = W at hWl hwo e1 ⊢
  have hWl2 : W.length < 1000000 := by omega
  unfold eDl at hck hlk hok ⊢
  simp +contextual (maxSteps := 5000000) only [go_sem, ↓reduceIte]
  refine M_join (fun _ : Unit => ⟨[(1, .loc 1 0)], [(1, .blk (eDl d) false)]⟩) (fun _ => True) ?_ ?_
  · unfold eDl
    simp +contextual (maxSteps := 5000000) only [go_sem, ↓reduceIte, hck, w_DChk, hok, hz, Int.reduceEq, Int.reduceNe, Int.reduceLT, Int.reduceLE, Int.reduceToNat, Int.cast_ofNat_Int]
    exact ⟨(), trivial⟩
  intro _ _
  unfold eDl
  simp +contextual (maxSteps := 5000000) only [go_sem, ↓reduceIte]
  refine M_join (fun _ : Unit => ⟨[(1, .loc 1 0), (5, .box (eVw d))], [(1, .blk (eDl d) false)]⟩) (fun _ => True) ?_ ?_
  · unfold eDl
    simp +contextual (maxSteps := 5000000) only [go_sem, ↓reduceIte, hlk, hlkS, wkL_self (eVw d)]
    exact ⟨(), trivial⟩
  intro _ _
  simp +contextual (maxSteps := 5000000) only [go_sem, ↓reduceIte]
  refine M_join (fun _ : Unit => ⟨[(1, .loc 1 0), (5, .box (eVw d)), (6, .vec 23 (hdsF d (shF d)).length)], [(1, .blk (eDl d) false), (23, .vec 22 1 ((hdsF d (shF d)).map eR) 0)]⟩) (fun _ => True) ?_ ?_
  · unfold eDl
    simp +contextual (maxSteps := 5000000) only [go_sem, ↓reduceIte, c_hh, hhS, wkL_self (eVw d)]
    exact ⟨(), trivial⟩
  intro _ _
  unfold eDl
  simp +contextual (maxSteps := 5000000) only [go_sem, ↓reduceIte, c_Order, w_Order, hd1, hRo, hna, hnb, e1]
  intro _
  refine M_loopI (fun i : Nat => ⟨[(5, .box (eVw d)), (6, .vec 23 (3 + (rwF' (recR d) (shF d).length (W.take i)).1.length)), (9, .bool (rwF' (recR d) (shF d).length (W.take i)).2), (34, .sl 2 (W.map eP)), (35, .int .i64 W.length), (36, .int .i64 i)], [(23, .vec 22 1 ((hdsF d (shF d) ++ (rwF' (recR d) (shF d).length (W.take i)).1).map eR) 0)]⟩) (fun i => W.length - i) (fun i => i ≤ W.length) 0 ?_ ?_
  · simp +contextual (maxSteps := 5000000) only [go_sem, ↓reduceIte, rwF', List.foldl_nil, hh3, wkL_self (eVw d)]
    rfl
  intro i hi
  have hrl := rw_len (recR d) (shF d).length W i hi
  by_cases hlt : i < W.length
  rotate_left
  · obtain rfl : i = W.length := by omega
    rw [List.take_length] at hrl ⊢
    simp +contextual (maxSteps := 5000000) only [go_sem, ↓reduceIte, hlt]
    rw [hh3]
  have hat := eP_at W i hlt
  have htk := rwF_take (rec := recR d) (n := (shF d).length) hlt
  obtain ⟨hr1, hr2, hkind⟩ := hwo _ (getD_mem (d := ((0 : Int), (0 : Int))) hlt)
  generalize W.getD i (0, 0) = p at hat htk hr1 hr2 hkind
  obtain ⟨a, b⟩ := p
  generalize rwF' (recR d) (shF d).length (W.take i) = st at hrl htk ⊢
  obtain ⟨out, gp⟩ := st
  simp only at hr1 hr2 hkind hrl htk hat ⊢
  have hhl : (hdsF d (shF d) ++ out).length = 3 + out.length := by rw [List.length_append]; rfl
  have h00 : ((((0 : Nat) : Int)) = 0) = True := eq_true rfl
  have hst : stpF' (recR d) (shF d).length (out, gp) (a, b) = if recR d (a, b) ≠ [] then (out ++ [recR d (a, b)], false) else if gp = true then (out, true) else (out ++ [gapF (shF d).length], true) := rfl
  rw [hst] at htk
  clear hst
  have hwp : 0 ≤ a ∧ 0 ≤ b → whD (a, b) = .ifc 55 (.agg [.int .i64 a, .int .i64 b]) ∧ recR d (a, b) = rtold d (shF d) (a, b) := fun h => by
    unfold whD
    rw [if_neg (by simp only; omega), if_neg (by simp only; omega)]
    exact ⟨rfl, if_pos h⟩
  have hwn : a = -1 → 0 ≤ b → whD (a, b) = .ifc 114 (.agg [.int .i64 b]) ∧ recR d (a, b) = [43, 43, 43] :: plF (-1, b) :: (shF d).map (frC (lnR d.inss b)) := fun h h' => by
    unfold whD
    rw [if_neg (by simp only; omega), if_pos (by simp only; omega)]
    refine ⟨rfl, ?_⟩
    unfold recR
    rw [if_neg (fun h => by simp only at h; omega), if_pos (by simp only; omega), h]
  have hwg : b = -1 → 0 ≤ a → whD (a, b) = .ifc 112 (.agg [.int .i64 a]) ∧ recR d (a, b) = [45, 45, 45] :: plF (a, -1) :: (shF d).map (goC (lnR d.dels a)) := fun h h' => by
    unfold whD
    rw [if_pos (by simp only; omega)]
    refine ⟨rfl, ?_⟩
    unfold recR
    rw [if_neg (fun h => by simp only at h; omega), if_neg (by simp only; omega), h]
  generalize hrc : recR d (a, b) = R at htk hwp hwn hwg
  simp +contextual (maxSteps := 5000000) only [go_sem, ↓reduceIte, hlt, hat, c_wh, st_wh]
  refine M_join (fun _ : Unit => ⟨[(5, .box (eVw d)), (6, .vec 23 (3 + out.length)), (9, .bool gp), (12, whD (a, b)), (13, .sl 1 (R.map eS)), (34, .sl 2 (W.map eP)), (35, .int .i64 W.length), (36, .int .i64 i)], [(23, .vec 22 1 ((hdsF d (shF d) ++ out).map eR) 0)]⟩) (fun _ => True) ?_ ?_
  · rcases hkind with ⟨k1, k2⟩ | ⟨k1, k2, k3⟩ | ⟨k1, k2, k3⟩
    · obtain ⟨w1, w2⟩ := hwp ⟨k1, k2⟩
      have hcp : ∀ x, c_prC d [] [.agg [.int .i64 a, .int .i64 b], x] = (x = .box (eVw d) ∧ InR .i64 a ∧ InR .i64 b, .ret (.sl 1 ((rtold d (shF d) (a, b)).map eS))) := fun x => rfl
      rw [← w2] at hcp
      simp +contextual (maxSteps := 5000000) only [go_sem, ↓reduceIte, w1, mth3, hcp, prS, hr1, hr2, wkL_self (eVw d)]
      exact ⟨(), trivial⟩
    · obtain ⟨w1, w2⟩ := hwn k1 k2
      have hcp : ∀ x, c_frC d [] [.agg [.int .i64 b], x] = ((x = .box (eVw d) ∧ InR .i64 b) ∧ b ∈ newR' d, .ret (.sl 1 (([43, 43, 43] :: plF (-1, b) :: (shF d).map (frC (lnR d.inss b))).map eS))) := fun x => rfl
      rw [← w2] at hcp
      simp +contextual (maxSteps := 5000000) only [go_sem, ↓reduceIte, w1, mth2, hcp, frS, hr1, hr2, k3, wkL_self (eVw d)]
      exact ⟨(), trivial⟩
    · obtain ⟨w1, w2⟩ := hwg k1 k2
      have hcp : ∀ x, c_goC d [] [.agg [.int .i64 a], x] = ((x = .box (eVw d) ∧ InR .i64 a) ∧ a ∈ goneR d, .ret (.sl 1 (([45, 45, 45] :: plF (a, -1) :: (shF d).map (goC (lnR d.dels a))).map eS))) := fun x => rfl
      rw [← w2] at hcp
      simp +contextual (maxSteps := 5000000) only [go_sem, ↓reduceIte, w1, mth1, hcp, goS, hr1, hr2, k3, wkL_self (eVw d)]
      exact ⟨(), trivial⟩
  intro _ _
  simp +contextual (maxSteps := 5000000) only [go_sem, ↓reduceIte]
  refine M_join (fun _ : Unit => ⟨[(5, .box (eVw d)), (6, .vec 23 (3 + out.length)), (9, .bool gp), (13, .sl 1 (R.map eS)), (14, .bool (decide (R = []))), (34, .sl 2 (W.map eP)), (35, .int .i64 W.length), (36, .int .i64 i)], [(23, .vec 22 1 ((hdsF d (shF d) ++ out).map eR) 0)]⟩) (fun _ => True) ?_ ?_
  · rcases hkind with ⟨k1, k2⟩ | ⟨k1, k2, k3⟩ | ⟨k1, k2, k3⟩
    · obtain ⟨w1, w2⟩ := hwp ⟨k1, k2⟩
      by_cases hR : R = []
      · rw [decide_eq_true hR, hR]
        simp +contextual (maxSteps := 5000000) only [go_sem, ↓reduceIte, w1, List.map_nil, h00, wkL_self (eVw d)]
        exact ⟨(), trivial⟩
      · have hRl : ¬ R.length = 0 := fun h => hR (List.eq_nil_of_length_eq_zero h)
        have hRl' : ¬ ((R.length : Int) = 0) := by omega
        rw [decide_eq_false hR]
        simp +contextual (maxSteps := 5000000) only [go_sem, ↓reduceIte, w1, hRl, hRl', wkL_self (eVw d)]
        exact fun _ => ⟨(), trivial⟩
    · obtain ⟨w1, w2⟩ := hwn k1 k2
      rw [decide_eq_false (by rw [w2]; simp)]
      simp +contextual (maxSteps := 5000000) only [go_sem, ↓reduceIte, w1, wkL_self (eVw d)]
      exact ⟨(), trivial⟩
    · obtain ⟨w1, w2⟩ := hwg k1 k2
      rw [decide_eq_false (by rw [w2]; simp)]
      simp +contextual (maxSteps := 5000000) only [go_sem, ↓reduceIte, w1, wkL_self (eVw d)]
      exact ⟨(), trivial⟩
  intro _ _
  by_cases hR : R = []
  · rw [decide_eq_true hR]
    rw [if_neg (by simpa using hR)] at htk
    cases gp with
    | true =>
      rw [if_pos rfl] at htk
      simp +contextual (maxSteps := 5000000) only [go_sem, ↓reduceIte, wkL_self (eVw d)]
      exact ⟨inR64 (by omega) (by omega), fun _ => ⟨i + 1, ⟨⟨by rw [htk], by rw [htk], by simp⟩, by rw [htk]⟩, by omega, by omega⟩⟩
    | false =>
      rw [if_neg (by simp)] at htk
      simp +contextual (maxSteps := 5000000) only [go_sem, ↓reduceIte, wkL_self (eVw d), c_rec, hsr, qA7, o7]
      exact ⟨⟨by rw [hh3], by omega⟩, fun _ => ⟨inR64 (by omega) (by omega), fun _ => ⟨i + 1, ⟨⟨by rw [htk]; simp [Nat.add_assoc], by rw [htk], by simp⟩, by rw [htk, ← List.append_assoc, List.map_append (l₁ := hdsF d (shF d) ++ out), ← gapc (shF d).length (shF d) rfl]; rfl⟩, by omega, by omega⟩⟩⟩
  · rw [decide_eq_false hR]
    rw [if_pos hR] at htk
    simp +contextual (maxSteps := 5000000) only [go_sem, ↓reduceIte, wkL_self (eVw d)]
    exact ⟨⟨by rw [hh3], by omega⟩, fun _ => ⟨inR64 (by omega) (by omega), fun _ => ⟨i + 1, ⟨⟨by rw [htk]; simp [Nat.add_assoc], by rw [htk], by simp⟩, by rw [htk, ← List.append_assoc, List.map_append (l₁ := hdsF d (shF d) ++ out)]; rfl⟩, by omega, by omega⟩⟩⟩
end Go.Proofs.YtlabdffgcciepaaGreatDoor
namespace Go.Proofs.YtlabdffgcciepaaGreatDoor
open Go.Tn
set_option maxHeartbeats 16000000
set_option maxRecDepth 100000
theorem wk_aggH {r s : List D} (h : wkL r s) : wkL [.agg r] [.agg s] := by simp only [wkL, wk]; exact ⟨h, trivial⟩
def c_hPt (caps args : List D) : Prop × Out := match caps, args with
  | [], [.agg r] => (okArg r, .ret (.tup [.sl 1 ((rputF (dDl r)).map eR), .int .i64 (chkD (dDl r))]))
  | _, _ => (False, .ret .any)
theorem st_hPt : StC Tryz.prog 8 c_hPt := by
  intro caps args; unfold c_hPt; split
  · intro h
    exact fc_wk (wkL_self []) (wk_aggH h.wk) (by intro ys h; cases h) (fc_hPut _ h.ok (okArg_eDl h.ok h.na h.nb h.cs))
  · exact fun h => h.elim
abbrev lW : List D := [.sl 1 [[.str [107]], [.str [118]]], .sl 1 [[.str [107]], [.str [118]]], .sl 2 [[.int .i64 0, .int .i64 0], [.int .i64 1, .int .i64 1]], .int .i64 1, .int .i64 1, .sl 2 [[.int .i64 0, .int .i64 0]], .nil, .nil, .sl 6 [[.int .i64 0, .int .i64 0, .int .i64 1, .int .i64 1, .str [120], .str [121]]], .nil, .nil]
abbrev lW2 : List D := [.sl 1 [[.str [107]], [.str [118]]], .sl 1 [[.str [107]], [.str [118]]], .sl 2 [[.int .i64 0, .int .i64 0], [.int .i64 1, .int .i64 1]], .int .i64 1, .int .i64 1, .sl 2 [[.int .i64 0, .int .i64 0]], .nil, .nil, .nil, .nil, .nil]
theorem oW : okArg lW := ⟨by simp [wkL, wk, dDl, pR, eDl, dS, eS, sOf, iOf, dP, eP, d6, eD6], by constructor <;> decide +kernel, by decide +kernel, by decide +kernel, by decide +kernel⟩
theorem oW2 : okArg lW2 := ⟨by simp [wkL, wk, dDl, pR, eDl, dS, eS, sOf, iOf, dP, eP], by constructor <;> decide +kernel, by decide +kernel, by decide +kernel, by decide +kernel⟩
theorem kw1 : chkD (dDl lW) = 0 := by decide +kernel
theorem kw3 : chkD (dDl lW2) = 0 := by decide +kernel
theorem kw2 : rputF (dDl lW) = [[[33], [], [], []], [[35], [49, 58, 49], [48, 58, 48], [49, 58, 49]], [[64, 64], [45, 62], [107], [118]], [[45, 62], [48, 58, 48], [], [120, 45, 62, 121]]] := by decide +kernel
theorem kw4 : rputF (dDl lW2) = [[[33], [], [], []], [[35], [49, 58, 49], [48, 58, 48], [49, 58, 49]], [[64, 64], [45, 62], [107], [118]], [[46, 46, 46], [], [], []]] := by decide +kernel
theorem kw5 : rputF (dDl lE) = [] := by decide +kernel
end Go.Proofs.YtlabdffgcciepaaGreatDoor
namespace Go.Proofs.YtlabdffgcciepaaGreatDoor
open Go.Tn
set_option maxHeartbeats 16000000
set_option maxRecDepth 100000
theorem w_RefS : StC Tryz.prog 27 c_RefS := stC_wide fenN fenW untameW (by intro a b; unfold c_RefS; split <;> rfl) st_RefS
theorem fc_RefR (l k : List (List Str)) : FC Tryz.prog 10 [] [.sl 1 (l.map eR), .sl 1 (k.map eR)] (.ret (.bool (decide (l = k)))) := by
  refine fc_M (fn := Tryz.f10) (C := (tab [(27, c_RefS)] [])) (rs := [4]) mixed (by kernel_rfl) (by kernel_rfl) rfl rfl (by kernel_rfl) (by intro ys h; cases h) ?_
  by_cases hlen : l.length = k.length
  · simp +contextual (maxSteps := 5000000) only [go_sem, ↓reduceIte, hlen]
    intro _
    refine M_loopI (fun i : Nat => ⟨[(0, .sl 1 (l.map eR)), (1, .sl 1 (k.map eR)), (5, .int .i64 i)], []⟩) (fun i => l.length - i) (fun i => i ≤ l.length ∧ ∀ j, j < i → l.getD j [] = k.getD j []) 0 ?_ ?_
    · simp +contextual (maxSteps := 5000000) only [go_sem, ↓reduceIte]
      rfl
    · intro i hi
      obtain ⟨hi, ho⟩ := hi
      by_cases hlt : i < k.length
      · have ha := eR_at l i (by omega)
        have hb := eR_at k i hlt
        have hl2 : i < l.length := by omega
        generalize hx : l.getD i [] = x at ha
        generalize hy : k.getD i [] = y at hb
        by_cases q : x = y
        · subst q
          simp +contextual (maxSteps := 5000000) only [go_sem, ↓reduceIte, hlt, hl2, ha, hb, c_RefS, w_RefS, dS_eS, eq_self]
          refine fun _ => ⟨inR64 (by omega) (by omega), fun _ => ⟨i + 1, by simp, by omega, by omega, fun j hj => ?_⟩⟩
          rcases lt_cases hj with h | rfl
          · exact ho j h
          · rw [hx, hy]
        · have hne : ¬ l = k := fun h => q (by rw [← hx, ← hy, h])
          have hd : decide (l = k) = false := decide_eq_false hne
          rw [hd]
          simp +contextual (maxSteps := 5000000) only [go_sem, ↓reduceIte, hlt, hl2, ha, hb, c_RefS, w_RefS, dS_eS, q]
      · have hd : decide (l = k) = true := decide_eq_true (eq_of_at [] hlen (fun j hj => ho j (by omega)))
        rw [hd]
        have hl3 : ¬ i < l.length := by omega
        simp +contextual (maxSteps := 5000000) only [go_sem, ↓reduceIte, hlt, hl3]
  · have hd : decide (l = k) = false := decide_eq_false (fun h => hlen (by rw [h]))
    rw [hd]
    simp +contextual (maxSteps := 5000000) only [go_sem, ↓reduceIte, hlen]
def c_RefR (caps args : List D) : Prop × Out := match caps, args with | [], [.sl 1 a, .sl 1 b] => (a = (a.map dR).map eR ∧ b = (b.map dR).map eR, .ret (.bool (decide (a.map dR = b.map dR)))) | _, _ => (False, .ret .any)
theorem w_RefR : StC Tryz.prog 10 c_RefR := by
  intro caps args; unfold c_RefR; split
  · rename_i a b
    rintro ⟨h1, h2⟩
    have := fc_RefR (a.map dR) (b.map dR)
    rw [← h1, ← h2] at this
    exact this
  · exact fun h => h.elim
theorem w_fewD : StC Tryz.prog 7 c_fewD := stC_wide fenN fenW untameW (by intro a b; unfold c_fewD; split <;> rfl) st_fewD
theorem fc_works19 : FC Tryz.prog 6 [] [] (.ret (.bool true)) := by
  have hdR : ∀ l : List (List Str), (l.map eR).map dR = l := dR_eR
  refine fc_M (fn := Tryz.f6) (C := (tab [(8, c_hPt), (10, c_RefR)] [] [5001, 5002, 5003, 5004, 5005])) (rs := [0]) mixed (by kernel_rfl) (by kernel_rfl) rfl rfl (by kernel_rfl) (by intro ys h; cases h) ?_
  simp +contextual (maxSteps := 5000000) only [go_sem, ↓reduceIte]
  refine M_join (fun _ : Unit => ⟨[(1, .loc 1 0)], [(1, .blk [.vec 9 2, .vec 10 2, .vec 13 2, .int .i64 1, .int .i64 1, .vec 15 1, .nil, .nil, .vec 17 1, .nil, .nil] false), (9, .vec 9 1 [[.str [107]], [.str [118]]] 0), (10, .vec 9 1 [[.str [107]], [.str [118]]] 0), (13, .vec 39 2 [[.int .i64 0, .int .i64 0], [.int .i64 1, .int .i64 1]] 0), (15, .vec 39 2 [[.int .i64 0, .int .i64 0]] 0), (17, .vec 41 6 [[.int .i64 0, .int .i64 0, .int .i64 1, .int .i64 1, .str [120], .str [121]]] 0)]⟩) (fun _ => True) ?_ ?_
  · simp +contextual (maxSteps := 5000000) only [go_sem, ↓reduceIte, Int.reduceEq, Int.reduceNe, Int.reduceLT, Int.reduceLE, Int.reduceToNat, Int.cast_ofNat_Int]
    exact ⟨(), trivial⟩
  intro _ _
  simp +contextual (maxSteps := 5000000) only [go_sem, ↓reduceIte]
  refine M_join (fun _ : Unit => ⟨[(1, .loc 1 0), (2, .sl 1 ((rputF (dDl lW)).map eR)), (3, .int .i64 0)], [(1, .blk [.vec 9 2, .vec 10 2, .vec 13 2, .int .i64 1, .int .i64 1, .vec 15 1, .nil, .nil, .vec 17 1, .nil, .nil] false), (9, .vec 9 1 [[.str [107]], [.str [118]]] 2), (10, .vec 9 1 [[.str [107]], [.str [118]]] 2), (13, .vec 39 2 [[.int .i64 0, .int .i64 0], [.int .i64 1, .int .i64 1]] 2), (15, .vec 39 2 [[.int .i64 0, .int .i64 0]] 1), (17, .vec 41 6 [[.int .i64 0, .int .i64 0, .int .i64 1, .int .i64 1, .str [120], .str [121]]] 1)]⟩) (fun _ => True) ?_ ?_
  · simp +contextual (maxSteps := 5000000) only [go_sem, ↓reduceIte, Int.reduceEq, Int.reduceNe, Int.reduceLT, Int.reduceLE, Int.reduceToNat, Int.cast_ofNat_Int, c_hPt, st_hPt, oW, kw1]
    exact ⟨(), trivial⟩
  intro _ _
  simp +contextual (maxSteps := 5000000) only [go_sem, ↓reduceIte]
  refine M_join (fun _ : Unit => ⟨[(1, .loc 1 0), (3, .int .i64 0), (4, .bool true)], [(1, .blk [.vec 9 2, .vec 10 2, .vec 13 2, .int .i64 1, .int .i64 1, .vec 15 1, .nil, .nil, .vec 17 1, .nil, .nil] false), (9, .vec 9 1 [[.str [107]], [.str [118]]] 2), (10, .vec 9 1 [[.str [107]], [.str [118]]] 2), (13, .vec 39 2 [[.int .i64 0, .int .i64 0], [.int .i64 1, .int .i64 1]] 2), (15, .vec 39 2 [[.int .i64 0, .int .i64 0]] 1), (17, .vec 41 6 [[.int .i64 0, .int .i64 0, .int .i64 1, .int .i64 1, .str [120], .str [121]]] 1)]⟩) (fun _ => True) ?_ ?_
  · rw [kw2]
    simp +contextual (maxSteps := 5000000) only [go_sem, ↓reduceIte, Int.reduceEq, Int.reduceNe, Int.reduceLT, Int.reduceLE, Int.reduceToNat, Int.cast_ofNat_Int, c_RefR, w_RefR, eR, eS, dR, dS]
    exact ⟨rfl, (), trivial⟩
  intro _ _
  simp +contextual (maxSteps := 5000000) only [go_sem, ↓reduceIte]
  refine M_join (fun _ : Unit => ⟨[(1, .loc 1 0), (3, .int .i64 0), (4, .bool true)], [(1, .blk [.vec 9 2, .vec 10 2, .vec 13 2, .int .i64 1, .int .i64 1, .vec 15 1, .nil, .nil, .nil, .nil, .nil] false), (9, .vec 9 1 [[.str [107]], [.str [118]]] 2), (10, .vec 9 1 [[.str [107]], [.str [118]]] 2), (13, .vec 39 2 [[.int .i64 0, .int .i64 0], [.int .i64 1, .int .i64 1]] 2), (15, .vec 39 2 [[.int .i64 0, .int .i64 0]] 1)]⟩) (fun _ => True) ?_ ?_
  · simp +contextual (maxSteps := 5000000) only [go_sem, ↓reduceIte, Int.reduceEq, Int.reduceNe, Int.reduceLT, Int.reduceLE, Int.reduceToNat, Int.cast_ofNat_Int]
    exact ⟨(), trivial⟩
  intro _ _
  simp +contextual (maxSteps := 5000000) only [go_sem, ↓reduceIte]
  refine M_join (fun _ : Unit => ⟨[(3, .int .i64 0), (4, .bool true), (5, .sl 1 ((rputF (dDl lW2)).map eR)), (6, .int .i64 0)], []⟩) (fun _ => True) ?_ ?_
  · simp +contextual (maxSteps := 5000000) only [go_sem, ↓reduceIte, Int.reduceEq, Int.reduceNe, Int.reduceLT, Int.reduceLE, Int.reduceToNat, Int.cast_ofNat_Int, c_hPt, st_hPt, oW2, kw3]
    exact ⟨(), trivial⟩
  intro _ _
  rw [kw4]
  simp +contextual (maxSteps := 5000000) only [go_sem, ↓reduceIte, Int.reduceEq, Int.reduceNe, Int.reduceLT, Int.reduceLE, Int.reduceToNat, Int.cast_ofNat_Int, c_hPt, st_hPt, oE, k4, kw5, eR, eS]
  done
def c_wk19 (caps args : List D) : Prop × Out := match caps, args with | [], [] => (True, .ret (.bool true)) | _, _ => (False, .ret .any)
theorem st_wk19 : StC Tryz.prog 6 c_wk19 := by
  intro caps args; unfold c_wk19; split
  · exact fun _ => fc_works19
  · exact fun h => h.elim
end Go.Proofs.YtlabdffgcciepaaGreatDoor
namespace Go.Proofs.YtlabdffgcciepaaGreatDoor
open Go.Tn Go.RowKit
set_option maxRecDepth 100000
abbrev LL : List (String × DataW Unit) := [("math/bits.deBruijn32tab", Rows.laid_math_bits_deBruijn32tab), ("math/bits.deBruijn64tab", Rows.laid_math_bits_deBruijn64tab), ("internal/strconv.uint64pow10", Rows.laid_internal_strconv_uint64pow10)]
theorem var_at {P : Program} {W : World} {n : String} {g : Nat} {cs : Array Value} (hg : P.globalNamed n = some g) (h : W.var? P n = some cs) : ∃ t z, W.heap[g]? = some (.cells cs t z) := by
  unfold World.var? at h
  rw [hg, Option.bind_some] at h
  split at h
  · cases h; exact ⟨_, _, by assumption⟩
  · cases h
theorem exW_of {W : World} {g : Nat} {cs : Array Value} {t : TypeId} {z : Nat × Nat} (h : W.heap[g]? = some (.cells cs t z)) : exW W g = cs.size + 1 := by
  unfold exW; rw [h]
theorem maxLen_of {W : World} (h : W.ShapedOpen Tryz.prog) : ∃ m t z, W.heap[0]? = some (.cells #[.int .i64 m] t z) := by
  have h0 : ((begin Tryz.prog (fun _ _ => 0) default).world.heap[0]?).bind Obj.row? = some (#[.int .i64 0], 3) := by kernel_rfl
  have hg : 0 < (Tryz.prog : Program).globals.size := of_decide_eq_true (by kernel_rfl)
  obtain ⟨m, hm⟩ := cell_of_shapedOpen_int (k := .i64) h hg h0 rfl (by kernel_rfl) (by kernel_rfl) (by kernel_rfl)
  obtain ⟨cs, hh, hs, _⟩ := h.1 0 _ _ hg h0
  obtain ⟨l⟩ := cs
  match l, hs, hh, hm with
  | [c], _, hh, hm =>
    have : c = .int .i64 m := by simpa [World.cell?, hh] using hm
    subst this; exact ⟨_, _, _, hh⟩
theorem laid_of {W : World} (h : laidMetH Tryz.prog LL W) (hsh : W.ShapedOpen Tryz.prog) : Laid Tryz.prog (exW W) W := by
  rw [MakeChecks.laidMetH_plain _ _ _ (by kernel_rfl)] at h
  refine ⟨fun g hg => ?_, fun n hn g hg => ?_, fun g hg => ?_⟩
  · have h1 := h.filter (fun x => x.1 == "internal/strconv.uint64pow10")
    have hf : LL.filter (fun x => x.1 == "internal/strconv.uint64pow10") = [("internal/strconv.uint64pow10", Lib.tabData .u64 Lib.pow10Tab)] := by kernel_rfl
    rw [hf] at h1
    have hg2 : Tryz.prog.globalNamed "internal/strconv.uint64pow10" = some 1 := by kernel_rfl
    obtain rfl := Option.some.inj (hg2.symm.trans hg)
    have ht := Lib.tabIs_of_head (P := Tryz.prog) (k := .u64) (zs := Lib.pow10Tab) (rest := []) (t := 170) (e := 161) (n := 20) hg2 (by kernel_rfl) (by kernel_rfl) (by kernel_rfl) (by kernel_rfl) (by kernel_rfl) h1
    obtain ⟨t, z, hh⟩ := var_at hg2 ht
    exact ⟨t, z, hh, by rw [exW_of hh]; simp [Lib.pow10Tab_length]⟩
  · exfalso
    rcases hn with rfl | rfl
    · have h0 : Tryz.prog.globalNamed "strconv.ErrSyntax" = Option.none := by kernel_rfl
      rw [h0] at hg; cases hg
    · have h0 : Tryz.prog.globalNamed "strconv.ErrRange" = Option.none := by kernel_rfl
      rw [h0] at hg; cases hg
  · have hg2 : Tryz.prog.globalNamed "internal/bytealg.MaxLen" = some 0 := by kernel_rfl
    obtain rfl := Option.some.inj (hg2.symm.trans hg)
    obtain ⟨m, t, z, hh⟩ := maxLen_of hsh
    exact ⟨m, t, z, hh, by rw [exW_of hh]; show 1 < 1 + 1; omega⟩
noncomputable abbrev wL (os : Os) : World := World.laidAll Tryz.prog os LL
theorem met (os : Os) (args : Array Value) : laidMetH Tryz.prog LL ((wL os).forCall (fun _ _ => 0) ⟨#[], args, []⟩).memory := by
  rw [MakeChecks.laidMetH_plain _ _ _ (by kernel_rfl)]
  exact laidMet_laidAll _ (by kernel_rfl) (by kernel_rfl)
theorem plain_of {fn : Func} (h : (fn.params.toList.all fun t => !(Tryz.prog.wantsStandIn t)) = true) : ∀ (j : Nat) t, fn.params[j]? = some t → Tryz.prog.wantsStandIn t = false := fun j t ht => by
  have := List.all_eq_true.1 h t (by rw [Array.mem_toList_iff]; exact Array.mem_of_getElem? ht)
  simpa using this
end Go.Proofs.YtlabdffgcciepaaGreatDoor
