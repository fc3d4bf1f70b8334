/-
  What the functions compute that the law of this claim reaches. By an AI agent.
-/
import Derived.Test.YtknkjakppikjeaaGreatRows
import Derived.WalkKit
import Derived.ProofKit
import Derived.Test.YtknkjakppikjeaaGreatG0
set_option linter.unusedSimpArgs false
set_option linter.unusedVariables false

set_option linter.unusedSimpArgs false
namespace Go.Proofs.YtknkjakppikjeaaGreat
open Go.Tn
set_option maxHeartbeats 8000000
set_option maxRecDepth 100000
abbrev Str := List UInt8
structure Dl where
  A : List Str
  B : List Str
  cols : List (Int × Int)
  na : Int
  nb : Int
  rows : List (Int × Int)
  dels : List Ln
  inss : List Ln
  sets : List St6
  lost : List Sp
  gain : List Sp
def eDl (d : Dl) : List D := [.sl 1 (d.A.map eS), .sl 1 (d.B.map eS), .sl 2 (d.cols.map eP), .int .i64 d.na, .int .i64 d.nb, .sl 2 (d.rows.map eP), .sl 2 (d.dels.map eL), .sl 2 (d.inss.map eL), .sl 6 (d.sets.map eD6), .sl 3 (d.lost.map eSp), .sl 3 (d.gain.map eSp)]
theorem eD6_at (l : List St6) (i : Nat) (h : i < l.length) : (l.map eD6).getD i [] = [.int .i64 (l.getD i default).i, .int .i64 (l.getD i default).j, .int .i64 (l.getD i default).p, .int .i64 (l.getD i default).q, .str (l.getD i default).o, .str (l.getD i default).n] := at_of eD6 default l i h
def txL (l : List Ln) : List Str := l.flatMap (·.2)
def txS (l : List St6) : List Str := l.flatMap fun s => [s.o, s.n]
def txP (l : List Sp) : List Str := l.map (·.2.2)
def txF (d : Dl) : List Str := d.A ++ d.B ++ txL (d.dels ++ d.inss) ++ txS d.sets ++ txP (d.lost ++ d.gain)
theorem flat_succ {α : Type} {l : List α} {i : Nat} {d : α} (f : α → List Str) (h : i < l.length) : (l.take (i + 1)).flatMap f = (l.take i).flatMap f ++ f (l.getD i d) := by
  rw [List.take_add_one, List.getElem?_eq_getElem h, List.getD_eq_getElem?_getD, List.getElem?_eq_getElem h, List.flatMap_append]; simp
theorem flat_le {α : Type} (l : List α) (f : α → List Str) (i : Nat) : ((l.take i).flatMap f).length ≤ (l.flatMap f).length := by
  have : l.flatMap f = (l.take i).flatMap f ++ (l.drop i).flatMap f := by rw [← List.flatMap_append, List.take_append_drop]
  rw [this, List.length_append]; omega
theorem txP_succ {l : List Sp} {i : Nat} (h : i < l.length) : txP (l.take (i + 1)) = txP (l.take i) ++ [(l.getD i (0, 0, [])).2.2] := by
  unfold txP
  rw [List.take_add_one, List.getElem?_eq_getElem h, List.getD_eq_getElem?_getD, List.getElem?_eq_getElem h, List.map_append]; rfl
theorem gS (l : List Str) : gndL (l.map eS).flatten = true := gnd_eS l
theorem gSp (l : List Sp) : gndL (l.map eSp).flatten = true := gndR_of eSp (fun _ => rfl) l
theorem txS_len : ∀ l : List St6, (txS l).length = 2 * l.length
  | [] => rfl
  | x :: r => by have := txS_len r; simp only [txS, List.flatMap_cons, List.length_append, List.length_cons, List.length_nil] at this ⊢; omega
structure okDl (d : Dl) : Prop where
  A : d.A.length < 1000000
  B : d.B.length < 1000000
  cols : d.cols.length < 1000000
  rows : d.rows.length < 1000000
  dels : d.dels.length < 1000000
  inss : d.inss.length < 1000000
  sets : d.sets.length < 1000000
  lost : d.lost.length < 1000000
  gain : d.gain.length < 1000000
  cells : (txL (d.dels ++ d.inss)).length < 1000000
theorem fc_texts1 (d : Dl) (h : okDl d) : FC Tryz.prog 120 [.box (eDl d)] [] (.seq ((txF d).map eS)) := by
  obtain ⟨A, B, cols, na, nb, rows, dels, inss, sets, lost, gain⟩ := d
  obtain ⟨hA, hB, _, _, hde, hin, hse, hlo, hga, hce⟩ := h
  simp only at hA hB hde hin hse hlo hga hce
  unfold txF eDl
  simp only
  refine fcy_M (fn := Tryz.f120) (C := (tab [(121, c_Cat 9 1), (122, c_Cat 52 2), (123, c_Cat 71 3)] [] [5001])) mixed (by kernel_rfl) (by kernel_rfl) rfl rfl (by kernel_rfl) (by kernel_rfl) ?_
  have hs1 := st_ConcatS
  have hs2 := st_ConcatL
  have hs3 := st_ConcatP
  have e1 : A.map eS ++ B.map eS = (A ++ B).map eS := by simp
  have e2 : dels.map eL ++ inss.map eL = (dels ++ inss).map eL := by simp
  have e3 : lost.map eSp ++ gain.map eSp = (lost ++ gain).map eSp := by simp
  have n1 : (A ++ B).length < 2000000 := by rw [List.length_append]; omega
  have n2 : (dels ++ inss).length < 2000000 := by rw [List.length_append]; omega
  have n3 : (lost ++ gain).length < 2000000 := by rw [List.length_append]; omega
  simp +contextual (maxSteps := 5000000) only [go_sem, ↓reduceIte, c_Cat, hs1, e1, gS]
  refine ⟨by simp only [List.length_map, List.length_append] at *; omega, ?_⟩
  refine M_join (fun _ : Unit => ⟨[(0, .yld 999), (1, .box [.sl 1 (A.map eS), .sl 1 (B.map eS), .sl 2 (cols.map eP), .int .i64 na, .int .i64 nb, .sl 2 (rows.map eP), .sl 2 (dels.map eL), .sl 2 (inss.map eL), .sl 6 (sets.map eD6), .sl 3 (lost.map eSp), .sl 3 (gain.map eSp)]), (3, .vec 17 (A ++ B).length), (23, .vec 23 (dels ++ inss).length), (24, .int .i64 (dels ++ inss).length), (25, .int .i64 0)],
    [(999, .yl ((A ++ B ++ txL (dels ++ inss) ++ txS sets ++ txP (lost ++ gain)).map eS) [] false), (17, .vec 9 1 ((A ++ B).map eS) 0), (23, .vec 52 2 ((dels ++ inss).map eL) 0)]⟩) (fun _ => True) ?_ ?_
  · cases hg : gndL ((dels ++ inss).map eL).flatten
    · simp +contextual (maxSteps := 5000000) only [go_sem, ↓reduceIte, c_Cat, hs2, e2, hg]
      exact ⟨by omega, ⟨(), trivial⟩⟩
    · simp +contextual (maxSteps := 5000000) only [go_sem, ↓reduceIte, c_Cat, hs2, e2, hg]
      exact ⟨by omega, ⟨(), trivial⟩⟩
  · intro _ _
    generalize hAB : A ++ B = l1 at *
    generalize hDI : dels ++ inss = l2 at *
    generalize hLG : lost ++ gain = l3 at *
    generalize hYS : (l1 ++ txL l2 ++ txS sets ++ txP l3) = ys
    simp +contextual (maxSteps := 5000000) only [go_sem, ↓reduceIte]
    refine M_loopI (fun i : Nat => ⟨[(0, .yld 999), (1, .box [.sl 1 (A.map eS), .sl 1 (B.map eS), .sl 2 (cols.map eP), .int .i64 na, .int .i64 nb, .sl 2 (rows.map eP), .sl 2 (dels.map eL), .sl 2 (inss.map eL), .sl 6 (sets.map eD6), .sl 3 (lost.map eSp), .sl 3 (gain.map eSp)]), (3, .vec 17 (l1 ++ txL (l2.take i)).length), (23, .vec 23 l2.length), (24, .int .i64 l2.length), (25, .int .i64 i)],
      [(999, .yl (ys.map eS) [] false), (17, .vec 9 1 ((l1 ++ txL (l2.take i)).map eS) 0), (23, .vec 52 2 (l2.map eL) 0)]⟩) (fun i => l2.length - i) (fun i => i ≤ l2.length) 0 ?_ ?_
    · simp +contextual (maxSteps := 5000000) only [go_sem, ↓reduceIte, txL, List.flatMap_nil]
      rfl
    · intro i hi
      by_cases hlt : i < l2.length
      · have h2 := flat_succ (d := ((0 : Int), ([] : List Str))) (fun x : Ln => x.2) hlt
        have h3 := flat_le l2 (fun x : Ln => x.2) (i + 1)
        have h4 : (txL l2).length < 1000000 := hce
        unfold txL at *
        rw [h2, List.length_append] at h3
        simp +contextual (maxSteps := 5000000) only [go_sem, ↓reduceIte, eI_at, eI_set, List.length_set, tn_add, tn_add1, tn_sub, tn_sub1, sh1, sh1b, half_cast, hlt, eL_at]
        exact ⟨by omega, fun _ => ⟨inR64 (by omega) (by omega), fun _ => ⟨i + 1, ⟨⟨by rw [h2, List.length_append, Nat.add_assoc], by simp⟩, by rw [h2]; simp⟩, by omega, by omega⟩⟩⟩
      · have he : i = l2.length := by omega
        subst he
        simp +contextual (maxSteps := 5000000) only [go_sem, ↓reduceIte, hlt, List.take_length]
        refine fun _ => M_loopI (fun i : Nat => ⟨[(0, .yld 999), (1, .box [.sl 1 (A.map eS), .sl 1 (B.map eS), .sl 2 (cols.map eP), .int .i64 na, .int .i64 nb, .sl 2 (rows.map eP), .sl 2 (dels.map eL), .sl 2 (inss.map eL), .sl 6 (sets.map eD6), .sl 3 (lost.map eSp), .sl 3 (gain.map eSp)]), (3, .vec 17 (l1 ++ txL l2 ++ txS (sets.take i)).length), (35, .sl 6 (sets.map eD6)), (36, .int .i64 sets.length), (37, .int .i64 i)],
          [(999, .yl (ys.map eS) [] false), (17, .vec 9 1 ((l1 ++ txL l2 ++ txS (sets.take i)).map eS) 0)]⟩) (fun i => sets.length - i) (fun i => i ≤ sets.length) 0 ?_ ?_
        · simp +contextual (maxSteps := 5000000) only [go_sem, ↓reduceIte, txS, List.flatMap_nil]
          rfl
        · intro i hi
          by_cases hlt : i < sets.length
          · have h2 : txS (sets.take (i + 1)) = txS (sets.take i) ++ [(sets.getD i default).o, (sets.getD i default).n] := flat_succ (d := (default : St6)) (fun s : St6 => [s.o, s.n]) hlt
            have h3 := txS_len (sets.take i)
            rw [List.length_take] at h3
            simp +contextual (maxSteps := 5000000) only [go_sem, ↓reduceIte, eI_at, eI_set, List.length_set, tn_add, tn_add1, tn_sub, tn_sub1, sh1, sh1b, half_cast, hlt, eD6_at]
            exact ⟨by omega, fun _ => ⟨inR64 (by omega) (by omega), fun _ => ⟨i + 1, ⟨⟨by rw [h2, List.length_append]; rfl, by simp⟩, by rw [h2]; simp [eS]⟩, by omega, by omega⟩⟩⟩
          · have he : i = sets.length := by omega
            subst he
            have h3 := txS_len sets
            simp +contextual (maxSteps := 5000000) only [go_sem, ↓reduceIte, hlt, List.take_length, c_Cat, hs3, e3, gSp]
            refine ⟨by omega, ?_⟩
            refine M_loopI (fun i : Nat => ⟨[(0, .yld 999), (3, .vec 17 (l1 ++ txL l2 ++ txS sets ++ txP (l3.take i)).length), (54, .vec 54 l3.length), (55, .int .i64 l3.length), (56, .int .i64 i)],
              [(999, .yl (ys.map eS) [] false), (17, .vec 9 1 ((l1 ++ txL l2 ++ txS sets ++ txP (l3.take i)).map eS) 0), (54, .vec 71 3 (l3.map eSp) 0)]⟩) (fun i => l3.length - i) (fun i => i ≤ l3.length) 0 ?_ ?_
            · simp +contextual (maxSteps := 5000000) only [go_sem, ↓reduceIte, txP]
              rfl
            · intro i hi
              by_cases hlt : i < l3.length
              · have h2 := txP_succ hlt
                have h4 : (txP (l3.take i)).length ≤ i := by unfold txP; rw [List.length_map, List.length_take]; omega
                simp +contextual (maxSteps := 5000000) only [go_sem, ↓reduceIte, eI_at, eI_set, List.length_set, tn_add, tn_add1, tn_sub, tn_sub1, sh1, sh1b, half_cast, hlt, eSp_at]
                exact ⟨by omega, fun _ => ⟨inR64 (by omega) (by omega), fun _ => ⟨i + 1, ⟨⟨by rw [h2, List.length_append]; rfl, by simp⟩, by rw [h2]; simp [eS]⟩, by omega, by omega⟩⟩⟩
              · have he : i = l3.length := by omega
                subst he
                simp +contextual (maxSteps := 5000000) only [go_sem, ↓reduceIte, hlt, List.take_length]
                rw [← List.length_append, ← List.length_append, ← List.length_append, hYS]
                have hy : ys.length < 1000000000 := by
                  rw [← hYS]
                  have : (txP l3).length = l3.length := by unfold txP; simp
                  simp only [List.length_append]; omega
                refine M_loopI (fun i : Nat => ⟨[(0, .yld 999), (66, .vec 17 ys.length), (67, .int .i64 ys.length), (68, .int .i64 i)],
                  [(999, .yl (ys.map eS) ((ys.take i).map eS) false), (17, .vec 9 1 (ys.map eS) 0)]⟩) (fun i => ys.length - i) (fun i => i ≤ ys.length) 0 ?_ ?_
                · simp +contextual (maxSteps := 5000000) only [go_sem, ↓reduceIte]
                  rfl
                · intro i hi
                  by_cases hlt : i < ys.length
                  · obtain ⟨q1, q2⟩ := yl_gen (e := eS) (d := []) hlt
                    simp +contextual (maxSteps := 5000000) only [go_sem, ↓reduceIte, eI_at, eI_set, List.length_set, tn_add, tn_add1, tn_sub, tn_sub1, sh1, sh1b, half_cast, eS_at, hlt]
                    exact ⟨q1, fun b hb => ⟨inR64 (by omega) (by omega), fun _ => ⟨i + 1, ⟨by simp, q2⟩, by omega, by omega⟩⟩⟩
                  · simp +contextual (maxSteps := 5000000) only [go_sem, ↓reduceIte, hlt]
                    rw [show i = ys.length by omega, List.take_length]
theorem fc_texts (d : Dl) : FC Tryz.prog 105 [] [.agg (eDl d)] (.ret (.fn 120 [] [.box (eDl d)])) := by
  unfold eDl
  refine fc_M (fn := Tryz.f105) (C := (tab [] [])) (rs := [2]) mixed (by kernel_rfl) (by kernel_rfl) rfl rfl (by kernel_rfl) (by intro ys h; cases h) ?_
  simp +contextual (maxSteps := 5000000) only [go_sem, ↓reduceIte]
end Go.Proofs.YtknkjakppikjeaaGreat

set_option linter.unusedSimpArgs false
namespace Go.Proofs.YtknkjakppikjeaaGreat
open Go.Tn
set_option maxHeartbeats 8000000
set_option maxRecDepth 100000
/- the document's put -/
def befF (a b : St6) : Bool := decide (a.j < b.j) || (decide (a.j = b.j) && decide (a.q < b.q))
def c_bef (caps args : List D) : Prop × Out := match caps, args with
  | [], [.agg [.int .i64 a, .int .i64 b, .int .i64 c, .int .i64 d, .str e, .str f], .agg [.int .i64 a', .int .i64 b', .int .i64 c', .int .i64 d', .str e', .str f']] => (True, .ret (.bool (befF ⟨a, b, c, d, e, f⟩ ⟨a', b', c', d', e', f'⟩)))
  | _, _ => (False, .ret .any)
theorem fc_bef (a b : St6) : FC Tryz.prog 81 [] [.agg (eD6 a), .agg (eD6 b)] (.ret (.bool (befF a b))) := by
  unfold eD6 befF
  refine fc_M (fn := Tryz.f81) (C := (tab [] [])) (rs := [4]) mixed (by kernel_rfl) (by kernel_rfl) rfl rfl (by kernel_rfl) (by intro ys h; cases h) ?_
  by_cases h1 : a.j < b.j
  · simp +contextual (maxSteps := 5000000) only [go_sem, ↓reduceIte, h1]
  · by_cases h2 : a.j = b.j
    · have h3 : ¬ b.j < b.j := by omega
      simp +contextual (maxSteps := 5000000) only [go_sem, ↓reduceIte, h1, h2, h3]
    · simp +contextual (maxSteps := 5000000) only [go_sem, ↓reduceIte, h1, h2]
theorem st_bef : StC Tryz.prog 81 c_bef := by
  intro caps args; unfold c_bef; split
  · exact fun _ => fc_bef ⟨_, _, _, _, _, _⟩ ⟨_, _, _, _, _, _⟩
  · exact fun h => h.elim
def kAt (l : List St6) (x : St6) : Nat → Nat
  | 0 => 0
  | i + 1 => if befF x (l.getD i default) = true then kAt l x i else i + 1
theorem kAt_le (l : List St6) (x : St6) : ∀ i, kAt l x i ≤ i
  | 0 => Nat.le_refl _
  | i + 1 => by have := kAt_le l x i; unfold kAt; split <;> omega
def putF (l : List St6) (x : St6) : List St6 := l.take (kAt l x l.length) ++ x :: l.drop (kAt l x l.length)
theorem fc_put (l : List St6) (x : St6) (hl : l.length < 1000000000) : FC Tryz.prog 31 [] [.sl 6 (l.map eD6), .agg (eD6 x)] (.own 47 6 ((putF l x).map eD6)) := by
  unfold putF
  have ex : eD6 x = [.int .i64 x.i, .int .i64 x.j, .int .i64 x.p, .int .i64 x.q, .str x.o, .str x.n] := rfl
  refine fc_M (fn := Tryz.f31) (C := (tab [(81, c_bef)] [])) (rs := [4]) mixed (by kernel_rfl) (by kernel_rfl) rfl rfl (by kernel_rfl) (by intro ys h; cases h) ?_
  simp +contextual (maxSteps := 5000000) only [go_sem, ↓reduceIte, ex]
  refine M_loopI (fun i : Nat => ⟨[(0, .sl 6 (l.map eD6)), (3, .loc 3 0), (5, .int .i64 (kAt l x i)), (6, .int .i64 i)], [(3, .blk [.int .i64 x.i, .int .i64 x.j, .int .i64 x.p, .int .i64 x.q, .str x.o, .str x.n] false)]⟩) (fun i => l.length - i) (fun i => i ≤ l.length) 0 ?_ ?_
  · simp +contextual (maxSteps := 5000000) only [go_sem, ↓reduceIte, kAt]
    rfl
  · intro i hi
    have hk := kAt_le l x i
    by_cases hlt : i < l.length
    · have hat := eD6_at l i hlt
      have hb : befF ⟨x.i, x.j, x.p, x.q, x.o, x.n⟩ ⟨(l.getD i default).i, (l.getD i default).j, (l.getD i default).p, (l.getD i default).q, (l.getD i default).o, (l.getD i default).n⟩ = befF x (l.getD i default) := rfl
      have hs : kAt l x (i + 1) = if befF x (l.getD i default) = true then kAt l x i else i + 1 := rfl
      cases q : befF x (l.getD i default)
      · rw [q] at hs
        simp +contextual (maxSteps := 5000000) only [go_sem, ↓reduceIte, eI_at, eI_set, List.length_set, tn_add, tn_add1, tn_sub, tn_sub1, sh1, sh1b, half_cast, hlt, hat, c_bef, st_bef, hb, q]
        refine fun _ => ⟨inR64 (by omega) (by omega), fun _ => ⟨i + 1, ⟨by rw [hs]; simp, by simp⟩, by omega, by omega⟩⟩
      · rw [q] at hs
        simp +contextual (maxSteps := 5000000) only [go_sem, ↓reduceIte, eI_at, eI_set, List.length_set, tn_add, tn_add1, tn_sub, tn_sub1, sh1, sh1b, half_cast, hlt, hat, c_bef, st_bef, hb, q]
        refine fun _ => ⟨inR64 (by omega) (by omega), fun _ => ⟨i + 1, ⟨by rw [hs]; simp, by simp⟩, by omega, by omega⟩⟩
    · obtain rfl : i = l.length := by omega
      simp +contextual (maxSteps := 5000000) only [go_sem, ↓reduceIte, eI_at, eI_set, List.length_set, tn_add, tn_add1, tn_sub, tn_sub1, sh1, sh1b, half_cast, hlt, Nat.lt_irrefl, Int.toNat_zero, Int.reduceToNat, Nat.sub_zero, Nat.le_refl, List.length_drop]
      refine fun _ => ⟨⟨by omega, hk⟩, fun _ => ⟨by omega, fun _ => ⟨by omega, fun _ => ⟨by omega, fun _ => ?_⟩⟩⟩⟩
      have h1 : (l.map eD6).drop (kAt l x l.length) = (l.drop (kAt l x l.length)).map eD6 := by rw [List.map_drop]
      have h2 : (l.map eD6).take (kAt l x l.length) = (l.take (kAt l x l.length)).map eD6 := by rw [List.map_take]
      have h3 : ((l.map eD6).drop (kAt l x l.length)).take (l.length - kAt l x l.length) = (l.drop (kAt l x l.length)).map eD6 := by rw [h1]; exact List.take_of_length_le (by simp)
      rw [h2, h3]
      simp [eD6]
def d6 (r : List D) : St6 := match r with | [.int _ a, .int _ b, .int _ c, .int _ d, .str e, .str f] => ⟨a, b, c, d, e, f⟩ | _ => default
theorem d6_eD6 (l : List St6) : (l.map eD6).map d6 = l := by
  induction l with
  | nil => rfl
  | cons x l ih => rw [List.map_cons, List.map_cons, ih]; rfl
def c_put (caps args : List D) : Prop × Out := match caps, args with
  | [], [.sl 6 rows, .agg [.int .i64 a, .int .i64 b, .int .i64 c, .int .i64 d, .str e, .str f]] => (rows = (rows.map d6).map eD6 ∧ rows.length < 1000000000, .own 47 6 ((putF (rows.map d6) ⟨a, b, c, d, e, f⟩).map eD6))
  | _, _ => (False, .ret .any)
theorem st_put : StC Tryz.prog 31 c_put := by
  intro caps args; unfold c_put; split
  · rename_i rows a b c d e f
    rintro ⟨h1, h2⟩
    have := fc_put (rows.map d6) ⟨a, b, c, d, e, f⟩ (by simpa using h2)
    rw [← h1] at this
    exact this
  · exact fun h => h.elim
end Go.Proofs.YtknkjakppikjeaaGreat

set_option linter.unusedSimpArgs false
namespace Go.Proofs.YtknkjakppikjeaaGreat
open Go.Tn
set_option maxHeartbeats 8000000
set_option maxRecDepth 100000
/- pairs of so many with themselves -/
def ownAt (l : List (Int × Int)) (k : Nat) : Prop := ∀ j, j < k → l.getD j (0, 0) = ((j : Int), (j : Int))
def ownF (l : List (Int × Int)) (n : Int) : Bool := (List.range l.length).all (fun j => decide (l.getD j (0, 0) = ((j : Int), (j : Int)))) && decide ((l.length : Int) = n)
end Go.Proofs.YtknkjakppikjeaaGreat

set_option linter.unusedSimpArgs false
namespace Go.Proofs.YtknkjakppikjeaaGreat
open Go.Tn
set_option maxHeartbeats 8000000
set_option maxRecDepth 100000
theorem fc_EqualS (l k : List (Str)) : FC Tryz.prog 36 [] [.sl 1 (l.map eS), .sl 1 (k.map eS)] (.ret (.bool (decide (l = k)))) := by
  refine fc_M (fn := Tryz.f36) (C := (tab [] [])) (rs := [4]) mixed (by kernel_rfl) (by kernel_rfl) rfl rfl (by kernel_rfl) (by intro ys h; cases h) ?_
  by_cases hlen : l.length = k.length
  · simp +contextual (maxSteps := 5000000) only [go_sem, ↓reduceIte, hlen]
    intro _
    refine M_loopI (fun i : Nat => ⟨[(0, .sl 1 (l.map eS)), (1, .sl 1 (k.map eS)), (11, .sl 1 (l.map eS)), (12, .int .i64 k.length), (13, .int .i64 i)], []⟩) (fun i => l.length - i) (fun i => i ≤ l.length ∧ ∀ j, j < i → l.getD j [] = k.getD j []) 0 ?_ ?_
    · simp +contextual (maxSteps := 5000000) only [go_sem, ↓reduceIte]
      rfl
    · intro i hi
      obtain ⟨hi, ho⟩ := hi
      by_cases hlt : i < k.length
      · have ha := eS_at l i (by omega)
        have hb := eS_at k i hlt
        have hl2 : i < l.length := by omega
        generalize hx : l.getD i [] = x at ha
        generalize hy : k.getD i [] = y at hb
        by_cases q : x = y
        · subst q
          simp +contextual (maxSteps := 5000000) only [go_sem, ↓reduceIte, hlt, hl2, ha, hb, eq_self]
          try intro _
          refine ⟨inR64 (by omega) (by omega), fun _ => ⟨i + 1, by simp, by omega, by omega, fun j hj => ?_⟩⟩
          rcases lt_cases hj with h | rfl
          · exact ho j h
          · rw [hx, hy]
        · have hne : ¬ l = k := fun h => q (by rw [← hx, ← hy, h])
          have hd : decide (l = k) = false := decide_eq_false hne
          rw [hd]
          simp +contextual (maxSteps := 5000000) only [go_sem, ↓reduceIte, hlt, hl2, ha, hb, q]
      · have hd : decide (l = k) = true := decide_eq_true (eq_of_at [] hlen (fun j hj => ho j (by omega)))
        rw [hd]
        have hl3 : ¬ i < l.length := by omega
        simp +contextual (maxSteps := 5000000) only [go_sem, ↓reduceIte, hlt, hl3]
  · have hd : decide (l = k) = false := decide_eq_false (fun h => hlen (by rw [h]))
    rw [hd]
    simp +contextual (maxSteps := 5000000) only [go_sem, ↓reduceIte, hlen]
theorem fc_RefS (l k : List (Str)) : FC Tryz.prog 28 [] [.sl 1 (l.map eS), .sl 1 (k.map eS)] (.ret (.bool (decide (l = k)))) := by
  refine fc_M (fn := Tryz.f28) (C := (tab [] [])) (rs := [4]) mixed (by kernel_rfl) (by kernel_rfl) rfl rfl (by kernel_rfl) (by intro ys h; cases h) ?_
  by_cases hlen : l.length = k.length
  · simp +contextual (maxSteps := 5000000) only [go_sem, ↓reduceIte, hlen]
    intro _
    refine M_loopI (fun i : Nat => ⟨[(0, .sl 1 (l.map eS)), (1, .sl 1 (k.map eS)), (5, .int .i64 i)], []⟩) (fun i => l.length - i) (fun i => i ≤ l.length ∧ ∀ j, j < i → l.getD j [] = k.getD j []) 0 ?_ ?_
    · simp +contextual (maxSteps := 5000000) only [go_sem, ↓reduceIte]
      rfl
    · intro i hi
      obtain ⟨hi, ho⟩ := hi
      by_cases hlt : i < k.length
      · have ha := eS_at l i (by omega)
        have hb := eS_at k i hlt
        have hl2 : i < l.length := by omega
        generalize hx : l.getD i [] = x at ha
        generalize hy : k.getD i [] = y at hb
        by_cases q : x = y
        · subst q
          simp +contextual (maxSteps := 5000000) only [go_sem, ↓reduceIte, hlt, hl2, ha, hb, eq_self]
          try intro _
          refine ⟨inR64 (by omega) (by omega), fun _ => ⟨i + 1, by simp, by omega, by omega, fun j hj => ?_⟩⟩
          rcases lt_cases hj with h | rfl
          · exact ho j h
          · rw [hx, hy]
        · have hne : ¬ l = k := fun h => q (by rw [← hx, ← hy, h])
          have hd : decide (l = k) = false := decide_eq_false hne
          rw [hd]
          simp +contextual (maxSteps := 5000000) only [go_sem, ↓reduceIte, hlt, hl2, ha, hb, q]
      · have hd : decide (l = k) = true := decide_eq_true (eq_of_at [] hlen (fun j hj => ho j (by omega)))
        rw [hd]
        have hl3 : ¬ i < l.length := by omega
        simp +contextual (maxSteps := 5000000) only [go_sem, ↓reduceIte, hlt, hl3]
        try exact fun _ => rfl
  · have hd : decide (l = k) = false := decide_eq_false (fun h => hlen (by rw [h]))
    rw [hd]
    simp +contextual (maxSteps := 5000000) only [go_sem, ↓reduceIte, hlen]
end Go.Proofs.YtknkjakppikjeaaGreat

set_option linter.unusedSimpArgs false
namespace Go.Proofs.YtknkjakppikjeaaGreat
open Go.Tn
set_option maxHeartbeats 8000000
set_option maxRecDepth 100000
def c_EqS (caps args : List D) : Prop × Out := match caps, args with | [], [.sl 1 a, .sl 1 b] => (a = (a.map dS).map eS ∧ b = (b.map dS).map eS, .ret (.bool (decide (a.map dS = b.map dS)))) | _, _ => (False, .ret .any)
theorem st_EqS : StC Tryz.prog 36 c_EqS := by
  intro caps args; unfold c_EqS; split
  · rename_i a b
    rintro ⟨h1, h2⟩
    have := fc_EqualS (a.map dS) (b.map dS)
    rw [← h1, ← h2] at this
    exact this
  · exact fun h => h.elim
def c_own (caps args : List D) : Prop × Out := match caps, args with | [], [.sl 2 a, .int .i64 n] => (a = (a.map dP).map eP ∧ a.length < 1000000000, .ret (.bool (ownF (a.map dP) n))) | _, _ => (False, .ret .any)
def noneF (d : Dl) : Bool := decide (d.A = d.B) && ownF d.cols d.A.length && decide (d.na = d.nb) && ownF d.rows d.na && decide (d.dels.length + d.inss.length + d.sets.length + d.lost.length + d.gain.length = 0)
end Go.Proofs.YtknkjakppikjeaaGreat

set_option linter.unusedSimpArgs false
namespace Go.Proofs.YtknkjakppikjeaaGreat
open Go.Tn
set_option maxHeartbeats 8000000
set_option maxRecDepth 100000
theorem tyErrno : (tyOf Tryz.prog 35) = ⟨.int .i64, [.int .i64 0], [], 0, 0, false, 0, 8⟩ := by kernel_rfl
theorem tfErrno : TyFact Tryz.prog 35 ⟨.int .i64, [.int .i64 0], [], 0, 0, false, 0, 8⟩ := by
  have h := tyOf_fact (P := Tryz.prog) (t := 35) (by rw [tyErrno]; intro h; cases h)
  rwa [tyErrno] at h
theorem dg_Check : DfG Tryz.prog 93 35 := by
  have h0 : (Tryz.prog.funcs[93]?) = some Tryz.f93 := by kernel_rfl
  have hs : (Tryz.prog.funcs[93]?).isSome = true := by rw [h0]; rfl
  refine ⟨⟨Tryz.f93, h0, by kernel_rfl, by kernel_rfl⟩, fun ad w => ?_, fun ad x n w hc hz => ?_⟩
  · refine callsDIn_of_wpSIn (fn := Tryz.f93) h0 rfl hs fun c₀ cs hu => ?_
    apply wpSIn_seq
    apply wpSIn_region
    simp [wpOpsSIn, go_sem, recoverD, hu, Exit.thenS, run_ta_nil tfErrno rfl rfl, Instr.extract, Tryz.f93]
    apply wpSIn_seq
    apply wpSIn_region
    simp [wpOpsSIn, go_sem, Exit.thenS]
    refine wpSIn_cond (t := false) (by simp [Act.eval, Array.replicate]) ?_
    simp only [Bool.false_eq_true, if_false]
    refine wpSIn_of_wpIn rfl (wpIn_skip ?_)
    cases c₀
    simp_all [bodyPostS, results, Tryz.f93]
  · refine callsDIn_of_wpSIn (fn := Tryz.f93) h0 rfl hs fun c₀ cs hu => ?_
    apply wpSIn_seq
    apply wpSIn_region
    simp [wpOpsSIn, go_sem, recoverD, hu, Exit.thenS, run_ta_yes tfErrno rfl, Instr.extract, Tryz.f93]
    apply wpSIn_seq
    apply wpSIn_region
    simp [wpOpsSIn, go_sem, Exit.thenS]
    refine wpSIn_cond (t := true) (by simp [Act.eval, Array.replicate]) ?_
    simp only [if_true]
    apply wpSIn_region
    simp [wpOpsSIn, go_sem, hc, hz, bodyPostS, results, Tryz.f93]
end Go.Proofs.YtknkjakppikjeaaGreat

set_option linter.unusedSimpArgs false
namespace Go.Proofs.YtknkjakppikjeaaGreat
open Go.Tn
set_option maxHeartbeats 8000000
set_option maxRecDepth 100000
def dL (r : List D) : Ln := (iOf (r.headD .any), (rowsOf (r.tail.headD .any)).map dS)
def dSp (r : List D) : Sp := (iOf (r.headD .any), iOf (r.tail.headD .any), sOf (r.tail.tail.headD .any))
theorem dL_eL (l : List Ln) : (l.map eL).map dL = l := by
  induction l with
  | nil => rfl
  | cons x l ih =>
    rw [List.map_cons, List.map_cons, ih]
    simp only [dL, eL, List.headD_cons, List.tail_cons, rowsOf, iOf]
    rw [dS_eS]
theorem dSp_eSp (l : List Sp) : (l.map eSp).map dSp = l := by induction l <;> simp_all [eSp, dSp, iOf, sOf]
def c_mL (caps args : List D) : Prop × Out := match caps, args with
  | [], [.sl 2 rows, .fn g [] [.box [.sl 1 ks]], .fn h [] [.box [.int .i64 w]]] => (((g = 117 ∧ h = 97) ∧ rows = (rows.map dL).map eL ∧ ks = (ks.map dI).map eI) ∧ rows.length < 1000000000 ∧ ks.length < 1000000000, mtO (mtF (isL w) (rows.map dL) (ks.map dI)))
  | _, _ => (False, .ret .any)
theorem st_mL : StC Tryz.prog 98 c_mL := by
  intro caps args; unfold c_mL; split
  · rename_i rows g ks h w
    rintro ⟨⟨⟨rfl, rfl⟩, h1, h2⟩, h3, h4⟩
    have := fc_matchL (rows.map dL) w (ks.map dI) (by simpa using h3) (by simpa using h4)
    rw [← h1, ← h2] at this
    exact this
  · exact fun h => h.elim
def c_mS (caps args : List D) : Prop × Out := match caps, args with
  | [], [.sl 3 rows, .fn g [] [.box [.sl 1 a], .box [.sl 1 b]], .fn h [] []] => (((g = 118 ∧ h = 100) ∧ rows = (rows.map dSp).map eSp ∧ a = (a.map dI).map eI ∧ b = (b.map dI).map eI) ∧ rows.length < 1000000000 ∧ a.length < 1000000000 ∧ b.length < 1000000000, mtO (mtF isS (rows.map dSp) (crF (a.map dI) (b.map dI))))
  | _, _ => (False, .ret .any)
theorem st_mS : StC Tryz.prog 101 c_mS := by
  intro caps args; unfold c_mS; split
  · rename_i rows g a b h
    rintro ⟨⟨⟨rfl, rfl⟩, h1, h2, h5⟩, h3, h4, h6⟩
    have := fc_matchS (rows.map dSp) (a.map dI) (b.map dI) (by simpa using h3) (by simpa using h4) (by simpa using h6)
    rw [← h1, ← h2, ← h5] at this
    exact this
  · exact fun h => h.elim
def c_ord (caps args : List D) : Prop × Out := match caps, args with
  | [], [.agg [.int .i64 a, .int .i64 b, .int .i64 c, .int .i64 d, .str e, .str f], .agg [.int .i64 a', .int .i64 b', .int .i64 c', .int .i64 d', .str e', .str f']] => (True, .ret (.int .i64 (ordF ⟨a, b, c, d, e, f⟩ ⟨a', b', c', d', e', f'⟩)))
  | _, _ => (False, .ret .any)
theorem st_ord : StC Tryz.prog 77 c_ord := by
  intro caps args; unfold c_ord; split
  · exact fun _ => fc_order ⟨_, _, _, _, _, _⟩ ⟨_, _, _, _, _, _⟩
  · exact fun h => h.elim
def c_tx (d : Dl) (caps args : List D) : Prop × Out := match caps, args with
  | [], [x] => (x = .agg (eDl d), .ret (.fn 120 [] [.box (eDl d)]))
  | _, _ => (False, .ret .any)
theorem st_tx (d : Dl) : StC Tryz.prog 105 (c_tx d) := by
  intro caps args; unfold c_tx; split
  · rintro rfl; exact fc_texts d
  · exact fun h => h.elim
def c_tx1 (d : Dl) (caps args : List D) : Prop × Out := match caps, args with
  | [.box cs], [] => (cs = eDl d ∧ okDl d, .seq ((txF d).map eS))
  | _, _ => (False, .ret .any)
theorem st_tx1 (d : Dl) : StC Tryz.prog 120 (c_tx1 d) := by
  intro caps args; unfold c_tx1; split
  · rintro ⟨rfl, h⟩; exact fc_texts1 d h
  · exact fun h => h.elim
def setAt6 (d : Dl) (i : Nat) : St6 := d.sets.getD i default
def okS (d : Dl) (i : Nat) : Bool :=
  let x := setAt6 d i
  decide ((x.i, x.j) ∈ d.rows) && decide ((x.p, x.q) ∈ d.cols) && decide (x.o ≠ x.n) && (decide (i = 0) || decide (ordF (setAt6 d (i - 1)) x < 0))
def goneR (d : Dl) : List Int := rsL (d.rows.map (·.1)) d.na.toNat
def newR' (d : Dl) : List Int := rsL (d.rows.map (·.2)) d.nb.toNat
def goneC (d : Dl) : List Int := rsL (d.cols.map (·.1)) d.A.length
def newC (d : Dl) : List Int := rsL (d.cols.map (·.2)) d.B.length
def chkD (d : Dl) : Int :=
  if ¬ (0 < d.A.length ∧ 0 < d.B.length) then 8
  else if ¬ (onceF d.A = true ∧ onceF d.B = true) then 10
  else if ¬ ((d.A.length ≤ 40 ∧ d.B.length ≤ 40) ∧ d.na ≤ 400 ∧ d.nb ≤ 400) then 7
  else if chk d.cols d.A.length d.B.length ≠ 0 then chk d.cols d.A.length d.B.length
  else if chk d.rows d.na d.nb ≠ 0 then chk d.rows d.na d.nb
  else if ¬ (mtF (isL d.A.length) d.dels (goneR d) = true ∧ mtF (isL d.B.length) d.inss (newR' d) = true) then 13
  else if ¬ (mtF isS d.lost (crF (wiF (goneR d) d.na.toNat) (goneC d)) = true ∧ mtF isS d.gain (crF (wiF (newR' d) d.nb.toNat) (newC d)) = true) then 13
  else if ∃ i, i < d.sets.length ∧ okS d i = false then 13
  else if ∃ s ∈ txF d, 1000 < s.length then 7 else 0
theorem gI (l : List Int) : gndL (l.map eI).flatten = true := gnd_eI l
theorem fc_DCheck (d : Dl) (h : okDl d) (hna : d.na < 1000000000) (hnb : d.nb < 1000000000) : FC Tryz.prog 54 [] [.agg (eDl d)] (.ret (.int .i64 (chkD d))) := by
  have hh := h
  obtain ⟨hA, hB, hco, hro, hde, hin, hse, hlo, hga, hce⟩ := h
  refine fcd_of (fn := Tryz.f54) (g := 93) (et := 35) (rt := 35) (r := 2) (tf := 14) (i := 2) (C := tab [(46, c_Check), (49, c_RestA), (50, c_RestB), (95, c_once), (94, c_need), (96, c_whole), (99, c_Values), (98, c_mL), (103, c_within), (102, c_cross), (101, c_mS), (104, c_contP), (77, c_ord), (105, c_tx d), (120, c_tx1 d)] [] [5002, 5003, 5004, 5005, 5011, 5013, 5014, 5016, 5017, 9013, 9014, 9016, 9017, 9022])
    (hd := ⟨[(1, .loc 1 0), (2, .loc 2 0)], [(1, .blk (eDl d) false), (2, .blk [.int .i64 0] false)]⟩) mixed (by kernel_rfl) (by kernel_rfl) rfl rfl tfErrno rfl ⟨rfl, rfl, rfl⟩ ⟨rfl, rfl, rfl⟩ ⟨by decide, by decide⟩ ⟨by kernel_rfl, by kernel_rfl⟩ (by kernel_rfl) dg_Check ⟨rfl, rfl, trivial⟩ ?_ ?_
  · unfold eDl
    simp +contextual (maxSteps := 5000000) only [go_sem, ↓reduceIte]
  · unfold eDl
    simp +contextual (maxSteps := 5000000) only [go_sem, ↓reduceIte]
    refine M_join (fun _ : Unit => ⟨[(1, .loc 1 0), (2, .loc 2 0)], [(1, .blk (eDl d) false), (2, .blk [.int .i64 0] false)]⟩) (fun _ => 0 < d.A.length ∧ 0 < d.B.length) ?_ ?_
    · have e8 : ¬ (0 < d.A.length ∧ 0 < d.B.length) → 8 = chkD d := fun h => by unfold chkD; rw [if_pos h]
      by_cases a : (0 : Int) < d.A.length
      · by_cases b : (0 : Int) < d.B.length
        · simp +contextual (maxSteps := 5000000) only [go_sem, ↓reduceIte, a, b, c_need, st_need, eDl, finD, resB, panB, panE, locR]
          exact fun _ _ => ⟨(), by omega, by omega⟩
        · simp +contextual (maxSteps := 5000000) only [go_sem, ↓reduceIte, a, b, c_need, st_need, eDl, finD, resB, panB, panE, locR]
          exact fun _ _ => e8 (by omega)
      · simp +contextual (maxSteps := 5000000) only [go_sem, ↓reduceIte, a, c_need, st_need, eDl, finD, resB, panB, panE, locR]
        exact fun _ => e8 (by omega)
    · intro _ p1
      unfold eDl
      simp +contextual (maxSteps := 5000000) only [go_sem, ↓reduceIte]
      refine M_join (fun _ : Unit => ⟨[(1, .loc 1 0), (2, .loc 2 0)], [(1, .blk (eDl d) false), (2, .blk [.int .i64 0] false)]⟩) (fun _ => onceF d.A = true ∧ onceF d.B = true) ?_ ?_
      · have e10 : ¬ (onceF d.A = true ∧ onceF d.B = true) → 10 = chkD d := fun h => by unfold chkD; rw [if_neg (fun h => h p1), if_pos h]
        by_cases a : onceF d.A = true
        · by_cases b : onceF d.B = true
          · simp +contextual (maxSteps := 5000000) only [go_sem, ↓reduceIte, a, b, c_need, st_need, eDl, c_once, st_once, dS_eS, finD, resB, panB, panE, locR]
            exact ⟨by omega, by omega, ⟨(), trivial⟩⟩
          · simp +contextual (maxSteps := 5000000) only [go_sem, ↓reduceIte, a, b, c_need, st_need, eDl, c_once, st_once, dS_eS, finD, resB, panB, panE, locR]
            exact ⟨by omega, by omega, e10 (fun h => b h.2)⟩
        · simp +contextual (maxSteps := 5000000) only [go_sem, ↓reduceIte, a, c_need, st_need, eDl, c_once, st_once, dS_eS, finD, resB, panB, panE, locR]
          exact ⟨by omega, e10 (fun h => a h.1)⟩
      · intro _ p2
        unfold eDl
        simp +contextual (maxSteps := 5000000) only [go_sem, ↓reduceIte]
        refine M_join (fun _ : Unit => ⟨[(1, .loc 1 0), (2, .loc 2 0)], [(1, .blk (eDl d) false), (2, .blk [.int .i64 0] false)]⟩) (fun _ => (d.A.length ≤ 40 ∧ d.B.length ≤ 40) ∧ d.na ≤ 400 ∧ d.nb ≤ 400) ?_ ?_
        · have e7 : ¬ ((d.A.length ≤ 40 ∧ d.B.length ≤ 40) ∧ d.na ≤ 400 ∧ d.nb ≤ 400) → 7 = chkD d := fun h => by unfold chkD; rw [if_neg (fun h => h p1), if_neg (fun h => h p2), if_pos h]
          simp +contextual (maxSteps := 5000000) only [go_sem, ↓reduceIte, c_need, st_need, eDl, finD, resB, panB, panE, locR]
          intro _ _
          split
          · split
            · exact ⟨(), by omega⟩
            · exact e7 (by omega)
          · exact e7 (by omega)
        · intro _ p3
          unfold eDl
          simp +contextual (maxSteps := 5000000) only [go_sem, ↓reduceIte]
          refine M_join (fun _ : Unit => ⟨[(1, .loc 1 0), (2, .loc 2 0), (68, .vec 68 2), (69, .int .i64 2), (70, .int .i64 0)], [(1, .blk (eDl d) false), (2, .blk [.int .i64 0] false), (68, .vec 35 1 ([chk d.cols d.A.length d.B.length, chk d.rows d.na d.nb].map eI) 0)]⟩) (fun _ => True) ?_ ?_
          · simp +contextual (maxSteps := 5000000) only [go_sem, ↓reduceIte, eDl, c_Check, st_Check, dP_eP, eI]
            exact ⟨⟨by omega, by omega, by omega⟩, ⟨by omega, by omega, by omega⟩, ⟨(), rfl⟩⟩
          · intro _ _
            unfold eDl
            simp +contextual (maxSteps := 5000000) only [go_sem, ↓reduceIte]
            obtain ⟨cs, hcs⟩ : ∃ cs, cs = [chk d.cols d.A.length d.B.length, chk d.rows d.na d.nb] := ⟨_, rfl⟩
            have hl : cs.length = 2 := by rw [hcs]; rfl
            have ec : ∀ i, i < 2 → (∀ j, j < i → cs.getD j 0 = 0) → cs.getD i 0 ≠ 0 → cs.getD i 0 = chkD d := fun i hi hz hne => by
              unfold chkD
              rw [if_neg (fun h => h p1), if_neg (fun h => h p2), if_neg (fun h => h p3)]
              have hc : i = 0 ∨ i = 1 := by omega
              rcases hc with rfl | rfl
              · simp only [hcs, List.getD_cons_zero] at hne ⊢
                rw [if_pos hne]
              · have z0 := hz 0 (by omega)
                simp only [hcs, List.getD_cons_zero, List.getD_cons_succ] at hne z0 ⊢
                rw [if_neg (fun h => h z0), if_pos hne]
            refine M_loopI (fun i : Nat => ⟨[(1, .loc 1 0), (2, .loc 2 0), (68, .vec 68 2), (69, .int .i64 (2 : Nat)), (70, .int .i64 i)], [(1, .blk (eDl d) false), (2, .blk [.int .i64 0] false), (68, .vec 35 1 (cs.map eI) 0)]⟩)
              (fun i => 2 - i) (fun i => i ≤ 2 ∧ ∀ j, j < i → cs.getD j 0 = 0) 0 ?_ ?_
            · simp +contextual (maxSteps := 5000000) only [go_sem, ↓reduceIte, eI, hcs, eDl]
              exact ⟨rfl, rfl⟩
            · intro i hi
              by_cases hlt : i < 2
              · have hat := eI_at cs i (by omega)
                simp +contextual (maxSteps := 5000000) only [go_sem, ↓reduceIte, hat, hlt, hl, eDl, c_need, st_need, finD, resB, panB, panE, locR]
                obtain ⟨_, hz⟩ := hi
                split
                · rename_i hze
                  refine ⟨inR64 (by omega) (by omega), fun _ => ⟨i + 1, by simp, by omega, by omega, fun j hj => ?_⟩⟩
                  rcases lt_cases hj with h | rfl
                  · exact hz j h
                  · exact hze
                · rename_i hne
                  exact ec i hlt hz hne
              · obtain ⟨_, hz⟩ := hi
                have z0 := hz 0 (by omega)
                have z1 := hz 1 (by omega)
                simp only [hcs, List.getD_cons_zero, List.getD_cons_succ] at z0 z1
                simp +contextual (maxSteps := 5000000) only [go_sem, ↓reduceIte, hlt, hl, eDl, c_RestA, st_RestA, c_RestB, st_RestB, dP_eP, gI]
                refine ⟨⟨by omega, by omega⟩, ⟨by omega, by omega⟩, ?_⟩
                refine M_join (fun _ : Unit => ⟨[(1, .loc 1 0), (2, .loc 2 0), (5, .sl 1 ((goneR d).map eI)), (6, .sl 1 ((newR' d).map eI)), (7, .sl 1 ((goneC d).map eI)), (8, .sl 1 ((newC d).map eI))], [(1, .blk (eDl d) false), (2, .blk [.int .i64 0] false)]⟩) (fun _ => True) ?_ ?_
                · simp +contextual (maxSteps := 5000000) only [go_sem, ↓reduceIte, eDl, c_RestA, st_RestA, c_RestB, st_RestB, dP_eP, gI]
                  exact ⟨⟨by omega, by omega⟩, ⟨by omega, by omega⟩, ⟨(), rfl, rfl, rfl, rfl⟩⟩
                · intro _ _
                  unfold eDl
                  simp +contextual (maxSteps := 5000000) only [go_sem, ↓reduceIte]
                  have base : chkD d = if ¬ (mtF (isL d.A.length) d.dels (goneR d) = true ∧ mtF (isL d.B.length) d.inss (newR' d) = true) then 13
                      else if ¬ (mtF isS d.lost (crF (wiF (goneR d) d.na.toNat) (goneC d)) = true ∧ mtF isS d.gain (crF (wiF (newR' d) d.nb.toNat) (newC d)) = true) then 13
                      else if ∃ i, i < d.sets.length ∧ okS d i = false then 13
                      else if ∃ s ∈ txF d, 1000 < s.length then 7 else 0 := by
                    conv => lhs; unfold chkD
                    rw [if_neg (fun h => h p1), if_neg (fun h => h p2), if_neg (fun h => h p3), if_neg (fun h => h z0), if_neg (fun h => h z1)]
                  have l1 : (goneR d).length < 1000000000 := Nat.lt_of_le_of_lt (rsL_len _ _) (by omega)
                  have l2 : (newR' d).length < 1000000000 := Nat.lt_of_le_of_lt (rsL_len _ _) (by omega)
                  have l3 : (goneC d).length < 1000000000 := Nat.lt_of_le_of_lt (rsL_len _ _) (by omega)
                  have l4 : (newC d).length < 1000000000 := Nat.lt_of_le_of_lt (rsL_len _ _) (by omega)
                  refine M_join (fun _ : Unit => ⟨[(1, .loc 1 0), (2, .loc 2 0), (5, .sl 1 ((goneR d).map eI)), (6, .sl 1 ((newR' d).map eI)), (7, .sl 1 ((goneC d).map eI)), (8, .sl 1 ((newC d).map eI)), (9, .fn 96 [] [])], [(1, .blk (eDl d) false), (2, .blk [.int .i64 0] false)]⟩) (fun _ => mtF (isL d.A.length) d.dels (goneR d) = true) ?_ ?_
                  · have e13 : ¬ mtF (isL d.A.length) d.dels (goneR d) = true → 13 = chkD d := fun h => by rw [base, if_pos (fun h' => h h'.1)]
                    simp +contextual (maxSteps := 5000000) only [go_sem, ↓reduceIte, eDl, c_Values, st_Values, c_whole, st_whole, c_mL, st_mL, dL_eL, dI_eI, mtO, finD, resB, panB, panE, locR]
                    refine ⟨?_, ?_⟩
                    · show lastA _ = true
                      kernel_rfl
                    refine ⟨⟨by omega, l1⟩, ?_⟩
                    split
                    · exact ⟨(), trivial⟩
                    · rename_i h; exact e13 h
                  · intro _ p4
                    unfold eDl
                    simp +contextual (maxSteps := 5000000) only [go_sem, ↓reduceIte]
                    refine M_join (fun _ : Unit => ⟨[(1, .loc 1 0), (2, .loc 2 0), (5, .sl 1 ((goneR d).map eI)), (6, .sl 1 ((newR' d).map eI)), (7, .sl 1 ((goneC d).map eI)), (8, .sl 1 ((newC d).map eI))], [(1, .blk (eDl d) false), (2, .blk [.int .i64 0] false)]⟩) (fun _ => mtF (isL d.B.length) d.inss (newR' d) = true) ?_ ?_
                    · have e13 : ¬ mtF (isL d.B.length) d.inss (newR' d) = true → 13 = chkD d := fun h => by rw [base, if_pos (fun h' => h h'.2)]
                      simp +contextual (maxSteps := 5000000) only [go_sem, ↓reduceIte, eDl, c_Values, st_Values, c_whole, st_whole, c_mL, st_mL, dL_eL, dI_eI, mtO, finD, resB, panB, panE, locR]
                      refine ⟨?_, ?_⟩
                      · show lastA _ = true
                        kernel_rfl
                      refine ⟨⟨by omega, l2⟩, ?_⟩
                      split
                      · exact ⟨(), trivial⟩
                      · rename_i h; exact e13 h
                    · intro _ p5
                      unfold eDl
                      simp +contextual (maxSteps := 5000000) only [go_sem, ↓reduceIte]
                      have base2 : chkD d = if ¬ (mtF isS d.lost (crF (wiF (goneR d) d.na.toNat) (goneC d)) = true ∧ mtF isS d.gain (crF (wiF (newR' d) d.nb.toNat) (newC d)) = true) then 13
                          else if ∃ i, i < d.sets.length ∧ okS d i = false then 13
                          else if ∃ s ∈ txF d, 1000 < s.length then 7 else 0 := by
                        rw [base, if_neg (fun h => h ⟨p4, p5⟩)]
                      have l5 : (wiF (goneR d) d.na.toNat).length < 1000000000 := Nat.lt_of_le_of_lt (rsL_len _ _) (by omega)
                      have l6 : (wiF (newR' d) d.nb.toNat).length < 1000000000 := Nat.lt_of_le_of_lt (rsL_len _ _) (by omega)
                      refine M_join (fun _ : Unit => ⟨[(1, .loc 1 0), (2, .loc 2 0), (5, .sl 1 ((goneR d).map eI)), (6, .sl 1 ((newR' d).map eI)), (7, .sl 1 ((goneC d).map eI)), (8, .sl 1 ((newC d).map eI)), (10, .fn 100 [] [])], [(1, .blk (eDl d) false), (2, .blk [.int .i64 0] false)]⟩) (fun _ => mtF isS d.lost (crF (wiF (goneR d) d.na.toNat) (goneC d)) = true) ?_ ?_
                      · have e13 : ¬ mtF isS d.lost (crF (wiF (goneR d) d.na.toNat) (goneC d)) = true → 13 = chkD d := fun h => by rw [base2, if_pos (fun h' => h h'.1)]
                        simp +contextual (maxSteps := 5000000) only [go_sem, ↓reduceIte, eDl, c_within, st_within, c_cross, st_cross, c_mS, st_mS, dSp_eSp, dI_eI, gI, mtO, finD, resB, panB, panE, locR]
                        refine ⟨?_, ?_⟩
                        · show lastA _ = true
                          kernel_rfl
                        refine ⟨⟨l1, by omega⟩, ⟨by omega, l5, l3⟩, ?_⟩
                        split
                        · exact ⟨(), trivial⟩
                        · rename_i h; exact e13 h
                      · intro _ p6
                        unfold eDl
                        simp +contextual (maxSteps := 5000000) only [go_sem, ↓reduceIte]
                        refine M_join (fun _ : Unit => ⟨[(1, .loc 1 0), (2, .loc 2 0)], [(1, .blk (eDl d) false), (2, .blk [.int .i64 0] false)]⟩) (fun _ => mtF isS d.gain (crF (wiF (newR' d) d.nb.toNat) (newC d)) = true) ?_ ?_
                        · have e13 : ¬ mtF isS d.gain (crF (wiF (newR' d) d.nb.toNat) (newC d)) = true → 13 = chkD d := fun h => by rw [base2, if_pos (fun h' => h h'.2)]
                          simp +contextual (maxSteps := 5000000) only [go_sem, ↓reduceIte, eDl, c_within, st_within, c_cross, st_cross, c_mS, st_mS, dSp_eSp, dI_eI, gI, mtO, finD, resB, panB, panE, locR]
                          refine ⟨?_, ?_⟩
                          · show lastA _ = true
                            kernel_rfl
                          refine ⟨⟨l2, by omega⟩, ⟨by omega, l6, l4⟩, ?_⟩
                          split
                          · exact ⟨(), trivial⟩
                          · rename_i h; exact e13 h
                        · intro _ p7
                          have base3 : chkD d = if ∃ i, i < d.sets.length ∧ okS d i = false then 13
                              else if ∃ s ∈ txF d, 1000 < s.length then 7 else 0 := by
                            rw [base2, if_neg (fun h => h ⟨p6, p7⟩)]
                          unfold eDl
                          simp +contextual (maxSteps := 5000000) only [go_sem, ↓reduceIte]
                          intro _
                          refine M_loopI (fun i : Nat => ⟨[(1, .loc 1 0), (2, .loc 2 0), (142, .sl 6 (d.sets.map eD6)), (143, .int .i64 d.sets.length), (144, .int .i64 i)], [(1, .blk (eDl d) false), (2, .blk [.int .i64 0] false)]⟩) (fun i => d.sets.length - i) (fun i => i ≤ d.sets.length ∧ ∀ j, j < i → okS d j = true) 0 ?_ ?_
                          · simp +contextual (maxSteps := 5000000) only [go_sem, ↓reduceIte, eDl]
                            rfl
                          · intro i hi
                            obtain ⟨hi, hok⟩ := hi
                            by_cases hlt : i < d.sets.length
                            · have hat := eD6_at d.sets i hlt
                              have hat2 := eD6_at d.sets (i - 1) (by omega)
                              have eb : okS d i = false → 13 = chkD d := fun h => by rw [base3, if_pos ⟨i, hlt, h⟩]
                              have eg : okS d i = true → ∀ j, j < i + 1 → okS d j = true := fun h j hj => by
                                rcases lt_cases hj with h' | rfl
                                · exact hok j h'
                                · exact h
                              have oks : okS d i = (decide (((d.sets.getD i default).i, (d.sets.getD i default).j) ∈ d.rows) && decide (((d.sets.getD i default).p, (d.sets.getD i default).q) ∈ d.cols) && decide ((d.sets.getD i default).o ≠ (d.sets.getD i default).n) && (decide (i = 0) || decide (ordF (d.sets.getD (i - 1) default) (d.sets.getD i default) < 0))) := rfl
                              generalize hx : d.sets.getD i default = x at hat oks
                              generalize hy : d.sets.getD (i - 1) default = y at hat2 oks
                              by_cases q1 : (x.i, x.j) ∈ d.rows
                              · by_cases q2 : (x.p, x.q) ∈ d.cols
                                · by_cases q3 : x.o = x.n
                                  · simp +contextual (maxSteps := 5000000) only [go_sem, ↓reduceIte, eI_at, eI_set, List.length_set, tn_add, tn_add1, tn_sub, tn_sub1, sh1, sh1b, half_cast, hat, hlt, eDl, c_contP, st_contP, dP_eP, q1, q2, q3, c_need, st_need, finD, resB, panB, panE, locR]
                                    refine ⟨by omega, by omega, ?_, ?_⟩
                                    · show lastA _ = true
                                      kernel_rfl
                                    exact eb (by rw [oks, q3]; simp)
                                  · by_cases q4 : i = 0
                                    · subst q4
                                      simp +contextual (maxSteps := 5000000) only [go_sem, ↓reduceIte, eI_at, eI_set, List.length_set, tn_add, tn_add1, tn_sub, tn_sub1, sh1, sh1b, half_cast, hat, hlt, eDl, c_contP, st_contP, dP_eP, q1, q2, q3, z0, c_need, st_need, finD, resB, panB, panE, locR, Int.toNat_zero, Int.reduceToNat, Nat.sub_zero, Nat.le_refl]
                                      refine ⟨by omega, by omega, ?_, ?_⟩
                                      · show lastA _ = true
                                        kernel_rfl
                                      rw [if_neg (by simp)]
                                      exact ⟨inR64 (by omega) (by omega), fun _ => ⟨0 + 1, by simp, by omega, by omega, eg (by rw [oks, decide_eq_true q1, decide_eq_true q2]; simp [q3])⟩⟩
                                    · simp +contextual (maxSteps := 5000000) only [go_sem, ↓reduceIte, eI_at, eI_set, List.length_set, tn_add, tn_add1, tn_sub, tn_sub1, sh1, sh1b, half_cast, hat, hat2, hlt, eDl, c_contP, st_contP, dP_eP, q1, q2, q3, q4, c_ord, st_ord, c_need, st_need, finD, resB, panB, panE, locR]
                                      refine ⟨by omega, by omega, ?_, ?_⟩
                                      · show lastA _ = true
                                        kernel_rfl
                                      rw [if_pos (by omega)]
                                      refine ⟨inR64 (by omega) (by omega), fun _ => ⟨⟨by omega, by omega⟩, fun _ => ?_⟩⟩
                                      split
                                      · rename_i q5
                                        have q5' : ordF y x < 0 := q5
                                        exact ⟨inR64 (by omega) (by omega), fun _ => ⟨i + 1, by simp, by omega, by omega, eg (by rw [oks, decide_eq_true q1, decide_eq_true q2, decide_eq_true q5']; simp [q3])⟩⟩
                                      · rename_i q5
                                        have q5' : ¬ ordF y x < 0 := q5
                                        exact eb (by rw [oks, decide_eq_false q5']; simp [q4])
                                · simp +contextual (maxSteps := 5000000) only [go_sem, ↓reduceIte, eI_at, eI_set, List.length_set, tn_add, tn_add1, tn_sub, tn_sub1, sh1, sh1b, half_cast, hat, hlt, eDl, c_contP, st_contP, dP_eP, q1, q2, c_need, st_need, finD, resB, panB, panE, locR]
                                  exact ⟨by omega, by omega, eb (by rw [oks, decide_eq_false q2]; simp)⟩
                              · simp +contextual (maxSteps := 5000000) only [go_sem, ↓reduceIte, eI_at, eI_set, List.length_set, tn_add, tn_add1, tn_sub, tn_sub1, sh1, sh1b, half_cast, hat, hlt, eDl, c_contP, st_contP, dP_eP, q1, c_need, st_need, finD, resB, panB, panE, locR]
                                exact ⟨by omega, eb (by rw [oks, decide_eq_false q1]; simp)⟩
                            · have base4 : chkD d = if ∃ s ∈ txF d, 1000 < s.length then 7 else 0 := by
                                rw [base3, if_neg]
                                rintro ⟨j, hj, h⟩
                                rw [hok j (by omega)] at h; cases h
                              have ht := st_tx d
                              simp +contextual (maxSteps := 5000000) only [go_sem, ↓reduceIte, hlt, eDl, c_tx, ht]
                              have ht1 := st_tx1 d
                              refine M_range (f := 120) (caps := [.box (eDl d)]) (ys := (txF d).map eS) (pre := (c_tx1 d [.box (eDl d)] []).1) ?_ ?_ ?_ (σ := Unit) [(2, .loc 2 0)] (fun j _ => [(2, .blk [.int .i64 0] false)]) (fun j _ => j ≤ (txF d).length ∧ ∀ k, k < j → ((txF d).getD k []).length ≤ 1000) () ?_ ?_ ?_ ?_
                              · simp +contextual (maxSteps := 5000000) only [go_sem, ↓reduceIte, eDl]
                              · simp +contextual (maxSteps := 5000000) only [go_sem, ↓reduceIte, c_tx1, eDl]
                              · simp +contextual (maxSteps := 5000000) only [go_sem, ↓reduceIte, c_tx1, ht1, eDl]
                                exact hh
                              · simp +contextual (maxSteps := 5000000) only [go_sem, ↓reduceIte]
                                intro y hy
                                obtain ⟨x, _, rfl⟩ := List.mem_map.1 hy
                                rfl
                              · simp +contextual (maxSteps := 5000000) only [go_sem, ↓reduceIte]
                              · intro j _ hj hlt2
                                obtain ⟨hj, hm⟩ := hj
                                have hlt3 : j < (txF d).length := by simpa using hlt2
                                have hY : ((txF d).map eS).getD j [] = [.str ((txF d).getD j [])] := eS_at (txF d) j hlt3
                                rw [hY]
                                by_cases q : ((((txF d).getD j []).length : Nat) : Int) ≤ 1000
                                · simp +contextual (maxSteps := 5000000) only [go_sem, ↓reduceIte, putPs, c_need, st_need, q, finD, resB, panB, panE, locR]
                                  refine fun _ => ⟨(), by omega, fun k hk => ?_⟩
                                  rcases lt_cases hk with h | rfl
                                  · exact hm k h
                                  · omega
                                · simp +contextual (maxSteps := 5000000) only [go_sem, ↓reduceIte, putPs, c_need, st_need, q, finD, resB, panB, panE, locR]
                                  refine fun _ => ?_
                                  rw [base4, if_pos ⟨_, getD_mem (d := ([] : Str)) hlt3, by omega⟩]
                              · intro _ hs
                                simp +contextual (maxSteps := 5000000) only [go_sem, ↓reduceIte, finD, resB, panB, panE, locR]
                                obtain ⟨_, hm⟩ := hs
                                rw [base4, if_neg]
                                rintro ⟨x, hx, hlen⟩
                                obtain ⟨k, hk, e⟩ := List.getElem_of_mem hx
                                have := hm k (by simpa using hk)
                                rw [List.getD_eq_getElem?_getD, List.getElem?_eq_getElem hk, Option.getD_some, e] at this
                                omega
end Go.Proofs.YtknkjakppikjeaaGreat

set_option linter.unusedSimpArgs false
namespace Go.Proofs.YtknkjakppikjeaaGreat
open Go.Tn
set_option maxHeartbeats 8000000
set_option maxRecDepth 100000
/- the longest text -/
def mxL (l : List Str) : Nat := l.foldl (fun n s => max n s.length) 0
theorem mxL_snoc (l : List Str) (x : Str) : mxL (l ++ [x]) = max (mxL l) x.length := by simp [mxL]
theorem mxL_take {l : List Str} {P : List Str} {i : Nat} (h : i < l.length) : mxL (P ++ l.take (i + 1)) = max (mxL (P ++ l.take i)) (l.getD i []).length := by
  rw [← mxL_snoc, List.append_assoc, List.take_add_one, List.getElem?_eq_getElem h, List.getD_eq_getElem?_getD, List.getElem?_eq_getElem h]; rfl
structure okT (d : Dl) : Prop where
  A : d.A.length < 2000000
  B : d.B.length < 2000000
  cols : d.cols.length < 2000000
  rows : d.rows.length < 2000000
  dels : d.dels.length < 2000000
  inss : d.inss.length < 2000000
  sets : d.sets.length < 2000000
  lost : d.lost.length < 2000000
  gain : d.gain.length < 2000000
  cells : (txL (d.dels ++ d.inss)).length < 2000000
  texts : ∀ s ∈ txF d, s.length < 2000000
theorem fc_longest (d : Dl) (h : okT d) : FC Tryz.prog 20 [] [.agg (eDl d)] (.ret (.int .i64 (mxL (txF d)))) := by
  obtain ⟨hA, hB, hco, hro, hde, hin, hse, hlo, hga, hce, _⟩ := h
  unfold eDl
  refine fc_M (fn := Tryz.f20) (C := (tab [] [] [8010, 8022])) (rs := [2]) mixed (by kernel_rfl) (by kernel_rfl) rfl rfl (by kernel_rfl) (by intro ys h; cases h) ?_
  simp +contextual (maxSteps := 5000000) only [go_sem, ↓reduceIte]
  refine M_loopI (fun i : Nat => ⟨[(1, .loc 1 0), (3, .int .i64 (mxL (d.A.take i))), (4, .int .i64 i)], [(1, .blk (eDl d) false)]⟩) (fun i => d.A.length - i) (fun i => i ≤ d.A.length) 0 ?_ ?_
  · simp +contextual (maxSteps := 5000000) only [go_sem, ↓reduceIte, eDl]
    exact ⟨rfl, rfl⟩
  intro i hi
  by_cases hlt : i < d.A.length
  · have hat := eS_at d.A i hlt
    have hm := mxL_take (P := []) hlt
    simp only [List.nil_append] at hm
    simp +contextual (maxSteps := 5000000) only [go_sem, ↓reduceIte, hlt, hat, eDl]
    exact fun _ _ => ⟨inR64 (by omega) (by omega), fun _ => ⟨i + 1, ⟨by rw [hm]; omega, by simp⟩, by omega, by omega⟩⟩
  obtain rfl : i = d.A.length := by omega
  simp +contextual (maxSteps := 5000000) only [go_sem, ↓reduceIte, eDl, hlt, Nat.lt_irrefl, List.take_length]
  clear hlt hi
  refine fun _ => M_loopI (fun i : Nat => ⟨[(1, .loc 1 0), (3, .int .i64 (mxL (d.A ++ d.B.take i))), (5, .int .i64 i)], [(1, .blk (eDl d) false)]⟩) (fun i => d.B.length - i) (fun i => i ≤ d.B.length) 0 ?_ ?_
  · simp +contextual (maxSteps := 5000000) only [go_sem, ↓reduceIte, eDl]
    rfl
  intro i hi
  by_cases hlt : i < d.B.length
  · have hat := eS_at d.B i hlt
    have hm := mxL_take (P := d.A) hlt
    simp +contextual (maxSteps := 5000000) only [go_sem, ↓reduceIte, hlt, hat, eDl]
    exact fun _ _ => ⟨inR64 (by omega) (by omega), fun _ => ⟨i + 1, ⟨by rw [hm]; omega, by simp⟩, by omega, by omega⟩⟩
  obtain rfl : i = d.B.length := by omega
  simp +contextual (maxSteps := 5000000) only [go_sem, ↓reduceIte, eDl, hlt, Nat.lt_irrefl, List.take_length]
  refine fun _ => ⟨by omega, fun _ => ⟨by omega, fun _ => ?_⟩⟩
  have e1 : d.dels.length + d.inss.length = (d.dels ++ d.inss).length := by simp
  have e2 : txF d = d.A ++ d.B ++ txL (d.dels ++ d.inss) ++ txS d.sets ++ txP (d.lost ++ d.gain) := rfl
  have e3 : d.dels.map eL ++ d.inss.map eL = (d.dels ++ d.inss).map eL := by simp
  have hll : (d.dels ++ d.inss).length < 4000000 := by simp; omega
  rw [e2, e1, e3]
  clear e1 e2 e3
  generalize d.A ++ d.B = P0
  generalize hL : d.dels ++ d.inss = L at hce hll ⊢
  refine M_loopI (fun i : Nat => ⟨[(1, .loc 1 0), (3, .int .i64 (mxL (P0 ++ txL (L.take i)))), (6, .vec 42 L.length), (7, .int .i64 i)], [(1, .blk (eDl d) false), (42, .vec 52 2 (L.map eL) 0)]⟩) (fun i => L.length - i) (fun i => i ≤ L.length) 0 ?_ ?_
  · simp +contextual (maxSteps := 5000000) only [go_sem, ↓reduceIte, eDl, txL, List.flatMap_nil]
    rfl
  intro i hi
  by_cases hlt : i < L.length
  · have hat := eL_at L i hlt
    simp +contextual (maxSteps := 5000000) only [go_sem, ↓reduceIte, hlt, hat, eDl]
    have ht : txL (L.take (i + 1)) = txL (L.take i) ++ (L.getD i (0, [])).2 := flat_succ (d := (0, [])) (·.2) hlt
    generalize L.getD i (0, []) = x at hat ht
    refine M_loopI (fun k : Nat => ⟨[(1, .loc 1 0), (3, .int .i64 (mxL (P0 ++ txL (L.take i) ++ x.2.take k))), (6, .vec 42 L.length), (7, .int .i64 i), (8, .int .i64 k)], [(1, .blk (eDl d) false), (42, .vec 52 2 (L.map eL) 0)]⟩) (fun k => x.2.length - k) (fun k => k ≤ x.2.length) 0 ?_ ?_
    · simp +contextual (maxSteps := 5000000) only [go_sem, ↓reduceIte, eDl]
      rfl
    intro k hk
    by_cases hlk : k < x.2.length
    · have hat2 := eS_at x.2 k hlk
      have hm := mxL_take (P := P0 ++ txL (L.take i)) hlk
      simp +contextual (maxSteps := 5000000) only [go_sem, ↓reduceIte, hlt, hlk, hat, hat2, eDl]
      exact fun _ _ => ⟨inR64 (by omega) (by omega), fun _ => ⟨k + 1, ⟨by rw [hm]; omega, by simp⟩, by omega, by omega⟩⟩
    · obtain rfl : k = x.2.length := by omega
      simp +contextual (maxSteps := 5000000) only [go_sem, ↓reduceIte, hlt, hat, Nat.lt_irrefl, eDl]
      exact fun _ => ⟨inR64 (by omega) (by omega), fun _ => ⟨i + 1, ⟨by rw [ht, List.take_length, List.append_assoc], by simp⟩, by omega, by omega⟩⟩
  obtain rfl : i = L.length := by omega
  simp +contextual (maxSteps := 5000000) only [go_sem, ↓reduceIte, eDl, hlt, Nat.lt_irrefl, List.take_length]
  generalize P0 ++ txL L = P1
  clear hce hll hlt hi hL
  refine M_loopI (fun i : Nat => ⟨[(1, .loc 1 0), (3, .int .i64 (mxL (P1 ++ txS (d.sets.take i)))), (9, .int .i64 i)], [(1, .blk (eDl d) false)]⟩) (fun i => d.sets.length - i) (fun i => i ≤ d.sets.length) 0 ?_ ?_
  · simp +contextual (maxSteps := 5000000) only [go_sem, ↓reduceIte, eDl, txS, List.flatMap_nil]
    rfl
  intro i hi
  by_cases hlt : i < d.sets.length
  · have hat := eD6_at d.sets i hlt
    have ht : txS (d.sets.take (i + 1)) = txS (d.sets.take i) ++ [(d.sets.getD i default).o, (d.sets.getD i default).n] := flat_succ (d := default) (fun s : St6 => [s.o, s.n]) hlt
    have hm : mxL (P1 ++ txS (d.sets.take (i + 1))) = max (max (mxL (P1 ++ txS (d.sets.take i))) (d.sets.getD i default).o.length) (d.sets.getD i default).n.length := by
      rw [ht, ← mxL_snoc, ← mxL_snoc]; simp
    simp +contextual (maxSteps := 5000000) only [go_sem, ↓reduceIte, hlt, hat, eDl]
    exact fun _ => ⟨inR64 (by omega) (by omega), fun _ => ⟨i + 1, ⟨by rw [hm]; omega, by simp⟩, by omega, by omega⟩⟩
  obtain rfl : i = d.sets.length := by omega
  simp +contextual (maxSteps := 5000000) only [go_sem, ↓reduceIte, eDl, hlt, Nat.lt_irrefl, List.take_length]
  refine fun _ => ⟨by omega, fun _ => ⟨by omega, fun _ => ?_⟩⟩
  have e1 : d.lost.length + d.gain.length = (d.lost ++ d.gain).length := by simp
  have e3 : d.lost.map eSp ++ d.gain.map eSp = (d.lost ++ d.gain).map eSp := by simp
  have hll : (d.lost ++ d.gain).length < 4000000 := by simp; omega
  rw [e1, e3]
  clear e1 e3
  generalize P1 ++ txS d.sets = P2
  generalize hL : d.lost ++ d.gain = L at hll ⊢
  refine M_loopI (fun i : Nat => ⟨[(1, .loc 1 0), (3, .int .i64 (mxL (P2 ++ txP (L.take i)))), (10, .vec 100 L.length), (11, .int .i64 i)], [(1, .blk (eDl d) false), (100, .vec 71 3 (L.map eSp) 0)]⟩) (fun i => L.length - i) (fun i => i ≤ L.length) 0 ?_ ?_
  · simp +contextual (maxSteps := 5000000) only [go_sem, ↓reduceIte, eDl, txP, List.map_nil]
    rfl
  intro i hi
  by_cases hlt : i < L.length
  · have hat := eSp_at L i hlt
    have hm : mxL (P2 ++ txP (L.take (i + 1))) = max (mxL (P2 ++ txP (L.take i))) (L.getD i (0, 0, [])).2.2.length := by
      rw [txP_succ hlt, ← mxL_snoc]; simp
    simp +contextual (maxSteps := 5000000) only [go_sem, ↓reduceIte, hlt, hat, eDl]
    exact fun _ => ⟨inR64 (by omega) (by omega), fun _ => ⟨i + 1, ⟨by rw [hm]; omega, by simp⟩, by omega, by omega⟩⟩
  obtain rfl : i = L.length := by omega
  simp +contextual (maxSteps := 5000000) only [go_sem, ↓reduceIte, eDl, hlt, Nat.lt_irrefl, List.take_length]
theorem mxL_lt {l : List Str} {b : Nat} (hb : 0 < b) (h : ∀ s ∈ l, s.length < b) : mxL l < b := by
  have gen : ∀ (l : List Str) (n : Nat), n < b → (∀ s ∈ l, s.length < b) → l.foldl (fun n s => max n s.length) n < b := by
    intro l
    induction l with
    | nil => intro n hn _; exact hn
    | cons s l ih => intro n hn h; exact ih _ (by have := h s (by simp); show max n s.length < b; omega) (fun x hx => h x (List.mem_cons_of_mem _ hx))
  exact gen l 0 hb h
def c_longest (d : Dl) (caps args : List D) : Prop × Out := match caps, args with
  | [], [x] => (x = .agg (eDl d), .ret (.int .i64 (mxL (txF d))))
  | _, _ => (False, .ret .any)
theorem st_longest {d : Dl} (h : okT d) : StC Tryz.prog 20 (c_longest d) := by
  intro caps args; unfold c_longest; split
  · rintro rfl; exact fc_longest d h
  · exact fun h => h.elim
def cntN (d : Dl) : Nat := d.A.length + d.B.length + d.cols.length + d.rows.length + d.dels.length + d.inss.length + d.sets.length + d.lost.length + d.gain.length
def fewF (d : Dl) : Bool := decide (cntN d ≤ 300 ∧ d.na ≤ 60 ∧ d.nb ≤ 60) && decide (mxL (txF d) + (txL d.dels).length + (txL d.inss).length ≤ 2000)
theorem fc_Few (d : Dl) (h : okT d) : FC Tryz.prog 7 [] [.agg (eDl d)] (.ret (.bool (fewF d))) := by
  have hl := st_longest h
  have hmx := mxL_lt (by omega) h.texts
  obtain ⟨hA, hB, hco, hro, hde, hin, hse, hlo, hga, hce, _⟩ := h
  unfold eDl
  refine fc_M (fn := Tryz.f7) (C := (tab [(20, c_longest d)] [] [5001])) (rs := [2]) mixed (by kernel_rfl) (by kernel_rfl) rfl rfl (by kernel_rfl) (by intro ys h; cases h) ?_
  simp +contextual (maxSteps := 5000000) only [go_sem, ↓reduceIte]
  refine M_join (fun _ : Unit => ⟨[(1, .loc 1 0), (3, .int .i64 (cntN d : Nat))], [(1, .blk (eDl d) false)]⟩) (fun _ => True) ?_ ?_
  · simp +contextual (maxSteps := 5000000) only [go_sem, ↓reduceIte, eDl, cntN]
    repeat' first | (refine ⟨inR64 (by omega) (by omega), ?_⟩) | intro _
    refine ⟨(), ?_⟩
    omega
  intro _ _
  unfold fewF eDl
  by_cases q1 : (300 : Int) < (cntN d : Nat)
  · have e : decide (cntN d ≤ 300 ∧ d.na ≤ 60 ∧ d.nb ≤ 60) = false := decide_eq_false (by omega)
    rw [e]
    simp +contextual (maxSteps := 5000000) only [go_sem, ↓reduceIte, q1]
  by_cases q2 : 60 < d.na
  · have e : decide (cntN d ≤ 300 ∧ d.na ≤ 60 ∧ d.nb ≤ 60) = false := decide_eq_false (by omega)
    rw [e]
    simp +contextual (maxSteps := 5000000) only [go_sem, ↓reduceIte, q1, q2]
  by_cases q3 : 60 < d.nb
  · have e : decide (cntN d ≤ 300 ∧ d.na ≤ 60 ∧ d.nb ≤ 60) = false := decide_eq_false (by omega)
    rw [e]
    simp +contextual (maxSteps := 5000000) only [go_sem, ↓reduceIte, q1, q2, q3]
  have e : decide (cntN d ≤ 300 ∧ d.na ≤ 60 ∧ d.nb ≤ 60) = true := decide_eq_true (by omega)
  rw [e, Bool.true_and]
  have hn : cntN d ≤ 300 := by omega
  have hn1 : d.dels.length ≤ 300 := by unfold cntN at hn; omega
  have hn2 : d.inss.length ≤ 300 := by unfold cntN at hn; omega
  have hc1 : (txL d.dels).length < 2000000 := by unfold txL at hce ⊢; simp only [List.flatMap_append, List.length_append] at hce; omega
  have hc2 : (txL d.inss).length < 2000000 := by unfold txL at hce ⊢; simp only [List.flatMap_append, List.length_append] at hce; omega
  clear e hn
  simp +contextual (maxSteps := 5000000) only [go_sem, ↓reduceIte, c_longest, hl, eDl, q1, q2, q3]
  clear q1 q2 q3
  generalize mxL (txF d) = m0 at hmx
  refine M_loopI (fun i : Nat => ⟨[(1, .loc 1 0), (4, .int .i64 (m0 + (txL (d.dels.take i)).length : Nat)), (5, .int .i64 i)], [(1, .blk (eDl d) false)]⟩) (fun i => d.dels.length - i) (fun i => i ≤ d.dels.length) 0 ?_ ?_
  · simp +contextual (maxSteps := 5000000) only [go_sem, ↓reduceIte, eDl, txL, List.flatMap_nil]
    rfl
  intro i hi
  by_cases hlt : i < d.dels.length
  · have hat := eL_at d.dels i hlt
    have ht : txL (d.dels.take (i + 1)) = txL (d.dels.take i) ++ (d.dels.getD i (0, [])).2 := flat_succ (d := (0, [])) (·.2) hlt
    have hb : (txL (d.dels.take (i + 1))).length ≤ (txL d.dels).length := flat_le d.dels (·.2) (i + 1)
    rw [ht, List.length_append] at hb
    simp +contextual (maxSteps := 5000000) only [go_sem, ↓reduceIte, hlt, hat, eDl]
    exact fun _ _ => ⟨inR64 (by omega) (by omega), fun _ => ⟨inR64 (by omega) (by omega), fun _ => ⟨i + 1, ⟨by rw [ht, List.length_append]; omega, by simp⟩, by omega, by omega⟩⟩⟩
  obtain rfl : i = d.dels.length := by omega
  simp +contextual (maxSteps := 5000000) only [go_sem, ↓reduceIte, eDl, hlt, Nat.lt_irrefl, List.take_length]
  intro _
  refine M_loopI (fun i : Nat => ⟨[(1, .loc 1 0), (4, .int .i64 (m0 + (txL d.dels).length + (txL (d.inss.take i)).length : Nat)), (6, .int .i64 i)], [(1, .blk (eDl d) false)]⟩) (fun i => d.inss.length - i) (fun i => i ≤ d.inss.length) 0 ?_ ?_
  · simp +contextual (maxSteps := 5000000) only [go_sem, ↓reduceIte, eDl, txL, List.flatMap_nil]
    rfl
  intro i hi
  by_cases hlt : i < d.inss.length
  · have hat := eL_at d.inss i hlt
    have ht : txL (d.inss.take (i + 1)) = txL (d.inss.take i) ++ (d.inss.getD i (0, [])).2 := flat_succ (d := (0, [])) (·.2) hlt
    have hb : (txL (d.inss.take (i + 1))).length ≤ (txL d.inss).length := flat_le d.inss (·.2) (i + 1)
    rw [ht, List.length_append] at hb
    simp +contextual (maxSteps := 5000000) only [go_sem, ↓reduceIte, hlt, hat, eDl]
    exact fun _ _ => ⟨inR64 (by omega) (by omega), fun _ => ⟨inR64 (by omega) (by omega), fun _ => ⟨i + 1, ⟨by rw [ht, List.length_append]; omega, by simp⟩, by omega, by omega⟩⟩⟩
  obtain rfl : i = d.inss.length := by omega
  simp +contextual (maxSteps := 5000000) only [go_sem, ↓reduceIte, eDl, hlt, Nat.lt_irrefl, List.take_length]
  exact fun _ => decide_eq_decide.2 (by omega)
end Go.Proofs.YtknkjakppikjeaaGreat

set_option linter.unusedSimpArgs false
namespace Go.Proofs.YtknkjakppikjeaaGreat
open Go.Tn Go.RowKit
theorem own : ownKnob Tryz.prog.godebug = none := by kernel_rfl
theorem laidOut : laidOutB Tryz.prog = true := by kernel_rfl
mutual
theorem bulk_eq {H : Type} : ∀ d : DataW H, Rows.uptoBulk d = blk d
  | .lit l => by cases l <;> simp [Rows.uptoBulk, blk]
  | .nil => by simp [Rows.uptoBulk, blk]
  | .ptr d => by simp [Rows.uptoBulk, blk, bulk_eq d]
  | .slice elems spare => by simp [Rows.uptoBulk, blk, bulkL_eq elems, bulkL_eq spare]
  | .agg parts => by simp [Rows.uptoBulk, blk, bulkL_eq parts]
  | .iface _ d => by simp [Rows.uptoBulk, blk, bulk_eq d]
  | .map entries => by simp [Rows.uptoBulk, blk, bulkE_eq entries]
  | .held _ => by simp [Rows.uptoBulk, blk]
theorem bulkL_eq {H : Type} : ∀ l : List (DataW H), Rows.uptoBulkAll l = blkL l
  | [] => by simp [Rows.uptoBulkAll, blkL]
  | d :: r => by simp [Rows.uptoBulkAll, blkL, bulk_eq d, bulkL_eq r]
theorem bulkE_eq {H : Type} : ∀ l : List (Lit × DataW H), Rows.uptoBulkEntries l = blkE l
  | [] => by simp [Rows.uptoBulkEntries, blkE]
  | x :: r => by simp [Rows.uptoBulkEntries, blkE, bulk1_eq x, bulkE_eq r]
theorem bulk1_eq {H : Type} : ∀ x : Lit × DataW H, Rows.uptoBulkEntry x = blk1 x
  | (l, d) => by cases l <;> simp [Rows.uptoBulkEntry, blk1, bulk_eq d]
end
theorem small_le {H : Type} {ds : List (DataW H)} (h : Rows.uptoSmall H ds = true) : blkL ds ≤ 1048576 := by
  rw [← bulkL_eq]; exact of_decide_eq_true h
theorem fits_sS {d : D} (h : Fits (.slc [.str]) d) : ∃ l : List Str, d = .sl 1 (l.map eS) := by
  unfold Fits at h
  obtain ⟨r, rfl, g⟩ := h
  exact ⟨r.map dS, by rw [← fits_S g]; rfl⟩
theorem fits_sL {d : D} (h : Fits (.slc [.int .i64, .slc [.str]]) d) : ∃ l : List Ln, d = .sl 2 (l.map eL) := by
  unfold Fits at h
  obtain ⟨rows, rfl, g⟩ := h
  refine ⟨rows.map dL, ?_⟩
  have : rows = (rows.map dL).map eL := map_id_of fun r hr => by
    have := g r hr
    simp only [FitsL] at this
    obtain ⟨_, _, rfl, ⟨n, rfl⟩, _, _, rfl, h2, rfl⟩ := this
    obtain ⟨l, rfl⟩ := fits_sS h2
    simp only [dL, eL, List.headD_cons, List.tail_cons, rowsOf, iOf]
    rw [dS_eS]
  rw [← this]; rfl
theorem fits_s6 {d : D} (h : Fits (.slc [.int .i64, .int .i64, .int .i64, .int .i64, .str, .str]) d) : ∃ l : List St6, d = .sl 6 (l.map eD6) := by
  unfold Fits at h
  obtain ⟨rows, rfl, g⟩ := h
  refine ⟨rows.map d6, ?_⟩
  have : rows = (rows.map d6).map eD6 := map_id_of fun r hr => by
    have := g r hr
    simp only [FitsL, Fits] at this
    obtain ⟨_, _, rfl, ⟨_, rfl⟩, _, _, rfl, ⟨_, rfl⟩, _, _, rfl, ⟨_, rfl⟩, _, _, rfl, ⟨_, rfl⟩, _, _, rfl, ⟨_, rfl⟩, _, _, rfl, ⟨_, rfl⟩, rfl⟩ := this
    rfl
  rw [← this]; rfl
theorem fits_sSp {d : D} (h : Fits (.slc [.int .i64, .int .i64, .str]) d) : ∃ l : List Sp, d = .sl 3 (l.map eSp) := by
  unfold Fits at h
  obtain ⟨rows, rfl, g⟩ := h
  refine ⟨rows.map dSp, ?_⟩
  have : rows = (rows.map dSp).map eSp := map_id_of fun r hr => by
    have := g r hr
    simp only [FitsL, Fits] at this
    obtain ⟨_, _, rfl, ⟨_, rfl⟩, _, _, rfl, ⟨_, rfl⟩, _, _, rfl, ⟨_, rfl⟩, rfl⟩ := this
    rfl
  rw [← this]; rfl
theorem szD_pos (d : D) : 1 ≤ szD d := by unfold szD; split <;> omega
theorem szL_mem {d : D} : ∀ {l : List D}, d ∈ l → szD d ≤ szL l
  | x :: l, h => by
    simp only [szL]
    rcases List.mem_cons.1 h with rfl | h
    · omega
    · have := szL_mem h; omega
theorem szR_mem {r : List D} : ∀ {l : List (List D)}, r ∈ l → szL r ≤ szR l
  | x :: l, h => by
    simp only [szR]
    rcases List.mem_cons.1 h with rfl | h
    · omega
    · have := szR_mem h; omega
theorem szR_len {α : Type} {e : α → List D} (he : ∀ x, e x ≠ []) : ∀ l : List α, l.length ≤ szR (l.map e)
  | [] => by simp
  | x :: l => by
    have h1 := szR_len he l
    have h2 : 1 ≤ szL (e x) := by
      cases h : e x with
      | nil => exact absurd h (he x)
      | cons d r => simp only [szL]; have := szD_pos d; omega
    simp only [List.map_cons, szR, List.length_cons]; omega
theorem txL_sz : ∀ l : List Ln, (txL l).length ≤ szR (l.map eL)
  | [] => by simp [txL]
  | x :: l => by
    have h1 := txL_sz l
    have h2 := szR_len (e := eS) (by intro x h; cases h) x.2
    simp only [txL, List.flatMap_cons, List.length_append, List.map_cons, szR, eL, szL, szD] at h1 ⊢; omega
def delta_shs : List Sh := [.slc [.str], .slc [.str], .slc [.int .i64, .int .i64], .int .i64, .int .i64, .slc [.int .i64, .int .i64], .slc [.int .i64, .slc [.str]], .slc [.int .i64, .slc [.str]], .slc [.int .i64, .int .i64, .int .i64, .int .i64, .str, .str], .slc [.int .i64, .int .i64, .str], .slc [.int .i64, .int .i64, .str]]
theorem okT_of {d : Dl} (h : szL (eDl d) ≤ 1048576) : okT d := by
  simp only [eDl, szL, szD] at h
  have a1 := szR_len (e := eS) (by intro x h; cases h) d.A
  have a2 := szR_len (e := eS) (by intro x h; cases h) d.B
  have a3 := szR_len (e := eP) (by intro x h; cases h) d.cols
  have a4 := szR_len (e := eP) (by intro x h; cases h) d.rows
  have a5 := szR_len (e := eL) (by intro x h; cases h) d.dels
  have a6 := szR_len (e := eL) (by intro x h; cases h) d.inss
  have a7 := szR_len (e := eD6) (by intro x h; cases h) d.sets
  have a8 := szR_len (e := eSp) (by intro x h; cases h) d.lost
  have a9 := szR_len (e := eSp) (by intro x h; cases h) d.gain
  have b1 := txL_sz d.dels
  have b2 := txL_sz d.inss
  have tS : ∀ {l : List Str} {s : Str}, s ∈ l → s.length ≤ szR (l.map eS) := fun {l s} hs => by
    have := szR_mem (List.mem_map_of_mem (f := eS) hs)
    simp only [eS, szL, szD] at this; omega
  have tL : ∀ {l : List Ln} {s : Str}, s ∈ txL l → s.length ≤ szR (l.map eL) := fun {l s} hs => by
    obtain ⟨x, hx, hs⟩ := List.mem_flatMap.1 hs
    have h1 := szR_mem (List.mem_map_of_mem (f := eL) hx)
    have h2 := tS hs
    simp only [eL, szL, szD] at h1; omega
  have t6 : ∀ {l : List St6} {s : Str}, s ∈ txS l → s.length ≤ szR (l.map eD6) := fun {l s} hs => by
    obtain ⟨x, hx, hs⟩ := List.mem_flatMap.1 hs
    have h1 := szR_mem (List.mem_map_of_mem (f := eD6) hx)
    simp only [eD6, szL, szD] at h1
    simp only [List.mem_cons, List.not_mem_nil, or_false] at hs
    rcases hs with rfl | rfl <;> omega
  have tP : ∀ {l : List Sp} {s : Str}, s ∈ txP l → s.length ≤ szR (l.map eSp) := fun {l s} hs => by
    obtain ⟨x, hx, rfl⟩ := List.mem_map.1 hs
    have h1 := szR_mem (List.mem_map_of_mem (f := eSp) hx)
    simp only [eSp, szL, szD] at h1; omega
  refine ⟨by omega, by omega, by omega, by omega, by omega, by omega, by omega, by omega, by omega, ?_, fun s hs => ?_⟩
  · have : (txL (d.dels ++ d.inss)).length = (txL d.dels).length + (txL d.inss).length := by unfold txL; simp
    omega
  · unfold txF at hs
    have e1 : txL (d.dels ++ d.inss) = txL d.dels ++ txL d.inss := by unfold txL; simp
    have e2 : txP (d.lost ++ d.gain) = txP d.lost ++ txP d.gain := by unfold txP; simp
    rw [e1, e2] at hs
    simp only [List.mem_append] at hs
    rcases hs with (((hs | hs) | hs | hs) | hs) | hs | hs
    · have := tS hs; omega
    · have := tS hs; omega
    · have := tL hs; omega
    · have := tL hs; omega
    · have := t6 hs; omega
    · have := tP hs; omega
    · have := tP hs; omega
theorem open_delta {cs : List D} (hc : FitsL delta_shs cs) : ∃ d : Dl, cs = eDl d := by
  simp only [delta_shs, FitsL] at hc
  obtain ⟨_, _, rfl, h0, _, _, rfl, h1, _, _, rfl, h2, _, _, rfl, h3, _, _, rfl, h4, _, _, rfl, h5, _, _, rfl, h6, _, _, rfl, h7, _, _, rfl, h8, _, _, rfl, h9, _, _, rfl, h10, rfl⟩ := hc
  obtain ⟨A, rfl⟩ := fits_sS h0
  obtain ⟨B, rfl⟩ := fits_sS h1
  obtain ⟨co, rfl⟩ := fits_sP h2
  obtain ⟨na, rfl⟩ := fits_i h3
  obtain ⟨nb, rfl⟩ := fits_i h4
  obtain ⟨ro, rfl⟩ := fits_sP h5
  obtain ⟨de, rfl⟩ := fits_sL h6
  obtain ⟨ins, rfl⟩ := fits_sL h7
  obtain ⟨se, rfl⟩ := fits_s6 h8
  obtain ⟨lo, rfl⟩ := fits_sSp h9
  obtain ⟨ga, rfl⟩ := fits_sSp h10
  exact ⟨⟨A, B, co, na, nb, ro, de, ins, se, lo, ga⟩, rfl⟩
theorem szR_S (l : List (List UInt8)) : slen l ≤ szR (l.map eS) := by
  induction l with
  | nil => simp [slen, szR]
  | cons s l ih => simp only [slen_cons, List.map_cons, szR, eS, szL, szD]; unfold slen at *; omega
theorem szR_R (l : List (List (List UInt8))) : rlen l ≤ szR (l.map eR) := by
  induction l with
  | nil => simp [rlen, szR]
  | cons r l ih =>
    have := szR_S r
    simp only [rlen_cons, List.map_cons, szR, eR, szL, szD]; unfold rlen at *; omega
theorem tab_le {t : Tab} (h : szL [.sl 1 (t.1.map eS), .sl 1 (t.2.map eR)] ≤ 1048576) : slen t.1 + rlen t.2 < 2000000000 := by
  have := szR_S t.1
  have := szR_R t.2
  simp only [szL, szD] at h
  omega
end Go.Proofs.YtknkjakppikjeaaGreat

set_option linter.unusedSimpArgs false
namespace Go.Proofs.YtknkjakppikjeaaGreat
open Go.Tn
set_option maxHeartbeats 8000000
set_option maxRecDepth 100000
/- table.Check -/
def eTb (t : Tab) : List D := [.sl 1 (t.1.map eS), .sl 1 (t.2.map eR)]
theorem fc_unless (b : Bool) (e : Int) : FC Tryz.prog 57 [] [.bool b, .int .i64 e] (.ret (.int .i64 (if b = true then 0 else e))) := by
  refine fc_M (fn := Tryz.f57) (C := (tab [] [])) (rs := [4]) mixed (by kernel_rfl) (by kernel_rfl) rfl rfl (by kernel_rfl) (by intro ys h; cases h) ?_
  cases b
  · simp +contextual (maxSteps := 5000000) only [go_sem, ↓reduceIte]
  · simp +contextual (maxSteps := 5000000) only [go_sem, ↓reduceIte]
def c_unless (caps args : List D) : Prop × Out := match caps, args with | [], [.bool b, .int .i64 e] => (True, .ret (.int .i64 (if b = true then 0 else e))) | _, _ => (False, .ret .any)
theorem st_unless : StC Tryz.prog 57 c_unless := by
  intro caps args; unfold c_unless; split
  · exact fun _ => fc_unless _ _
  · exact fun h => h.elim
def tc1 (t : Tab) : Int := if 0 < t.1.length then 0 else 8
theorem fc_tc1 (t : Tab) : FC Tryz.prog 56 [.box (eTb t)] [] (.ret (.int .i64 (tc1 t))) := by
  refine fc_M (fn := Tryz.f56) (C := (tab [(57, c_unless)] [])) (rs := [1]) mixed (by kernel_rfl) (by kernel_rfl) rfl rfl (by kernel_rfl) (by intro ys h; cases h) ?_
  unfold eTb
  simp +contextual (maxSteps := 5000000) only [go_sem, ↓reduceIte, c_unless, st_unless]
  unfold tc1
  intro _
  congr 1
  exact propext (by omega)
theorem fc_odd (t : Tab) (r : List Str) : FC Tryz.prog 59 [.box (eTb t)] [.sl 1 (r.map eS)] (.ret (.bool (decide (r.length ≠ t.1.length)))) := by
  refine fc_M (fn := Tryz.f59) (C := (tab [] [])) (rs := [3]) mixed (by kernel_rfl) (by kernel_rfl) rfl rfl (by kernel_rfl) (by intro ys h; cases h) ?_
  unfold eTb
  simp +contextual (maxSteps := 5000000) only [go_sem, ↓reduceIte]
  intro _ _
  by_cases h : r.length = t.1.length <;> simp [h]
end Go.Proofs.YtknkjakppikjeaaGreat

set_option linter.unusedSimpArgs false
namespace Go.Proofs.YtknkjakppikjeaaGreat
open Go.Tn
set_option maxHeartbeats 8000000
set_option maxRecDepth 100000
def c_askR (cs : List D) (q : List Str → Bool) (l : List (List Str)) (caps args : List D) : Prop × Out :=
  match args with
  | [.sl 1 r] => (caps = cs ∧ r = (r.map dS).map eS ∧ (r.map dS) ∈ l, .ret (.bool (q (r.map dS))))
  | _ => (False, .ret .any)
theorem st_askR {P : Program} {g : Nat} {cs : List D} {q : List Str → Bool} {l : List (List Str)} (h : ∀ x ∈ l, FC P g cs [.sl 1 (x.map eS)] (.ret (.bool (q x)))) : StC P g (c_askR cs q l) := by
  intro caps args
  unfold c_askR
  split
  · rintro ⟨rfl, h1, hx⟩; have := h _ hx; rw [← h1] at this; exact this
  · exact fun h => h.elim
theorem fc_ixR (g : Nat) (cs : List D) (hcs : cleanL [.fn g [] cs] = true) (q : List Str → Bool) (l : List (List Str)) (hl : l.length < 1000000000)
    (h : ∀ x ∈ l, FC Tryz.prog g cs [.sl 1 (x.map eS)] (.ret (.bool (q x)))) :
    FC Tryz.prog 106 [] [.sl 1 (l.map eR), .fn g [] cs] (.ret (.int .i64 (fidx q l 0))) := by
  have cl := clrL_of (cl_fn hcs)
  have hst := st_askR h
  refine fc_M (fn := Tryz.f106) (C := (tab [(g, c_askR cs q l)] [])) (rs := [4]) mixed (by kernel_rfl) (by kernel_rfl) rfl rfl (by kernel_rfl) (by intro ys h; cases h) ?_
  simp +contextual (maxSteps := 5000000) only [go_sem, ↓reduceIte]
  intro _
  refine M_loopI (fun i : Nat => ⟨[(0, .sl 1 (l.map eR)), (1, .fn g [] cs), (7, .int .i64 l.length), (8, .int .i64 i)], []⟩) (fun i => l.length - i) (fun i => i ≤ l.length ∧ ∀ j, j < i → q (l.getD j []) = false) 0 ?_ ?_
  · simp +contextual (maxSteps := 5000000) only [go_sem, ↓reduceIte, cl.cv6, cl.rf6, cl.nw6, cl.fz6, cl.cv5, cl.rf5, cl.nw5, cl.fz5, cl.wkL, cl.inOL]
    rfl
  · intro i hi
    obtain ⟨hi, hn⟩ := hi
    by_cases hlt : i < l.length
    · have hm := getD_mem (d := []) hlt
      have hat := eR_at l i hlt
      cases hq : q (l.getD i [])
      · have hq2 := hq
        generalize l.getD i [] = x at hm hat hq
        have hm2 : x ∈ l := hm
        have hq3 : q x = false := hq
        simp +contextual (maxSteps := 5000000) only [go_sem, ↓reduceIte, cl.cv6, cl.rf6, cl.nw6, cl.fz6, cl.cv5, cl.rf5, cl.nw5, cl.fz5, cl.wkL, cl.inOL, hlt, hat, c_askR, hst, hm2, hq3, dS_eS]
        refine ⟨inR64 (by omega) (by omega), fun _ => ⟨i + 1, by simp, by omega, by omega, fun j hj => ?_⟩⟩
        rcases lt_cases hj with h | rfl
        · exact hn j h
        · exact hq2
      · have hq2 := hq
        generalize l.getD i [] = x at hm hat hq
        have hm2 : x ∈ l := hm
        have hq3 : q x = true := hq
        simp +contextual (maxSteps := 5000000) only [go_sem, ↓reduceIte, cl.cv6, cl.rf6, cl.nw6, cl.fz6, cl.cv5, cl.rf5, cl.nw5, cl.fz5, cl.wkL, cl.inOL, hlt, hat, c_askR, hst, hm2, hq3, dS_eS]
        rw [fidx_at (d := []) hlt hq2 hn]; simp
    · simp +contextual (maxSteps := 5000000) only [go_sem, ↓reduceIte, hlt]
      rw [fidx_no (d := []) (fun j hj => hn j (by omega))]
def c_ixR (q : List Str → Bool) (caps args : List D) : Prop × Out := match caps, args with
  | [], [.sl 1 rows, .fn g [] cs] => (rows = (rows.map dR).map eR ∧ rows.length < 1000000000 ∧ cleanL [.fn g [] cs] = true ∧ ∀ x ∈ rows.map dR, FC Tryz.prog g cs [.sl 1 (x.map eS)] (.ret (.bool (q x))), .ret (.int .i64 (fidx q (rows.map dR) 0)))
  | _, _ => (False, .ret .any)
theorem st_ixR (q : List Str → Bool) : StC Tryz.prog 106 (c_ixR q) := by
  intro caps args; unfold c_ixR; split
  · rename_i rows g cs
    rintro ⟨h1, h2, h3, h4⟩
    have := fc_ixR g cs h3 q (rows.map dR) (by simpa using h2) h4
    rw [← h1] at this
    exact this
  · exact fun h => h.elim
theorem fc_cnR (g : Nat) (cs : List D) (hcs : cleanL [.fn g [] cs] = true) (q : List Str → Bool) (l : List (List Str)) (hl : l.length < 1000000000)
    (h : ∀ x ∈ l, FC Tryz.prog g cs [.sl 1 (x.map eS)] (.ret (.bool (q x)))) :
    FC Tryz.prog 60 [] [.sl 1 (l.map eR), .fn g [] cs] (.ret (.bool (l.any q))) := by
  have cl := clrL_of (cl_fn hcs)
  refine fc_M (fn := Tryz.f60) (C := (tab [(106, c_ixR q)] [])) (rs := [4]) mixed (by kernel_rfl) (by kernel_rfl) rfl rfl (by kernel_rfl) (by intro ys h; cases h) ?_
  simp +contextual (maxSteps := 5000000) only [go_sem, ↓reduceIte, cl.cv6, cl.rf6, cl.nw6, cl.fz6, cl.cv5, cl.rf5, cl.nw5, cl.fz5, cl.wkL, cl.inOL, c_ixR, st_ixR, dR_eR]
  exact ⟨⟨hl, hcs, h⟩, fidx_nn⟩
def c_cnR (q : List Str → Bool) (caps args : List D) : Prop × Out := match caps, args with
  | [], [.sl 1 rows, .fn g [] cs] => (rows = (rows.map dR).map eR ∧ rows.length < 1000000000 ∧ cleanL [.fn g [] cs] = true ∧ ∀ x ∈ rows.map dR, FC Tryz.prog g cs [.sl 1 (x.map eS)] (.ret (.bool (q x))), .ret (.bool ((rows.map dR).any q)))
  | _, _ => (False, .ret .any)
theorem st_cnR (q : List Str → Bool) : StC Tryz.prog 60 (c_cnR q) := by
  intro caps args; unfold c_cnR; split
  · rename_i rows g cs
    rintro ⟨h1, h2, h3, h4⟩
    have := fc_cnR g cs h3 q (rows.map dR) (by simpa using h2) h4
    rw [← h1] at this
    exact this
  · exact fun h => h.elim
def c_askL (cs : List D) (q : Ln → Bool) (l : List (Ln)) (caps args : List D) : Prop × Out :=
  match args with
  | [.agg [.int .i64 a, .sl 1 r]] => (caps = cs ∧ r = (r.map dS).map eS ∧ (a, r.map dS) ∈ l, .ret (.bool (q (a, r.map dS))))
  | _ => (False, .ret .any)
theorem st_askL {P : Program} {g : Nat} {cs : List D} {q : Ln → Bool} {l : List (Ln)} (h : ∀ x ∈ l, FC P g cs [.agg (eL x)] (.ret (.bool (q x)))) : StC P g (c_askL cs q l) := by
  intro caps args
  unfold c_askL
  split
  · rintro ⟨rfl, h1, hx⟩; have := h _ hx; unfold eL at this; rw [← h1] at this; exact this
  · exact fun h => h.elim
theorem fc_ixL (g : Nat) (cs : List D) (hcs : cleanL [.fn g [] cs] = true) (q : Ln → Bool) (l : List (Ln)) (hl : l.length < 1000000000)
    (h : ∀ x ∈ l, FC Tryz.prog g cs [.agg (eL x)] (.ret (.bool (q x)))) :
    FC Tryz.prog 83 [] [.sl 2 (l.map eL), .fn g [] cs] (.ret (.int .i64 (fidx q l 0))) := by
  have cl := clrL_of (cl_fn hcs)
  have hst := st_askL h
  refine fc_M (fn := Tryz.f83) (C := (tab [(g, c_askL cs q l)] [])) (rs := [4]) mixed (by kernel_rfl) (by kernel_rfl) rfl rfl (by kernel_rfl) (by intro ys h; cases h) ?_
  simp +contextual (maxSteps := 5000000) only [go_sem, ↓reduceIte]
  intro _
  refine M_loopI (fun i : Nat => ⟨[(0, .sl 2 (l.map eL)), (1, .fn g [] cs), (7, .int .i64 l.length), (8, .int .i64 i)], []⟩) (fun i => l.length - i) (fun i => i ≤ l.length ∧ ∀ j, j < i → q (l.getD j (0, [])) = false) 0 ?_ ?_
  · simp +contextual (maxSteps := 5000000) only [go_sem, ↓reduceIte, cl.cv6, cl.rf6, cl.nw6, cl.fz6, cl.cv5, cl.rf5, cl.nw5, cl.fz5, cl.wkL, cl.inOL]
    rfl
  · intro i hi
    obtain ⟨hi, hn⟩ := hi
    by_cases hlt : i < l.length
    · have hm := getD_mem (d := (0, [])) hlt
      have hat := eL_at l i hlt
      cases hq : q (l.getD i (0, []))
      · have hq2 := hq
        generalize l.getD i (0, []) = x at hm hat hq
        have hm2 : (x.1, x.2) ∈ l := hm
        have hq3 : q (x.1, x.2) = false := hq
        simp +contextual (maxSteps := 5000000) only [go_sem, ↓reduceIte, cl.cv6, cl.rf6, cl.nw6, cl.fz6, cl.cv5, cl.rf5, cl.nw5, cl.fz5, cl.wkL, cl.inOL, hlt, hat, c_askL, hst, hm2, hq3, dS_eS]
        refine ⟨inR64 (by omega) (by omega), fun _ => ⟨i + 1, by simp, by omega, by omega, fun j hj => ?_⟩⟩
        rcases lt_cases hj with h | rfl
        · exact hn j h
        · exact hq2
      · have hq2 := hq
        generalize l.getD i (0, []) = x at hm hat hq
        have hm2 : (x.1, x.2) ∈ l := hm
        have hq3 : q (x.1, x.2) = true := hq
        simp +contextual (maxSteps := 5000000) only [go_sem, ↓reduceIte, cl.cv6, cl.rf6, cl.nw6, cl.fz6, cl.cv5, cl.rf5, cl.nw5, cl.fz5, cl.wkL, cl.inOL, hlt, hat, c_askL, hst, hm2, hq3, dS_eS]
        rw [fidx_at (d := (0, [])) hlt hq2 hn]; simp
    · simp +contextual (maxSteps := 5000000) only [go_sem, ↓reduceIte, hlt]
      rw [fidx_no (d := (0, [])) (fun j hj => hn j (by omega))]
def c_ixL (q : Ln → Bool) (caps args : List D) : Prop × Out := match caps, args with
  | [], [.sl 2 rows, .fn g [] cs] => (rows = (rows.map dL).map eL ∧ rows.length < 1000000000 ∧ cleanL [.fn g [] cs] = true ∧ ∀ x ∈ rows.map dL, FC Tryz.prog g cs [.agg (eL x)] (.ret (.bool (q x))), .ret (.int .i64 (fidx q (rows.map dL) 0)))
  | _, _ => (False, .ret .any)
theorem st_ixL (q : Ln → Bool) : StC Tryz.prog 83 (c_ixL q) := by
  intro caps args; unfold c_ixL; split
  · rename_i rows g cs
    rintro ⟨h1, h2, h3, h4⟩
    have := fc_ixL g cs h3 q (rows.map dL) (by simpa using h2) h4
    rw [← h1] at this
    exact this
  · exact fun h => h.elim
theorem fc_cnL (g : Nat) (cs : List D) (hcs : cleanL [.fn g [] cs] = true) (q : Ln → Bool) (l : List (Ln)) (hl : l.length < 1000000000)
    (h : ∀ x ∈ l, FC Tryz.prog g cs [.agg (eL x)] (.ret (.bool (q x)))) :
    FC Tryz.prog 40 [] [.sl 2 (l.map eL), .fn g [] cs] (.ret (.bool (l.any q))) := by
  have cl := clrL_of (cl_fn hcs)
  refine fc_M (fn := Tryz.f40) (C := (tab [(83, c_ixL q)] [])) (rs := [4]) mixed (by kernel_rfl) (by kernel_rfl) rfl rfl (by kernel_rfl) (by intro ys h; cases h) ?_
  simp +contextual (maxSteps := 5000000) only [go_sem, ↓reduceIte, cl.cv6, cl.rf6, cl.nw6, cl.fz6, cl.cv5, cl.rf5, cl.nw5, cl.fz5, cl.wkL, cl.inOL, c_ixL, st_ixL, dL_eL]
  exact ⟨⟨hl, hcs, h⟩, fidx_nn⟩
def c_cnL (q : Ln → Bool) (caps args : List D) : Prop × Out := match caps, args with
  | [], [.sl 2 rows, .fn g [] cs] => (rows = (rows.map dL).map eL ∧ rows.length < 1000000000 ∧ cleanL [.fn g [] cs] = true ∧ ∀ x ∈ rows.map dL, FC Tryz.prog g cs [.agg (eL x)] (.ret (.bool (q x))), .ret (.bool ((rows.map dL).any q)))
  | _, _ => (False, .ret .any)
theorem st_cnL (q : Ln → Bool) : StC Tryz.prog 40 (c_cnL q) := by
  intro caps args; unfold c_cnL; split
  · rename_i rows g cs
    rintro ⟨h1, h2, h3, h4⟩
    have := fc_cnL g cs h3 q (rows.map dL) (by simpa using h2) h4
    rw [← h1] at this
    exact this
  · exact fun h => h.elim
def c_ask6 (cs : List D) (q : St6 → Bool) (l : List (St6)) (caps args : List D) : Prop × Out :=
  match args with
  | [.agg [.int .i64 a, .int .i64 b, .int .i64 c, .int .i64 d, .str e, .str f]] => (caps = cs ∧ ⟨a, b, c, d, e, f⟩ ∈ l, .ret (.bool (q ⟨a, b, c, d, e, f⟩)))
  | _ => (False, .ret .any)
theorem st_ask6 {P : Program} {g : Nat} {cs : List D} {q : St6 → Bool} {l : List (St6)} (h : ∀ x ∈ l, FC P g cs [.agg (eD6 x)] (.ret (.bool (q x)))) : StC P g (c_ask6 cs q l) := by
  intro caps args
  unfold c_ask6
  split
  · rintro ⟨rfl, hx⟩; exact h _ hx
  · exact fun h => h.elim
theorem fc_ix6 (g : Nat) (cs : List D) (hcs : cleanL [.fn g [] cs] = true) (q : St6 → Bool) (l : List (St6)) (hl : l.length < 1000000000)
    (h : ∀ x ∈ l, FC Tryz.prog g cs [.agg (eD6 x)] (.ret (.bool (q x)))) :
    FC Tryz.prog 84 [] [.sl 6 (l.map eD6), .fn g [] cs] (.ret (.int .i64 (fidx q l 0))) := by
  have cl := clrL_of (cl_fn hcs)
  have hst := st_ask6 h
  refine fc_M (fn := Tryz.f84) (C := (tab [(g, c_ask6 cs q l)] [])) (rs := [4]) mixed (by kernel_rfl) (by kernel_rfl) rfl rfl (by kernel_rfl) (by intro ys h; cases h) ?_
  simp +contextual (maxSteps := 5000000) only [go_sem, ↓reduceIte]
  intro _
  refine M_loopI (fun i : Nat => ⟨[(0, .sl 6 (l.map eD6)), (1, .fn g [] cs), (7, .int .i64 l.length), (8, .int .i64 i)], []⟩) (fun i => l.length - i) (fun i => i ≤ l.length ∧ ∀ j, j < i → q (l.getD j default) = false) 0 ?_ ?_
  · simp +contextual (maxSteps := 5000000) only [go_sem, ↓reduceIte, cl.cv6, cl.rf6, cl.nw6, cl.fz6, cl.cv5, cl.rf5, cl.nw5, cl.fz5, cl.wkL, cl.inOL]
    rfl
  · intro i hi
    obtain ⟨hi, hn⟩ := hi
    by_cases hlt : i < l.length
    · have hm := getD_mem (d := default) hlt
      have hat := eD6_at l i hlt
      cases hq : q (l.getD i default)
      · have hq2 := hq
        generalize l.getD i default = x at hm hat hq
        have hm2 : (⟨x.i, x.j, x.p, x.q, x.o, x.n⟩ : St6) ∈ l := hm
        have hq3 : q (⟨x.i, x.j, x.p, x.q, x.o, x.n⟩ : St6) = false := hq
        simp +contextual (maxSteps := 5000000) only [go_sem, ↓reduceIte, cl.cv6, cl.rf6, cl.nw6, cl.fz6, cl.cv5, cl.rf5, cl.nw5, cl.fz5, cl.wkL, cl.inOL, hlt, hat, c_ask6, hst, hm2, hq3, dS_eS]
        refine ⟨inR64 (by omega) (by omega), fun _ => ⟨i + 1, by simp, by omega, by omega, fun j hj => ?_⟩⟩
        rcases lt_cases hj with h | rfl
        · exact hn j h
        · exact hq2
      · have hq2 := hq
        generalize l.getD i default = x at hm hat hq
        have hm2 : (⟨x.i, x.j, x.p, x.q, x.o, x.n⟩ : St6) ∈ l := hm
        have hq3 : q (⟨x.i, x.j, x.p, x.q, x.o, x.n⟩ : St6) = true := hq
        simp +contextual (maxSteps := 5000000) only [go_sem, ↓reduceIte, cl.cv6, cl.rf6, cl.nw6, cl.fz6, cl.cv5, cl.rf5, cl.nw5, cl.fz5, cl.wkL, cl.inOL, hlt, hat, c_ask6, hst, hm2, hq3, dS_eS]
        rw [fidx_at (d := default) hlt hq2 hn]; simp
    · simp +contextual (maxSteps := 5000000) only [go_sem, ↓reduceIte, hlt]
      rw [fidx_no (d := default) (fun j hj => hn j (by omega))]
def c_ix6 (q : St6 → Bool) (caps args : List D) : Prop × Out := match caps, args with
  | [], [.sl 6 rows, .fn g [] cs] => (rows = (rows.map d6).map eD6 ∧ rows.length < 1000000000 ∧ cleanL [.fn g [] cs] = true ∧ ∀ x ∈ rows.map d6, FC Tryz.prog g cs [.agg (eD6 x)] (.ret (.bool (q x))), .ret (.int .i64 (fidx q (rows.map d6) 0)))
  | _, _ => (False, .ret .any)
theorem st_ix6 (q : St6 → Bool) : StC Tryz.prog 84 (c_ix6 q) := by
  intro caps args; unfold c_ix6; split
  · rename_i rows g cs
    rintro ⟨h1, h2, h3, h4⟩
    have := fc_ix6 g cs h3 q (rows.map d6) (by simpa using h2) h4
    rw [← h1] at this
    exact this
  · exact fun h => h.elim
theorem fc_cn6 (g : Nat) (cs : List D) (hcs : cleanL [.fn g [] cs] = true) (q : St6 → Bool) (l : List (St6)) (hl : l.length < 1000000000)
    (h : ∀ x ∈ l, FC Tryz.prog g cs [.agg (eD6 x)] (.ret (.bool (q x)))) :
    FC Tryz.prog 41 [] [.sl 6 (l.map eD6), .fn g [] cs] (.ret (.bool (l.any q))) := by
  have cl := clrL_of (cl_fn hcs)
  refine fc_M (fn := Tryz.f41) (C := (tab [(84, c_ix6 q)] [])) (rs := [4]) mixed (by kernel_rfl) (by kernel_rfl) rfl rfl (by kernel_rfl) (by intro ys h; cases h) ?_
  simp +contextual (maxSteps := 5000000) only [go_sem, ↓reduceIte, cl.cv6, cl.rf6, cl.nw6, cl.fz6, cl.cv5, cl.rf5, cl.nw5, cl.fz5, cl.wkL, cl.inOL, c_ix6, st_ix6, d6_eD6]
  exact ⟨⟨hl, hcs, h⟩, fidx_nn⟩
def c_cn6 (q : St6 → Bool) (caps args : List D) : Prop × Out := match caps, args with
  | [], [.sl 6 rows, .fn g [] cs] => (rows = (rows.map d6).map eD6 ∧ rows.length < 1000000000 ∧ cleanL [.fn g [] cs] = true ∧ ∀ x ∈ rows.map d6, FC Tryz.prog g cs [.agg (eD6 x)] (.ret (.bool (q x))), .ret (.bool ((rows.map d6).any q)))
  | _, _ => (False, .ret .any)
theorem st_cn6 (q : St6 → Bool) : StC Tryz.prog 41 (c_cn6 q) := by
  intro caps args; unfold c_cn6; split
  · rename_i rows g cs
    rintro ⟨h1, h2, h3, h4⟩
    have := fc_cn6 g cs h3 q (rows.map d6) (by simpa using h2) h4
    rw [← h1] at this
    exact this
  · exact fun h => h.elim
def c_askSp (cs : List D) (q : Sp → Bool) (l : List (Sp)) (caps args : List D) : Prop × Out :=
  match args with
  | [.agg [.int .i64 a, .int .i64 b, .str s]] => (caps = cs ∧ (a, b, s) ∈ l, .ret (.bool (q (a, b, s))))
  | _ => (False, .ret .any)
theorem st_askSp {P : Program} {g : Nat} {cs : List D} {q : Sp → Bool} {l : List (Sp)} (h : ∀ x ∈ l, FC P g cs [.agg (eSp x)] (.ret (.bool (q x)))) : StC P g (c_askSp cs q l) := by
  intro caps args
  unfold c_askSp
  split
  · rintro ⟨rfl, hx⟩; exact h _ hx
  · exact fun h => h.elim
theorem fc_ixSp (g : Nat) (cs : List D) (hcs : cleanL [.fn g [] cs] = true) (q : Sp → Bool) (l : List (Sp)) (hl : l.length < 1000000000)
    (h : ∀ x ∈ l, FC Tryz.prog g cs [.agg (eSp x)] (.ret (.bool (q x)))) :
    FC Tryz.prog 85 [] [.sl 3 (l.map eSp), .fn g [] cs] (.ret (.int .i64 (fidx q l 0))) := by
  have cl := clrL_of (cl_fn hcs)
  have hst := st_askSp h
  refine fc_M (fn := Tryz.f85) (C := (tab [(g, c_askSp cs q l)] [])) (rs := [4]) mixed (by kernel_rfl) (by kernel_rfl) rfl rfl (by kernel_rfl) (by intro ys h; cases h) ?_
  simp +contextual (maxSteps := 5000000) only [go_sem, ↓reduceIte]
  intro _
  refine M_loopI (fun i : Nat => ⟨[(0, .sl 3 (l.map eSp)), (1, .fn g [] cs), (7, .int .i64 l.length), (8, .int .i64 i)], []⟩) (fun i => l.length - i) (fun i => i ≤ l.length ∧ ∀ j, j < i → q (l.getD j (0, 0, [])) = false) 0 ?_ ?_
  · simp +contextual (maxSteps := 5000000) only [go_sem, ↓reduceIte, cl.cv6, cl.rf6, cl.nw6, cl.fz6, cl.cv5, cl.rf5, cl.nw5, cl.fz5, cl.wkL, cl.inOL]
    rfl
  · intro i hi
    obtain ⟨hi, hn⟩ := hi
    by_cases hlt : i < l.length
    · have hm := getD_mem (d := (0, 0, [])) hlt
      have hat := eSp_at l i hlt
      cases hq : q (l.getD i (0, 0, []))
      · have hq2 := hq
        generalize l.getD i (0, 0, []) = x at hm hat hq
        have hm2 : (x.1, x.2.1, x.2.2) ∈ l := hm
        have hq3 : q (x.1, x.2.1, x.2.2) = false := hq
        simp +contextual (maxSteps := 5000000) only [go_sem, ↓reduceIte, cl.cv6, cl.rf6, cl.nw6, cl.fz6, cl.cv5, cl.rf5, cl.nw5, cl.fz5, cl.wkL, cl.inOL, hlt, hat, c_askSp, hst, hm2, hq3, dS_eS]
        refine ⟨inR64 (by omega) (by omega), fun _ => ⟨i + 1, by simp, by omega, by omega, fun j hj => ?_⟩⟩
        rcases lt_cases hj with h | rfl
        · exact hn j h
        · exact hq2
      · have hq2 := hq
        generalize l.getD i (0, 0, []) = x at hm hat hq
        have hm2 : (x.1, x.2.1, x.2.2) ∈ l := hm
        have hq3 : q (x.1, x.2.1, x.2.2) = true := hq
        simp +contextual (maxSteps := 5000000) only [go_sem, ↓reduceIte, cl.cv6, cl.rf6, cl.nw6, cl.fz6, cl.cv5, cl.rf5, cl.nw5, cl.fz5, cl.wkL, cl.inOL, hlt, hat, c_askSp, hst, hm2, hq3, dS_eS]
        rw [fidx_at (d := (0, 0, [])) hlt hq2 hn]; simp
    · simp +contextual (maxSteps := 5000000) only [go_sem, ↓reduceIte, hlt]
      rw [fidx_no (d := (0, 0, [])) (fun j hj => hn j (by omega))]
def c_ixSp (q : Sp → Bool) (caps args : List D) : Prop × Out := match caps, args with
  | [], [.sl 3 rows, .fn g [] cs] => (rows = (rows.map dSp).map eSp ∧ rows.length < 1000000000 ∧ cleanL [.fn g [] cs] = true ∧ ∀ x ∈ rows.map dSp, FC Tryz.prog g cs [.agg (eSp x)] (.ret (.bool (q x))), .ret (.int .i64 (fidx q (rows.map dSp) 0)))
  | _, _ => (False, .ret .any)
theorem st_ixSp (q : Sp → Bool) : StC Tryz.prog 85 (c_ixSp q) := by
  intro caps args; unfold c_ixSp; split
  · rename_i rows g cs
    rintro ⟨h1, h2, h3, h4⟩
    have := fc_ixSp g cs h3 q (rows.map dSp) (by simpa using h2) h4
    rw [← h1] at this
    exact this
  · exact fun h => h.elim
theorem fc_cnSp (g : Nat) (cs : List D) (hcs : cleanL [.fn g [] cs] = true) (q : Sp → Bool) (l : List (Sp)) (hl : l.length < 1000000000)
    (h : ∀ x ∈ l, FC Tryz.prog g cs [.agg (eSp x)] (.ret (.bool (q x)))) :
    FC Tryz.prog 42 [] [.sl 3 (l.map eSp), .fn g [] cs] (.ret (.bool (l.any q))) := by
  have cl := clrL_of (cl_fn hcs)
  refine fc_M (fn := Tryz.f42) (C := (tab [(85, c_ixSp q)] [])) (rs := [4]) mixed (by kernel_rfl) (by kernel_rfl) rfl rfl (by kernel_rfl) (by intro ys h; cases h) ?_
  simp +contextual (maxSteps := 5000000) only [go_sem, ↓reduceIte, cl.cv6, cl.rf6, cl.nw6, cl.fz6, cl.cv5, cl.rf5, cl.nw5, cl.fz5, cl.wkL, cl.inOL, c_ixSp, st_ixSp, dSp_eSp]
  exact ⟨⟨hl, hcs, h⟩, fidx_nn⟩
def c_cnSp (q : Sp → Bool) (caps args : List D) : Prop × Out := match caps, args with
  | [], [.sl 3 rows, .fn g [] cs] => (rows = (rows.map dSp).map eSp ∧ rows.length < 1000000000 ∧ cleanL [.fn g [] cs] = true ∧ ∀ x ∈ rows.map dSp, FC Tryz.prog g cs [.agg (eSp x)] (.ret (.bool (q x))), .ret (.bool ((rows.map dSp).any q)))
  | _, _ => (False, .ret .any)
theorem st_cnSp (q : Sp → Bool) : StC Tryz.prog 42 (c_cnSp q) := by
  intro caps args; unfold c_cnSp; split
  · rename_i rows g cs
    rintro ⟨h1, h2, h3, h4⟩
    have := fc_cnSp g cs h3 q (rows.map dSp) (by simpa using h2) h4
    rw [← h1] at this
    exact this
  · exact fun h => h.elim
end Go.Proofs.YtknkjakppikjeaaGreat

set_option linter.unusedSimpArgs false
namespace Go.Proofs.YtknkjakppikjeaaGreat
open Go.Tn
set_option maxHeartbeats 8000000
set_option maxRecDepth 100000
def tc2 (t : Tab) : Int := if (t.2.any fun r => decide (r.length ≠ t.1.length)) = true then 9 else 0
theorem cl_box {g : Nat} {cs : List D} : cleanL [.fn g [] [.box cs]] = true := rfl
theorem fc_tc2 (t : Tab) (h : t.2.length < 1000000000) : FC Tryz.prog 58 [.box (eTb t)] [] (.ret (.int .i64 (tc2 t))) := by
  have hq : ∀ x ∈ t.2, FC Tryz.prog 59 [.box (eTb t)] [.sl 1 (x.map eS)] (.ret (.bool (decide (x.length ≠ t.1.length)))) := fun x _ => fc_odd t x
  refine fc_M (fn := Tryz.f58) (C := (tab [(57, c_unless), (60, c_cnR (fun r => decide (r.length ≠ t.1.length)))] [])) (rs := [1]) mixed (by kernel_rfl) (by kernel_rfl) rfl rfl (by kernel_rfl) (by intro ys h; cases h) ?_
  unfold eTb at hq ⊢
  unfold tc2
  simp +contextual (maxSteps := 5000000) only [go_sem, ↓reduceIte, c_unless, st_unless, c_cnR, st_cnR, dR_eR, h, cl_box]
  refine ⟨hq, ?_⟩
  cases (t.2.any fun r => decide ¬r.length = t.1.length) <;> rfl
def tc3 (t : Tab) : Int := if onceF t.1 = true then 0 else 10
theorem fc_tc3 (t : Tab) (hl : t.1.length < 1000000000) : FC Tryz.prog 61 [.box (eTb t)] [] (.ret (.int .i64 (tc3 t))) := by
  refine fc_M (fn := Tryz.f61) (C := (tab [(57, c_unless)] [])) (rs := [1]) mixed (by kernel_rfl) (by kernel_rfl) rfl rfl (by kernel_rfl) (by intro ys h; cases h) ?_
  unfold eTb
  simp +contextual (maxSteps := 5000000) only [go_sem, ↓reduceIte]
  refine fun _ => M_loopI (fun i : Nat => ⟨[(0, .box [.sl 1 (t.1.map eS), .sl 1 (t.2.map eR)]), (2, .lmap 5), (7, .sl 1 (t.1.map eS)), (8, .int .i64 t.1.length), (9, .int .i64 i)], [(5, .mp ((cntS (t.1.take i)).map kS) ((cntS (t.1.take i)).map vS) false)]⟩) (fun i => t.1.length - i) (fun i => i ≤ t.1.length) 0 ?_ ?_
  · simp +contextual (maxSteps := 5000000) only [go_sem, ↓reduceIte, cntS, List.foldl_nil]
    rfl
  intro i hi
  by_cases hlt : i < t.1.length
  · have hat := eS_at t.1 i hlt
    have hb := cntS_bd (t.1.getD i []) t.1 i (by omega)
    have ht := cntS_take hlt
    simp +contextual (maxSteps := 5000000) only [go_sem, ↓reduceIte, hlt, hat, c_unless, st_unless]
    exact ⟨inR64 (by omega) (by omega), fun _ => ⟨inR64 (by omega) (by omega), fun _ => ⟨i + 1, ⟨by simp, by rw [ht], by rw [ht]⟩, by omega, by omega⟩⟩⟩
  obtain rfl : i = t.1.length := by omega
  simp +contextual (maxSteps := 5000000) only [go_sem, ↓reduceIte, hlt, Nat.lt_irrefl, List.take_length, c_unless, st_unless]
  unfold tc3 onceF
  intro _
  by_cases e : (cntS t.1).length = t.1.length <;> simp [e]
def alF (t : Tab) : List Str := (t.1 :: t.2).flatten
def eRs (l : List (List Str)) : List (List D) := l.map eR
theorem fc_lists (t : Tab) (h : t.2.length < 1000000000) : FC Tryz.prog 108 [] [.sl 1 (t.1.map eS), .sl 1 (t.2.map eR)] (.own 22 1 ((t.1 :: t.2).map eR)) := by
  refine fc_M (fn := Tryz.f108) (C := (tab [] [])) (rs := [4]) mixed (by kernel_rfl) (by kernel_rfl) rfl rfl (by kernel_rfl) (by intro ys h; cases h) ?_
  simp +contextual (maxSteps := 5000000) only [go_sem, ↓reduceIte]
  exact ⟨by omega, fun _ => ⟨rfl, by omega⟩⟩
def c_lists (caps args : List D) : Prop × Out := match caps, args with | [], [.sl 1 a, .sl 1 b] => (a = (a.map dS).map eS ∧ b = (b.map dR).map eR ∧ b.length < 1000000000, .own 22 1 ((a.map dS :: b.map dR).map eR)) | _, _ => (False, .ret .any)
theorem st_lists : StC Tryz.prog 108 c_lists := by
  intro caps args; unfold c_lists; split
  · rename_i a b
    rintro ⟨h1, h2, h3⟩
    have := fc_lists (a.map dS, b.map dR) (by simpa using h3)
    simp only at this
    rw [← h1, ← h2] at this
    exact this
  · exact fun h => h.elim
def flD (L : List (List Str)) (i p : Nat) : List Str := (L.take i).flatten ++ (L.getD i []).take p
theorem flD_step {L : List (List Str)} {i p : Nat} (hi : i < L.length) (hp : p < (L.getD i []).length) : (∃ r, L.flatten.map eS = (flD L i p).map eS ++ eS ((L.getD i []).getD p []) :: r) ∧ (flD L i p).map eS ++ [eS ((L.getD i []).getD p [])] = (flD L i (p + 1)).map eS := by
  have hb : L.getD i [] = (L.getD i []).take p ++ (L.getD i []).getD p [] :: (L.getD i []).drop (p + 1) := by
    rw [List.getD_eq_getElem?_getD (l := L.getD i []), List.getElem?_eq_getElem hp, Option.getD_some, List.getElem_cons_drop, List.take_append_drop]
  have ha : L = L.take i ++ L.getD i [] :: L.drop (i + 1) := by
    rw [List.getD_eq_getElem?_getD, List.getElem?_eq_getElem hi, Option.getD_some, List.getElem_cons_drop, List.take_append_drop]
  have h1 : L.flatten = (L.take i).flatten ++ (L.getD i [] ++ (L.drop (i + 1)).flatten) := by
    conv => lhs; rw [ha]
    simp
  unfold flD
  constructor
  · refine ⟨((L.getD i []).drop (p + 1) ++ (L.drop (i + 1)).flatten).map eS, ?_⟩
    rw [← List.map_cons, ← List.map_append, h1]
    congr 1
    conv => lhs; rw [hb]
    simp
  · rw [List.map_append, List.map_append, List.append_assoc, take_map_succ eS [] _ p hp]
theorem flD_end {L : List (List Str)} {i : Nat} (hi : i < L.length) : flD L i (L.getD i []).length = flD L (i + 1) 0 := by
  have h : L.take (i + 1) = L.take i ++ [L.getD i []] := by
    rw [List.take_add_one, List.getElem?_eq_getElem hi, List.getD_eq_getElem?_getD, List.getElem?_eq_getElem hi]; rfl
  unfold flD
  rw [List.take_length, h, List.flatten_append]
  simp
theorem fc_all1 (t : Tab) (h : t.2.length < 1000000000) : FC Tryz.prog 107 [.box (eTb t)] [] (.seq ((alF t).map eS)) := by
  refine fcy_M (fn := Tryz.f107) (C := (tab [(108, c_lists)] [])) mixed (by kernel_rfl) (by kernel_rfl) rfl rfl (by kernel_rfl) (by kernel_rfl) ?_
  have hlen : (t.1 :: t.2).length < 1000000001 := by simp; omega
  have hY : (alF t).map eS = (t.1 :: t.2).flatten.map eS := rfl
  generalize hY0 : (alF t).map eS = Y at hY
  unfold eTb
  simp +contextual (maxSteps := 5000000) only [go_sem, ↓reduceIte, c_lists, st_lists, dS_eS, dR_eR]
  refine ⟨h, ?_⟩
  have hl2 : t.2.length + 1 = (t.1 :: t.2).length := rfl
  generalize hL : t.1 :: t.2 = L at hlen hY hl2
  refine M_loopI (fun i : Nat => ⟨[(0, .yld 999), (11, .vec 11 L.length), (12, .int .i64 L.length), (13, .int .i64 i)], [(999, .yl Y ((flD L i 0).map eS) false), (11, .vec 22 1 (L.map eR) 0)]⟩) (fun i => L.length - i) (fun i => i ≤ L.length) 0 ?_ ?_
  · rw [← hL]
    simp +contextual (maxSteps := 5000000) only [go_sem, ↓reduceIte, flD]
    rfl
  intro i hi
  by_cases hlt : i < L.length
  · have hat := eR_at L i hlt
    simp +contextual (maxSteps := 5000000) only [go_sem, ↓reduceIte, hlt, hat]
    refine fun _ => M_loopI (fun p : Nat => ⟨[(0, .yld 999), (11, .vec 11 L.length), (12, .int .i64 L.length), (13, .int .i64 i), (17, .sl 1 ((L.getD i []).map eS)), (18, .int .i64 (L.getD i []).length), (19, .int .i64 p)], [(999, .yl Y ((flD L i p).map eS) false), (11, .vec 22 1 (L.map eR) 0)]⟩) (fun p => (L.getD i []).length - p) (fun p => p ≤ (L.getD i []).length) 0 ?_ ?_
    · simp +contextual (maxSteps := 5000000) only [go_sem, ↓reduceIte]
      rfl
    intro p hp
    by_cases hlp : p < (L.getD i []).length
    · have hap := eS_at (L.getD i []) p hlp
      obtain ⟨q1, q2⟩ := flD_step hlt hlp
      rw [← hY] at q1
      simp +contextual (maxSteps := 5000000) only [go_sem, ↓reduceIte, hlp, hap]
      exact ⟨q1, fun b hb => ⟨inR64 (by omega) (by omega), fun _ => ⟨p + 1, ⟨by simp, q2⟩, by omega, by omega⟩⟩⟩
    · obtain rfl : p = (L.getD i []).length := by omega
      simp +contextual (maxSteps := 5000000) only [go_sem, ↓reduceIte, hlp, Nat.lt_irrefl]
      have he := flD_end hlt
      exact ⟨inR64 (by omega) (by omega), fun _ => ⟨i + 1, ⟨by simp, by rw [he]⟩, by omega, by omega⟩⟩
  obtain rfl : i = L.length := by omega
  simp +contextual (maxSteps := 5000000) only [go_sem, ↓reduceIte, hlt, Nat.lt_irrefl]
  rw [hY]
  unfold flD
  simp
end Go.Proofs.YtknkjakppikjeaaGreat
