/-
  What the functions compute that the law of this claim reaches. By an AI agent.
-/
import Derived.Test.YtknkjakppikjeaaGreatRows
import Derived.WalkKit
import Derived.ProofKit
import Derived.Test.YtknkjakppikjeaaGreatG0
set_option linter.unusedSimpArgs false
set_option linter.unusedVariables false

set_option linter.unusedSimpArgs false
namespace Go.Proofs.YtknkjakppikjeaaGreat
open Go.Tn
set_option maxHeartbeats 8000000
set_option maxRecDepth 100000
abbrev Str := List UInt8
structure Dl where
  A : List Str
  B : List Str
  cols : List (Int × Int)
  na : Int
  nb : Int
  rows : List (Int × Int)
  dels : List Ln
  inss : List Ln
  sets : List St6
  lost : List Sp
  gain : List Sp
def eDl (d : Dl) : List D := [.sl 1 (d.A.map eS), .sl 1 (d.B.map eS), .sl 2 (d.cols.map eP), .int .i64 d.na, .int .i64 d.nb, .sl 2 (d.rows.map eP), .sl 2 (d.dels.map eL), .sl 2 (d.inss.map eL), .sl 6 (d.sets.map eD6), .sl 3 (d.lost.map eSp), .sl 3 (d.gain.map eSp)]
theorem eD6_at (l : List St6) (i : Nat) (h : i < l.length) : (l.map eD6).getD i [] = [.int .i64 (l.getD i default).i, .int .i64 (l.getD i default).j, .int .i64 (l.getD i default).p, .int .i64 (l.getD i default).q, .str (l.getD i default).o, .str (l.getD i default).n] := at_of eD6 default l i h
def txL (l : List Ln) : List Str := l.flatMap (·.2)
def txS (l : List St6) : List Str := l.flatMap fun s => [s.o, s.n]
def txP (l : List Sp) : List Str := l.map (·.2.2)
def txF (d : Dl) : List Str := d.A ++ d.B ++ txL (d.dels ++ d.inss) ++ txS d.sets ++ txP (d.lost ++ d.gain)
theorem flat_succ {α : Type} {l : List α} {i : Nat} {d : α} (f : α → List Str) (h : i < l.length) : (l.take (i + 1)).flatMap f = (l.take i).flatMap f ++ f (l.getD i d) := by
  rw [List.take_add_one, List.getElem?_eq_getElem h, List.getD_eq_getElem?_getD, List.getElem?_eq_getElem h, List.flatMap_append]; simp
theorem flat_le {α : Type} (l : List α) (f : α → List Str) (i : Nat) : ((l.take i).flatMap f).length ≤ (l.flatMap f).length := by
  have : l.flatMap f = (l.take i).flatMap f ++ (l.drop i).flatMap f := by rw [← List.flatMap_append, List.take_append_drop]
  rw [this, List.length_append]; omega
theorem txP_succ {l : List Sp} {i : Nat} (h : i < l.length) : txP (l.take (i + 1)) = txP (l.take i) ++ [(l.getD i (0, 0, [])).2.2] := by
  unfold txP
  rw [List.take_add_one, List.getElem?_eq_getElem h, List.getD_eq_getElem?_getD, List.getElem?_eq_getElem h, List.map_append]; rfl
theorem gS (l : List Str) : gndL (l.map eS).flatten = true := gnd_eS l
theorem gSp (l : List Sp) : gndL (l.map eSp).flatten = true := gndR_of eSp (fun _ => rfl) l
theorem txS_len : ∀ l : List St6, (txS l).length = 2 * l.length
  | [] => rfl
  | x :: r => by have := txS_len r; simp only [txS, List.flatMap_cons, List.length_append, List.length_cons, List.length_nil] at this ⊢; omega
structure okDl (d : Dl) : Prop where
  A : d.A.length < 1000000
  B : d.B.length < 1000000
  cols : d.cols.length < 1000000
  rows : d.rows.length < 1000000
  dels : d.dels.length < 1000000
  inss : d.inss.length < 1000000
  sets : d.sets.length < 1000000
  lost : d.lost.length < 1000000
  gain : d.gain.length < 1000000
  cells : (txL (d.dels ++ d.inss)).length < 1000000
theorem fc_texts1 (d : Dl) (h : okDl d) : FC Tryz.prog 120 [.box (eDl d)] [] (.seq ((txF d).map eS)) := by
  obtain ⟨A, B, cols, na, nb, rows, dels, inss, sets, lost, gain⟩ := d
  obtain ⟨hA, hB, _, _, hde, hin, hse, hlo, hga, hce⟩ := h
  simp only at hA hB hde hin hse hlo hga hce
  unfold txF eDl
  simp only
  refine fcy_M (fn := Tryz.f120) (C := (tab [(121, c_Cat 9 1), (122, c_Cat 52 2), (123, c_Cat 71 3)] [] [5001])) mixed (by kernel_rfl) (by kernel_rfl) rfl rfl (by kernel_rfl) (by kernel_rfl) ?_
  have hs1 := st_ConcatS
  have hs2 := st_ConcatL
  have hs3 := st_ConcatP
  have e1 : A.map eS ++ B.map eS = (A ++ B).map eS := by simp
  have e2 : dels.map eL ++ inss.map eL = (dels ++ inss).map eL := by simp
  have e3 : lost.map eSp ++ gain.map eSp = (lost ++ gain).map eSp := by simp
  have n1 : (A ++ B).length < 2000000 := by rw [List.length_append]; omega
  have n2 : (dels ++ inss).length < 2000000 := by rw [List.length_append]; omega
  have n3 : (lost ++ gain).length < 2000000 := by rw [List.length_append]; omega
  simp +contextual (maxSteps := 5000000) only [go_sem, ↓reduceIte, c_Cat, hs1, e1, gS]
  refine ⟨by simp only [List.length_map, List.length_append] at *; omega, ?_⟩
  refine M_join (fun _ : Unit => ⟨[(0, .yld 999), (1, .box [.sl 1 (A.map eS), .sl 1 (B.map eS), .sl 2 (cols.map eP), .int .i64 na, .int .i64 nb, .sl 2 (rows.map eP), .sl 2 (dels.map eL), .sl 2 (inss.map eL), .sl 6 (sets.map eD6), .sl 3 (lost.map eSp), .sl 3 (gain.map eSp)]), (3, .vec 17 (A ++ B).length), (23, .vec 23 (dels ++ inss).length), (24, .int .i64 (dels ++ inss).length), (25, .int .i64 0)],
    [(999, .yl ((A ++ B ++ txL (dels ++ inss) ++ txS sets ++ txP (lost ++ gain)).map eS) [] false), (17, .vec 9 1 ((A ++ B).map eS) 0), (23, .vec 52 2 ((dels ++ inss).map eL) 0)]⟩) (fun _ => True) ?_ ?_
  · cases hg : gndL ((dels ++ inss).map eL).flatten
    · simp +contextual (maxSteps := 5000000) only [go_sem, ↓reduceIte, c_Cat, hs2, e2, hg]
      exact ⟨by omega, ⟨(), trivial⟩⟩
    · simp +contextual (maxSteps := 5000000) only [go_sem, ↓reduceIte, c_Cat, hs2, e2, hg]
      exact ⟨by omega, ⟨(), trivial⟩⟩
  · intro _ _
    generalize hAB : A ++ B = l1 at *
    generalize hDI : dels ++ inss = l2 at *
    generalize hLG : lost ++ gain = l3 at *
    generalize hYS : (l1 ++ txL l2 ++ txS sets ++ txP l3) = ys
    simp +contextual (maxSteps := 5000000) only [go_sem, ↓reduceIte]
    refine M_loopI (fun i : Nat => ⟨[(0, .yld 999), (1, .box [.sl 1 (A.map eS), .sl 1 (B.map eS), .sl 2 (cols.map eP), .int .i64 na, .int .i64 nb, .sl 2 (rows.map eP), .sl 2 (dels.map eL), .sl 2 (inss.map eL), .sl 6 (sets.map eD6), .sl 3 (lost.map eSp), .sl 3 (gain.map eSp)]), (3, .vec 17 (l1 ++ txL (l2.take i)).length), (23, .vec 23 l2.length), (24, .int .i64 l2.length), (25, .int .i64 i)],
      [(999, .yl (ys.map eS) [] false), (17, .vec 9 1 ((l1 ++ txL (l2.take i)).map eS) 0), (23, .vec 52 2 (l2.map eL) 0)]⟩) (fun i => l2.length - i) (fun i => i ≤ l2.length) 0 ?_ ?_
    · simp +contextual (maxSteps := 5000000) only [go_sem, ↓reduceIte, txL, List.flatMap_nil]
      rfl
    · intro i hi
      by_cases hlt : i < l2.length
      · have h2 := flat_succ (d := ((0 : Int), ([] : List Str))) (fun x : Ln => x.2) hlt
        have h3 := flat_le l2 (fun x : Ln => x.2) (i + 1)
        have h4 : (txL l2).length < 1000000 := hce
        unfold txL at *
        rw [h2, List.length_append] at h3
        simp +contextual (maxSteps := 5000000) only [go_sem, ↓reduceIte, eI_at, eI_set, List.length_set, tn_add, tn_add1, tn_sub, tn_sub1, sh1, sh1b, half_cast, hlt, eL_at]
        exact ⟨by omega, fun _ => ⟨inR64 (by omega) (by omega), fun _ => ⟨i + 1, ⟨⟨by rw [h2, List.length_append, Nat.add_assoc], by simp⟩, by rw [h2]; simp⟩, by omega, by omega⟩⟩⟩
      · have he : i = l2.length := by omega
        subst he
        simp +contextual (maxSteps := 5000000) only [go_sem, ↓reduceIte, hlt, List.take_length]
        refine fun _ => M_loopI (fun i : Nat => ⟨[(0, .yld 999), (1, .box [.sl 1 (A.map eS), .sl 1 (B.map eS), .sl 2 (cols.map eP), .int .i64 na, .int .i64 nb, .sl 2 (rows.map eP), .sl 2 (dels.map eL), .sl 2 (inss.map eL), .sl 6 (sets.map eD6), .sl 3 (lost.map eSp), .sl 3 (gain.map eSp)]), (3, .vec 17 (l1 ++ txL l2 ++ txS (sets.take i)).length), (35, .sl 6 (sets.map eD6)), (36, .int .i64 sets.length), (37, .int .i64 i)],
          [(999, .yl (ys.map eS) [] false), (17, .vec 9 1 ((l1 ++ txL l2 ++ txS (sets.take i)).map eS) 0)]⟩) (fun i => sets.length - i) (fun i => i ≤ sets.length) 0 ?_ ?_
        · simp +contextual (maxSteps := 5000000) only [go_sem, ↓reduceIte, txS, List.flatMap_nil]
          rfl
        · intro i hi
          by_cases hlt : i < sets.length
          · have h2 : txS (sets.take (i + 1)) = txS (sets.take i) ++ [(sets.getD i default).o, (sets.getD i default).n] := flat_succ (d := (default : St6)) (fun s : St6 => [s.o, s.n]) hlt
            have h3 := txS_len (sets.take i)
            rw [List.length_take] at h3
            simp +contextual (maxSteps := 5000000) only [go_sem, ↓reduceIte, eI_at, eI_set, List.length_set, tn_add, tn_add1, tn_sub, tn_sub1, sh1, sh1b, half_cast, hlt, eD6_at]
            exact ⟨by omega, fun _ => ⟨inR64 (by omega) (by omega), fun _ => ⟨i + 1, ⟨⟨by rw [h2, List.length_append]; rfl, by simp⟩, by rw [h2]; simp [eS]⟩, by omega, by omega⟩⟩⟩
          · have he : i = sets.length := by omega
            subst he
            have h3 := txS_len sets
            simp +contextual (maxSteps := 5000000) only [go_sem, ↓reduceIte, hlt, List.take_length, c_Cat, hs3, e3, gSp]
            refine ⟨by omega, ?_⟩
            refine M_loopI (fun i : Nat => ⟨[(0, .yld 999), (3, .vec 17 (l1 ++ txL l2 ++ txS sets ++ txP (l3.take i)).length), (54, .vec 54 l3.length), (55, .int .i64 l3.length), (56, .int .i64 i)],
              [(999, .yl (ys.map eS) [] false), (17, .vec 9 1 ((l1 ++ txL l2 ++ txS sets ++ txP (l3.take i)).map eS) 0), (54, .vec 71 3 (l3.map eSp) 0)]⟩) (fun i => l3.length - i) (fun i => i ≤ l3.length) 0 ?_ ?_
            · simp +contextual (maxSteps := 5000000) only [go_sem, ↓reduceIte, txP]
              rfl
            · intro i hi
              by_cases hlt : i < l3.length
              · have h2 := txP_succ hlt
                have h4 : (txP (l3.take i)).length ≤ i := by unfold txP; rw [List.length_map, List.length_take]; omega
                simp +contextual (maxSteps := 5000000) only [go_sem, ↓reduceIte, eI_at, eI_set, List.length_set, tn_add, tn_add1, tn_sub, tn_sub1, sh1, sh1b, half_cast, hlt, eSp_at]
                exact ⟨by omega, fun _ => ⟨inR64 (by omega) (by omega), fun _ => ⟨i + 1, ⟨⟨by rw [h2, List.length_append]; rfl, by simp⟩, by rw [h2]; simp [eS]⟩, by omega, by omega⟩⟩⟩
              · have he : i = l3.length := by omega
                subst he
                simp +contextual (maxSteps := 5000000) only [go_sem, ↓reduceIte, hlt, List.take_length]
                rw [← List.length_append, ← List.length_append, ← List.length_append, hYS]
                have hy : ys.length < 1000000000 := by
                  rw [← hYS]
                  have : (txP l3).length = l3.length := by unfold txP; simp
                  simp only [List.length_append]; omega
                refine M_loopI (fun i : Nat => ⟨[(0, .yld 999), (66, .vec 17 ys.length), (67, .int .i64 ys.length), (68, .int .i64 i)],
                  [(999, .yl (ys.map eS) ((ys.take i).map eS) false), (17, .vec 9 1 (ys.map eS) 0)]⟩) (fun i => ys.length - i) (fun i => i ≤ ys.length) 0 ?_ ?_
                · simp +contextual (maxSteps := 5000000) only [go_sem, ↓reduceIte]
                  rfl
                · intro i hi
                  by_cases hlt : i < ys.length
                  · obtain ⟨q1, q2⟩ := yl_gen (e := eS) (d := []) hlt
                    simp +contextual (maxSteps := 5000000) only [go_sem, ↓reduceIte, eI_at, eI_set, List.length_set, tn_add, tn_add1, tn_sub, tn_sub1, sh1, sh1b, half_cast, eS_at, hlt]
                    exact ⟨q1, fun b hb => ⟨inR64 (by omega) (by omega), fun _ => ⟨i + 1, ⟨by simp, q2⟩, by omega, by omega⟩⟩⟩
                  · simp +contextual (maxSteps := 5000000) only [go_sem, ↓reduceIte, hlt]
                    rw [show i = ys.length by omega, List.take_length]
theorem fc_texts (d : Dl) : FC Tryz.prog 105 [] [.agg (eDl d)] (.ret (.fn 120 [] [.box (eDl d)])) := by
  unfold eDl
  refine fc_M (fn := Tryz.f105) (C := (tab [] [])) (rs := [2]) mixed (by kernel_rfl) (by kernel_rfl) rfl rfl (by kernel_rfl) (by intro ys h; cases h) ?_
  simp +contextual (maxSteps := 5000000) only [go_sem, ↓reduceIte]
end Go.Proofs.YtknkjakppikjeaaGreat

set_option linter.unusedSimpArgs false
namespace Go.Proofs.YtknkjakppikjeaaGreat
open Go.Tn
set_option maxHeartbeats 8000000
set_option maxRecDepth 100000
/- the document's put -/
def befF (a b : St6) : Bool := decide (a.j < b.j) || (decide (a.j = b.j) && decide (a.q < b.q))
def c_bef (caps args : List D) : Prop × Out := match caps, args with
  | [], [.agg [.int .i64 a, .int .i64 b, .int .i64 c, .int .i64 d, .str e, .str f], .agg [.int .i64 a', .int .i64 b', .int .i64 c', .int .i64 d', .str e', .str f']] => (True, .ret (.bool (befF ⟨a, b, c, d, e, f⟩ ⟨a', b', c', d', e', f'⟩)))
  | _, _ => (False, .ret .any)
theorem fc_bef (a b : St6) : FC Tryz.prog 81 [] [.agg (eD6 a), .agg (eD6 b)] (.ret (.bool (befF a b))) := by
  unfold eD6 befF
  refine fc_M (fn := Tryz.f81) (C := (tab [] [])) (rs := [4]) mixed (by kernel_rfl) (by kernel_rfl) rfl rfl (by kernel_rfl) (by intro ys h; cases h) ?_
  by_cases h1 : a.j < b.j
  · simp +contextual (maxSteps := 5000000) only [go_sem, ↓reduceIte, h1]
  · by_cases h2 : a.j = b.j
    · have h3 : ¬ b.j < b.j := by omega
      simp +contextual (maxSteps := 5000000) only [go_sem, ↓reduceIte, h1, h2, h3]
    · simp +contextual (maxSteps := 5000000) only [go_sem, ↓reduceIte, h1, h2]
theorem st_bef : StC Tryz.prog 81 c_bef := by
  intro caps args; unfold c_bef; split
  · exact fun _ => fc_bef ⟨_, _, _, _, _, _⟩ ⟨_, _, _, _, _, _⟩
  · exact fun h => h.elim
def kAt (l : List St6) (x : St6) : Nat → Nat
  | 0 => 0
  | i + 1 => if befF x (l.getD i default) = true then kAt l x i else i + 1
theorem kAt_le (l : List St6) (x : St6) : ∀ i, kAt l x i ≤ i
  | 0 => Nat.le_refl _
  | i + 1 => by have := kAt_le l x i; unfold kAt; split <;> omega
def putF (l : List St6) (x : St6) : List St6 := l.take (kAt l x l.length) ++ x :: l.drop (kAt l x l.length)
theorem fc_put (l : List St6) (x : St6) (hl : l.length < 1000000000) : FC Tryz.prog 31 [] [.sl 6 (l.map eD6), .agg (eD6 x)] (.own 47 6 ((putF l x).map eD6)) := by
  unfold putF
  have ex : eD6 x = [.int .i64 x.i, .int .i64 x.j, .int .i64 x.p, .int .i64 x.q, .str x.o, .str x.n] := rfl
  refine fc_M (fn := Tryz.f31) (C := (tab [(81, c_bef)] [])) (rs := [4]) mixed (by kernel_rfl) (by kernel_rfl) rfl rfl (by kernel_rfl) (by intro ys h; cases h) ?_
  simp +contextual (maxSteps := 5000000) only [go_sem, ↓reduceIte, ex]
  refine M_loopI (fun i : Nat => ⟨[(0, .sl 6 (l.map eD6)), (3, .loc 3 0), (5, .int .i64 (kAt l x i)), (6, .int .i64 i)], [(3, .blk [.int .i64 x.i, .int .i64 x.j, .int .i64 x.p, .int .i64 x.q, .str x.o, .str x.n] false)]⟩) (fun i => l.length - i) (fun i => i ≤ l.length) 0 ?_ ?_
  · simp +contextual (maxSteps := 5000000) only [go_sem, ↓reduceIte, kAt]
    rfl
  · intro i hi
    have hk := kAt_le l x i
    by_cases hlt : i < l.length
    · have hat := eD6_at l i hlt
      have hb : befF ⟨x.i, x.j, x.p, x.q, x.o, x.n⟩ ⟨(l.getD i default).i, (l.getD i default).j, (l.getD i default).p, (l.getD i default).q, (l.getD i default).o, (l.getD i default).n⟩ = befF x (l.getD i default) := rfl
      have hs : kAt l x (i + 1) = if befF x (l.getD i default) = true then kAt l x i else i + 1 := rfl
      cases q : befF x (l.getD i default)
      · rw [q] at hs
        simp +contextual (maxSteps := 5000000) only [go_sem, ↓reduceIte, eI_at, eI_set, List.length_set, tn_add, tn_add1, tn_sub, tn_sub1, sh1, sh1b, half_cast, hlt, hat, c_bef, st_bef, hb, q]
        refine fun _ => ⟨inR64 (by omega) (by omega), fun _ => ⟨i + 1, ⟨by rw [hs]; simp, by simp⟩, by omega, by omega⟩⟩
      · rw [q] at hs
        simp +contextual (maxSteps := 5000000) only [go_sem, ↓reduceIte, eI_at, eI_set, List.length_set, tn_add, tn_add1, tn_sub, tn_sub1, sh1, sh1b, half_cast, hlt, hat, c_bef, st_bef, hb, q]
        refine fun _ => ⟨inR64 (by omega) (by omega), fun _ => ⟨i + 1, ⟨by rw [hs]; simp, by simp⟩, by omega, by omega⟩⟩
    · obtain rfl : i = l.length := by omega
      simp +contextual (maxSteps := 5000000) only [go_sem, ↓reduceIte, eI_at, eI_set, List.length_set, tn_add, tn_add1, tn_sub, tn_sub1, sh1, sh1b, half_cast, hlt, Nat.lt_irrefl, Int.toNat_zero, Int.reduceToNat, Nat.sub_zero, Nat.le_refl, List.length_drop]
      refine fun _ => ⟨⟨by omega, hk⟩, fun _ => ⟨by omega, fun _ => ⟨by omega, fun _ => ⟨by omega, fun _ => ?_⟩⟩⟩⟩
      have h1 : (l.map eD6).drop (kAt l x l.length) = (l.drop (kAt l x l.length)).map eD6 := by rw [List.map_drop]
      have h2 : (l.map eD6).take (kAt l x l.length) = (l.take (kAt l x l.length)).map eD6 := by rw [List.map_take]
      have h3 : ((l.map eD6).drop (kAt l x l.length)).take (l.length - kAt l x l.length) = (l.drop (kAt l x l.length)).map eD6 := by rw [h1]; exact List.take_of_length_le (by simp)
      rw [h2, h3]
      simp [eD6]
def d6 (r : List D) : St6 := match r with | [.int _ a, .int _ b, .int _ c, .int _ d, .str e, .str f] => ⟨a, b, c, d, e, f⟩ | _ => default
theorem d6_eD6 (l : List St6) : (l.map eD6).map d6 = l := by
  induction l with
  | nil => rfl
  | cons x l ih => rw [List.map_cons, List.map_cons, ih]; rfl
def c_put (caps args : List D) : Prop × Out := match caps, args with
  | [], [.sl 6 rows, .agg [.int .i64 a, .int .i64 b, .int .i64 c, .int .i64 d, .str e, .str f]] => (rows = (rows.map d6).map eD6 ∧ rows.length < 1000000000, .own 47 6 ((putF (rows.map d6) ⟨a, b, c, d, e, f⟩).map eD6))
  | _, _ => (False, .ret .any)
theorem st_put : StC Tryz.prog 31 c_put := by
  intro caps args; unfold c_put; split
  · rename_i rows a b c d e f
    rintro ⟨h1, h2⟩
    have := fc_put (rows.map d6) ⟨a, b, c, d, e, f⟩ (by simpa using h2)
    rw [← h1] at this
    exact this
  · exact fun h => h.elim
end Go.Proofs.YtknkjakppikjeaaGreat

set_option linter.unusedSimpArgs false
namespace Go.Proofs.YtknkjakppikjeaaGreat
open Go.Tn
set_option maxHeartbeats 8000000
set_option maxRecDepth 100000
/- pairs of so many with themselves -/
def ownAt (l : List (Int × Int)) (k : Nat) : Prop := ∀ j, j < k → l.getD j (0, 0) = ((j : Int), (j : Int))
def ownF (l : List (Int × Int)) (n : Int) : Bool := (List.range l.length).all (fun j => decide (l.getD j (0, 0) = ((j : Int), (j : Int)))) && decide ((l.length : Int) = n)
end Go.Proofs.YtknkjakppikjeaaGreat

set_option linter.unusedSimpArgs false
namespace Go.Proofs.YtknkjakppikjeaaGreat
open Go.Tn
set_option maxHeartbeats 8000000
set_option maxRecDepth 100000
theorem fc_EqualS (l k : List (Str)) : FC Tryz.prog 36 [] [.sl 1 (l.map eS), .sl 1 (k.map eS)] (.ret (.bool (decide (l = k)))) := by
  refine fc_M (fn := Tryz.f36) (C := (tab [] [])) (rs := [4]) mixed (by kernel_rfl) (by kernel_rfl) rfl rfl (by kernel_rfl) (by intro ys h; cases h) ?_
  by_cases hlen : l.length = k.length
  · simp +contextual (maxSteps := 5000000) only [go_sem, ↓reduceIte, hlen]
    intro _
    refine M_loopI (fun i : Nat => ⟨[(0, .sl 1 (l.map eS)), (1, .sl 1 (k.map eS)), (11, .sl 1 (l.map eS)), (12, .int .i64 k.length), (13, .int .i64 i)], []⟩) (fun i => l.length - i) (fun i => i ≤ l.length ∧ ∀ j, j < i → l.getD j [] = k.getD j []) 0 ?_ ?_
    · simp +contextual (maxSteps := 5000000) only [go_sem, ↓reduceIte]
      rfl
    · intro i hi
      obtain ⟨hi, ho⟩ := hi
      by_cases hlt : i < k.length
      · have ha := eS_at l i (by omega)
        have hb := eS_at k i hlt
        have hl2 : i < l.length := by omega
        generalize hx : l.getD i [] = x at ha
        generalize hy : k.getD i [] = y at hb
        by_cases q : x = y
        · subst q
          simp +contextual (maxSteps := 5000000) only [go_sem, ↓reduceIte, hlt, hl2, ha, hb, eq_self]
          try intro _
          refine ⟨inR64 (by omega) (by omega), fun _ => ⟨i + 1, by simp, by omega, by omega, fun j hj => ?_⟩⟩
          rcases lt_cases hj with h | rfl
          · exact ho j h
          · rw [hx, hy]
        · have hne : ¬ l = k := fun h => q (by rw [← hx, ← hy, h])
          have hd : decide (l = k) = false := decide_eq_false hne
          rw [hd]
          simp +contextual (maxSteps := 5000000) only [go_sem, ↓reduceIte, hlt, hl2, ha, hb, q]
      · have hd : decide (l = k) = true := decide_eq_true (eq_of_at [] hlen (fun j hj => ho j (by omega)))
        rw [hd]
        have hl3 : ¬ i < l.length := by omega
        simp +contextual (maxSteps := 5000000) only [go_sem, ↓reduceIte, hlt, hl3]
  · have hd : decide (l = k) = false := decide_eq_false (fun h => hlen (by rw [h]))
    rw [hd]
    simp +contextual (maxSteps := 5000000) only [go_sem, ↓reduceIte, hlen]
theorem fc_RefS (l k : List (Str)) : FC Tryz.prog 28 [] [.sl 1 (l.map eS), .sl 1 (k.map eS)] (.ret (.bool (decide (l = k)))) := by
  refine fc_M (fn := Tryz.f28) (C := (tab [] [])) (rs := [4]) mixed (by kernel_rfl) (by kernel_rfl) rfl rfl (by kernel_rfl) (by intro ys h; cases h) ?_
  by_cases hlen : l.length = k.length
  · simp +contextual (maxSteps := 5000000) only [go_sem, ↓reduceIte, hlen]
    intro _
    refine M_loopI (fun i : Nat => ⟨[(0, .sl 1 (l.map eS)), (1, .sl 1 (k.map eS)), (5, .int .i64 i)], []⟩) (fun i => l.length - i) (fun i => i ≤ l.length ∧ ∀ j, j < i → l.getD j [] = k.getD j []) 0 ?_ ?_
    · simp +contextual (maxSteps := 5000000) only [go_sem, ↓reduceIte]
      rfl
    · intro i hi
      obtain ⟨hi, ho⟩ := hi
      by_cases hlt : i < k.length
      · have ha := eS_at l i (by omega)
        have hb := eS_at k i hlt
        have hl2 : i < l.length := by omega
        generalize hx : l.getD i [] = x at ha
        generalize hy : k.getD i [] = y at hb
        by_cases q : x = y
        · subst q
          simp +contextual (maxSteps := 5000000) only [go_sem, ↓reduceIte, hlt, hl2, ha, hb, eq_self]
          try intro _
          refine ⟨inR64 (by omega) (by omega), fun _ => ⟨i + 1, by simp, by omega, by omega, fun j hj => ?_⟩⟩
          rcases lt_cases hj with h | rfl
          · exact ho j h
          · rw [hx, hy]
        · have hne : ¬ l = k := fun h => q (by rw [← hx, ← hy, h])
          have hd : decide (l = k) = false := decide_eq_false hne
          rw [hd]
          simp +contextual (maxSteps := 5000000) only [go_sem, ↓reduceIte, hlt, hl2, ha, hb, q]
      · have hd : decide (l = k) = true := decide_eq_true (eq_of_at [] hlen (fun j hj => ho j (by omega)))
        rw [hd]
        have hl3 : ¬ i < l.length := by omega
        simp +contextual (maxSteps := 5000000) only [go_sem, ↓reduceIte, hlt, hl3]
        try exact fun _ => rfl
  · have hd : decide (l = k) = false := decide_eq_false (fun h => hlen (by rw [h]))
    rw [hd]
    simp +contextual (maxSteps := 5000000) only [go_sem, ↓reduceIte, hlen]
end Go.Proofs.YtknkjakppikjeaaGreat

set_option linter.unusedSimpArgs false
namespace Go.Proofs.YtknkjakppikjeaaGreat
open Go.Tn
set_option maxHeartbeats 8000000
set_option maxRecDepth 100000
def c_EqS (caps args : List D) : Prop × Out := match caps, args with | [], [.sl 1 a, .sl 1 b] => (a = (a.map dS).map eS ∧ b = (b.map dS).map eS, .ret (.bool (decide (a.map dS = b.map dS)))) | _, _ => (False, .ret .any)
theorem st_EqS : StC Tryz.prog 36 c_EqS := by
  intro caps args; unfold c_EqS; split
  · rename_i a b
    rintro ⟨h1, h2⟩
    have := fc_EqualS (a.map dS) (b.map dS)
    rw [← h1, ← h2] at this
    exact this
  · exact fun h => h.elim
def c_own (caps args : List D) : Prop × Out := match caps, args with | [], [.sl 2 a, .int .i64 n] => (a = (a.map dP).map eP ∧ a.length < 1000000000, .ret (.bool (ownF (a.map dP) n))) | _, _ => (False, .ret .any)
def noneF (d : Dl) : Bool := decide (d.A = d.B) && ownF d.cols d.A.length && decide (d.na = d.nb) && ownF d.rows d.na && decide (d.dels.length + d.inss.length + d.sets.length + d.lost.length + d.gain.length = 0)
end Go.Proofs.YtknkjakppikjeaaGreat

set_option linter.unusedSimpArgs false
namespace Go.Proofs.YtknkjakppikjeaaGreat
open Go.Tn
set_option maxHeartbeats 8000000
set_option maxRecDepth 100000
theorem tyErrno : (tyOf Tryz.prog 35) = ⟨.int .i64, [.int .i64 0], [], 0, 0, false, 0, 8⟩ := by kernel_rfl
theorem tfErrno : TyFact Tryz.prog 35 ⟨.int .i64, [.int .i64 0], [], 0, 0, false, 0, 8⟩ := by
  have h := tyOf_fact (P := Tryz.prog) (t := 35) (by rw [tyErrno]; intro h; cases h)
  rwa [tyErrno] at h
theorem dg_Check : DfG Tryz.prog 93 35 := by
  have h0 : (Tryz.prog.funcs[93]?) = some Tryz.f93 := by kernel_rfl
  have hs : (Tryz.prog.funcs[93]?).isSome = true := by rw [h0]; rfl
  refine ⟨⟨Tryz.f93, h0, by kernel_rfl, by kernel_rfl⟩, fun ad w => ?_, fun ad x n w hc hz => ?_⟩
  · refine callsDIn_of_wpSIn (fn := Tryz.f93) h0 rfl hs fun c₀ cs hu => ?_
    apply wpSIn_seq
    apply wpSIn_region
    simp [wpOpsSIn, go_sem, recoverD, hu, Exit.thenS, run_ta_nil tfErrno rfl rfl, Instr.extract, Tryz.f93]
    apply wpSIn_seq
    apply wpSIn_region
    simp [wpOpsSIn, go_sem, Exit.thenS]
    refine wpSIn_cond (t := false) (by simp [Act.eval, Array.replicate]) ?_
    simp only [Bool.false_eq_true, if_false]
    refine wpSIn_of_wpIn rfl (wpIn_skip ?_)
    cases c₀
    simp_all [bodyPostS, results, Tryz.f93]
  · refine callsDIn_of_wpSIn (fn := Tryz.f93) h0 rfl hs fun c₀ cs hu => ?_
    apply wpSIn_seq
    apply wpSIn_region
    simp [wpOpsSIn, go_sem, recoverD, hu, Exit.thenS, run_ta_yes tfErrno rfl, Instr.extract, Tryz.f93]
    apply wpSIn_seq
    apply wpSIn_region
    simp [wpOpsSIn, go_sem, Exit.thenS]
    refine wpSIn_cond (t := true) (by simp [Act.eval, Array.replicate]) ?_
    simp only [if_true]
    apply wpSIn_region
    simp [wpOpsSIn, go_sem, hc, hz, bodyPostS, results, Tryz.f93]
end Go.Proofs.YtknkjakppikjeaaGreat

set_option linter.unusedSimpArgs false
namespace Go.Proofs.YtknkjakppikjeaaGreat
open Go.Tn
set_option maxHeartbeats 8000000
set_option maxRecDepth 100000
def dL (r : List D) : Ln := (iOf (r.headD .any), (rowsOf (r.tail.headD .any)).map dS)
def dSp (r : List D) : Sp := (iOf (r.headD .any), iOf (r.tail.headD .any), sOf (r.tail.tail.headD .any))
theorem dL_eL (l : List Ln) : (l.map eL).map dL = l := by
  induction l with
  | nil => rfl
  | cons x l ih =>
    rw [List.map_cons, List.map_cons, ih]
    simp only [dL, eL, List.headD_cons, List.tail_cons, rowsOf, iOf]
    rw [dS_eS]
theorem dSp_eSp (l : List Sp) : (l.map eSp).map dSp = l := by induction l <;> simp_all [eSp, dSp, iOf, sOf]
def c_mL (caps args : List D) : Prop × Out := match caps, args with
  | [], [.sl 2 rows, .fn g [] [.box [.sl 1 ks]], .fn h [] [.box [.int .i64 w]]] => (((g = 117 ∧ h = 97) ∧ rows = (rows.map dL).map eL ∧ ks = (ks.map dI).map eI) ∧ rows.length < 1000000000 ∧ ks.length < 1000000000, mtO (mtF (isL w) (rows.map dL) (ks.map dI)))
  | _, _ => (False, .ret .any)
theorem st_mL : StC Tryz.prog 98 c_mL := by
  intro caps args; unfold c_mL; split
  · rename_i rows g ks h w
    rintro ⟨⟨⟨rfl, rfl⟩, h1, h2⟩, h3, h4⟩
    have := fc_matchL (rows.map dL) w (ks.map dI) (by simpa using h3) (by simpa using h4)
    rw [← h1, ← h2] at this
    exact this
  · exact fun h => h.elim
def c_mS (caps args : List D) : Prop × Out := match caps, args with
  | [], [.sl 3 rows, .fn g [] [.box [.sl 1 a], .box [.sl 1 b]], .fn h [] []] => (((g = 118 ∧ h = 100) ∧ rows = (rows.map dSp).map eSp ∧ a = (a.map dI).map eI ∧ b = (b.map dI).map eI) ∧ rows.length < 1000000000 ∧ a.length < 1000000000 ∧ b.length < 1000000000, mtO (mtF isS (rows.map dSp) (crF (a.map dI) (b.map dI))))
  | _, _ => (False, .ret .any)
theorem st_mS : StC Tryz.prog 101 c_mS := by
  intro caps args; unfold c_mS; split
  · rename_i rows g a b h
    rintro ⟨⟨⟨rfl, rfl⟩, h1, h2, h5⟩, h3, h4, h6⟩
    have := fc_matchS (rows.map dSp) (a.map dI) (b.map dI) (by simpa using h3) (by simpa using h4) (by simpa using h6)
    rw [← h1, ← h2, ← h5] at this
    exact this
  · exact fun h => h.elim
def c_ord (caps args : List D) : Prop × Out := match caps, args with
  | [], [.agg [.int .i64 a, .int .i64 b, .int .i64 c, .int .i64 d, .str e, .str f], .agg [.int .i64 a', .int .i64 b', .int .i64 c', .int .i64 d', .str e', .str f']] => (True, .ret (.int .i64 (ordF ⟨a, b, c, d, e, f⟩ ⟨a', b', c', d', e', f'⟩)))
  | _, _ => (False, .ret .any)
theorem st_ord : StC Tryz.prog 77 c_ord := by
  intro caps args; unfold c_ord; split
  · exact fun _ => fc_order ⟨_, _, _, _, _, _⟩ ⟨_, _, _, _, _, _⟩
  · exact fun h => h.elim
def c_tx (d : Dl) (caps args : List D) : Prop × Out := match caps, args with
  | [], [x] => (x = .agg (eDl d), .ret (.fn 120 [] [.box (eDl d)]))
  | _, _ => (False, .ret .any)
theorem st_tx (d : Dl) : StC Tryz.prog 105 (c_tx d) := by
  intro caps args; unfold c_tx; split
  · rintro rfl; exact fc_texts d
  · exact fun h => h.elim
def c_tx1 (d : Dl) (caps args : List D) : Prop × Out := match caps, args with
  | [.box cs], [] => (cs = eDl d ∧ okDl d, .seq ((txF d).map eS))
  | _, _ => (False, .ret .any)
theorem st_tx1 (d : Dl) : StC Tryz.prog 120 (c_tx1 d) := by
  intro caps args; unfold c_tx1; split
  · rintro ⟨rfl, h⟩; exact fc_texts1 d h
  · exact fun h => h.elim
def setAt6 (d : Dl) (i : Nat) : St6 := d.sets.getD i default
def okS (d : Dl) (i : Nat) : Bool :=
  let x := setAt6 d i
  decide ((x.i, x.j) ∈ d.rows) && decide ((x.p, x.q) ∈ d.cols) && decide (x.o ≠ x.n) && (decide (i = 0) || decide (ordF (setAt6 d (i - 1)) x < 0))
def goneR (d : Dl) : List Int := rsL (d.rows.map (·.1)) d.na.toNat
def newR' (d : Dl) : List Int := rsL (d.rows.map (·.2)) d.nb.toNat
def goneC (d : Dl) : List Int := rsL (d.cols.map (·.1)) d.A.length
def newC (d : Dl) : List Int := rsL (d.cols.map (·.2)) d.B.length
def chkD (d : Dl) : Int :=
  if ¬ (0 < d.A.length ∧ 0 < d.B.length) then 8
  else if ¬ (onceF d.A = true ∧ onceF d.B = true) then 10
  else if ¬ ((d.A.length ≤ 40 ∧ d.B.length ≤ 40) ∧ d.na ≤ 400 ∧ d.nb ≤ 400) then 7
  else if chk d.cols d.A.length d.B.length ≠ 0 then chk d.cols d.A.length d.B.length
  else if chk d.rows d.na d.nb ≠ 0 then chk d.rows d.na d.nb
  else if ¬ (mtF (isL d.A.length) d.dels (goneR d) = true ∧ mtF (isL d.B.length) d.inss (newR' d) = true) then 13
  else if ¬ (mtF isS d.lost (crF (wiF (goneR d) d.na.toNat) (goneC d)) = true ∧ mtF isS d.gain (crF (wiF (newR' d) d.nb.toNat) (newC d)) = true) then 13
  else if ∃ i, i < d.sets.length ∧ okS d i = false then 13
  else if ∃ s ∈ txF d, 1000 < s.length then 7 else 0
theorem gI (l : List Int) : gndL (l.map eI).flatten = true := gnd_eI l
theorem fc_DCheck (d : Dl) (h : okDl d) (hna : d.na < 1000000000) (hnb : d.nb < 1000000000) : FC Tryz.prog 54 [] [.agg (eDl d)] (.ret (.int .i64 (chkD d))) := by
  have hh := h
  obtain ⟨hA, hB, hco, hro, hde, hin, hse, hlo, hga, hce⟩ := h
  refine fcd_of (fn := Tryz.f54) (g := 93) (et := 35) (rt := 35) (r := 2) (tf := 14) (i := 2) (C := tab [(46, c_Check), (49, c_RestA), (50, c_RestB), (95, c_once), (94, c_need), (96, c_whole), (99, c_Values), (98, c_mL), (103, c_within), (102, c_cross), (101, c_mS), (104, c_contP), (77, c_ord), (105, c_tx d), (120, c_tx1 d)] [] [5002, 5003, 5004, 5005, 5011, 5013, 5014, 5016, 5017, 9013, 9014, 9016, 9017, 9022])
    (hd := ⟨[(1, .loc 1 0), (2, .loc 2 0)], [(1, .blk (eDl d) false), (2, .blk [.int .i64 0] false)]⟩) mixed (by kernel_rfl) (by kernel_rfl) rfl rfl tfErrno rfl ⟨rfl, rfl, rfl⟩ ⟨rfl, rfl, rfl⟩ ⟨by decide, by decide⟩ ⟨by kernel_rfl, by kernel_rfl⟩ (by kernel_rfl) dg_Check ⟨rfl, rfl, trivial⟩ ?_ ?_
  · unfold eDl
    simp +contextual (maxSteps := 5000000) only [go_sem, ↓reduceIte]
  · unfold eDl
    simp +contextual (maxSteps := 5000000) only [go_sem, ↓reduceIte]
    refine M_join (fun _ : Unit => ⟨[(1, .loc 1 0), (2, .loc 2 0)], [(1, .blk (eDl d) false), (2, .blk [.int .i64 0] false)]⟩) (fun _ => 0 < d.A.length ∧ 0 < d.B.length) ?_ ?_
    · have e8 : ¬ (0 < d.A.length ∧ 0 < d.B.length) → 8 = chkD d := fun h => by unfold chkD; rw [if_pos h]
      by_cases a : (0 : Int) < d.A.length
      · by_cases b : (0 : Int) < d.B.length
        · simp +contextual (maxSteps := 5000000) only [go_sem, ↓reduceIte, a, b, c_need, st_need, eDl, finD, resB, panB, panE, locR]
          exact fun _ _ => ⟨(), by omega, by omega⟩
        · simp +contextual (maxSteps := 5000000) only [go_sem, ↓reduceIte, a, b, c_need, st_need, eDl, finD, resB, panB, panE, locR]
          exact fun _ _ => e8 (by omega)
      · simp +contextual (maxSteps := 5000000) only [go_sem, ↓reduceIte, a, c_need, st_need, eDl, finD, resB, panB, panE, locR]
        exact fun _ => e8 (by omega)
    · intro _ p1
      unfold eDl
      simp +contextual (maxSteps := 5000000) only [go_sem, ↓reduceIte]
      refine M_join (fun _ : Unit => ⟨[(1, .loc 1 0), (2, .loc 2 0)], [(1, .blk (eDl d) false), (2, .blk [.int .i64 0] false)]⟩) (fun _ => onceF d.A = true ∧ onceF d.B = true) ?_ ?_
      · have e10 : ¬ (onceF d.A = true ∧ onceF d.B = true) → 10 = chkD d := fun h => by unfold chkD; rw [if_neg (fun h => h p1), if_pos h]
        by_cases a : onceF d.A = true
        · by_cases b : onceF d.B = true
          · simp +contextual (maxSteps := 5000000) only [go_sem, ↓reduceIte, a, b, c_need, st_need, eDl, c_once, st_once, dS_eS, finD, resB, panB, panE, locR]
            exact ⟨by omega, by omega, ⟨(), trivial⟩⟩
          · simp +contextual (maxSteps := 5000000) only [go_sem, ↓reduceIte, a, b, c_need, st_need, eDl, c_once, st_once, dS_eS, finD, resB, panB, panE, locR]
            exact ⟨by omega, by omega, e10 (fun h => b h.2)⟩
        · simp +contextual (maxSteps := 5000000) only [go_sem, ↓reduceIte, a, c_need, st_need, eDl, c_once, st_once, dS_eS, finD, resB, panB, panE, locR]
          exact ⟨by omega, e10 (fun h => a h.1)⟩
      · intro _ p2
        unfold eDl
        simp +contextual (maxSteps := 5000000) only [go_sem, ↓reduceIte]
        refine M_join (fun _ : Unit => ⟨[(1, .loc 1 0), (2, .loc 2 0)], [(1, .blk (eDl d) false), (2, .blk [.int .i64 0] false)]⟩) (fun _ => (d.A.length ≤ 40 ∧ d.B.length ≤ 40) ∧ d.na ≤ 400 ∧ d.nb ≤ 400) ?_ ?_
        · have e7 : ¬ ((d.A.length ≤ 40 ∧ d.B.length ≤ 40) ∧ d.na ≤ 400 ∧ d.nb ≤ 400) → 7 = chkD d := fun h => by unfold chkD; rw [if_neg (fun h => h p1), if_neg (fun h => h p2), if_pos h]
          simp +contextual (maxSteps := 5000000) only [go_sem, ↓reduceIte, c_need, st_need, eDl, finD, resB, panB, panE, locR]
          intro _ _
          split
          · split
            · exact ⟨(), by omega⟩
            · exact e7 (by omega)
          · exact e7 (by omega)
        · intro _ p3
          unfold eDl
          simp +contextual (maxSteps := 5000000) only [go_sem, ↓reduceIte]
          refine M_join (fun _ : Unit => ⟨[(1, .loc 1 0), (2, .loc 2 0), (68, .vec 68 2), (69, .int .i64 2), (70, .int .i64 0)], [(1, .blk (eDl d) false), (2, .blk [.int .i64 0] false), (68, .vec 35 1 ([chk d.cols d.A.length d.B.length, chk d.rows d.na d.nb].map eI) 0)]⟩) (fun _ => True) ?_ ?_
          · simp +contextual (maxSteps := 5000000) only [go_sem, ↓reduceIte, eDl, c_Check, st_Check, dP_eP, eI]
            exact ⟨⟨by omega, by omega, by omega⟩, ⟨by omega, by omega, by omega⟩, ⟨(), rfl⟩⟩
          · intro _ _
            unfold eDl
            simp +contextual (maxSteps := 5000000) only [go_sem, ↓reduceIte]
            obtain ⟨cs, hcs⟩ : ∃ cs, cs = [chk d.cols d.A.length d.B.length, chk d.rows d.na d.nb] := ⟨_, rfl⟩
            have hl : cs.length = 2 := by rw [hcs]; rfl
            have ec : ∀ i, i < 2 → (∀ j, j < i → cs.getD j 0 = 0) → cs.getD i 0 ≠ 0 → cs.getD i 0 = chkD d := fun i hi hz hne => by
              unfold chkD
              rw [if_neg (fun h => h p1), if_neg (fun h => h p2), if_neg (fun h => h p3)]
              have hc : i = 0 ∨ i = 1 := by omega
              rcases hc with rfl | rfl
              · simp only [hcs, List.getD_cons_zero] at hne ⊢
                rw [if_pos hne]
              · have z0 := hz 0 (by omega)
                simp only [hcs, List.getD_cons_zero, List.getD_cons_succ] at hne z0 ⊢
                rw [if_neg (fun h => h z0), if_pos hne]
            refine M_loopI (fun i : Nat => ⟨[(1, .loc 1 0), (2, .loc 2 0), (68, .vec 68 2), (69, .int .i64 (2 : Nat)), (70, .int .i64 i)], [(1, .blk (eDl d) false), (2, .blk [.int .i64 0] false), (68, .vec 35 1 (cs.map eI) 0)]⟩)
              (fun i => 2 - i) (fun i => i ≤ 2 ∧ ∀ j, j < i → cs.getD j 0 = 0) 0 ?_ ?_
            · simp +contextual (maxSteps := 5000000) only [go_sem, ↓reduceIte, eI, hcs, eDl]
              exact ⟨rfl, rfl⟩
            · intro i hi
              by_cases hlt : i < 2
              · have hat := eI_at cs i (by omega)
                simp +contextual (maxSteps := 5000000) only [go_sem, ↓reduceIte, hat, hlt, hl, eDl, c_need, st_need, finD, resB, panB, panE, locR]
                obtain ⟨_, hz⟩ := hi
                split
                · rename_i hze
                  refine ⟨inR64 (by omega) (by omega), fun _ => ⟨i + 1, by simp, by omega, by omega, fun j hj => ?_⟩⟩
                  rcases lt_cases hj with h | rfl
                  · exact hz j h
                  · exact hze
                · rename_i hne
                  exact ec i hlt hz hne
              · obtain ⟨_, hz⟩ := hi
                have z0 := hz 0 (by omega)
                have z1 := hz 1 (by omega)
                simp only [hcs, List.getD_cons_zero, List.getD_cons_succ] at z0 z1
                simp +contextual (maxSteps := 5000000) only [go_sem, ↓reduceIte, hlt, hl, eDl, c_RestA, st_RestA, c_RestB, st_RestB, dP_eP, gI]
                refine ⟨⟨by omega, by omega⟩, ⟨by omega, by omega⟩, ?_⟩
                refine M_join (fun _ : Unit => ⟨[(1, .loc 1 0), (2, .loc 2 0), (5, .sl 1 ((goneR d).map eI)), (6, .sl 1 ((newR' d).map eI)), (7, .sl 1 ((goneC d).map eI)), (8, .sl 1 ((newC d).map eI))], [(1, .blk (eDl d) false), (2, .blk [.int .i64 0] false)]⟩) (fun _ => True) ?_ ?_
                · simp +contextual (maxSteps := 5000000) only [go_sem, ↓reduceIte, eDl, c_RestA, st_RestA, c_RestB, st_RestB, dP_eP, gI]
                  exact ⟨⟨by omega, by omega⟩, ⟨by omega, by omega⟩, ⟨(), rfl, rfl, rfl, rfl⟩⟩
                · intro _ _
                  unfold eDl
                  simp +contextual (maxSteps := 5000000) only [go_sem, ↓reduceIte]
                  have base : chkD d = if ¬ (mtF (isL d.A.length) d.dels (goneR d) = true ∧ mtF (isL d.B.length) d.inss (newR' d) = true) then 13
                      else if ¬ (mtF isS d.lost (crF (wiF (goneR d) d.na.toNat) (goneC d)) = true ∧ mtF isS d.gain (crF (wiF (newR' d) d.nb.toNat) (newC d)) = true) then 13
                      else if ∃ i, i < d.sets.length ∧ okS d i = false then 13
                      else if ∃ s ∈ txF d, 1000 < s.length then 7 else 0 := by
                    conv => lhs; unfold chkD
                    rw [if_neg (fun h => h p1), if_neg (fun h => h p2), if_neg (fun h => h p3), if_neg (fun h => h z0), if_neg (fun h => h z1)]
                  have l1 : (goneR d).length < 1000000000 := Nat.lt_of_le_of_lt (rsL_len _ _) (by omega)
                  have l2 : (newR' d).length < 1000000000 := Nat.lt_of_le_of_lt (rsL_len _ _) (by omega)
                  have l3 : (goneC d).length < 1000000000 := Nat.lt_of_le_of_lt (rsL_len _ _) (by omega)
                  have l4 : (newC d).length < 1000000000 := Nat.lt_of_le_of_lt (rsL_len _ _) (by omega)
                  refine M_join (fun _ : Unit => ⟨[(1, .loc 1 0), (2, .loc 2 0), (5, .sl 1 ((goneR d).map eI)), (6, .sl 1 ((newR' d).map eI)), (7, .sl 1 ((goneC d).map eI)), (8, .sl 1 ((newC d).map eI)), (9, .fn 96 [] [])], [(1, .blk (eDl d) false), (2, .blk [.int .i64 0] false)]⟩) (fun _ => mtF (isL d.A.length) d.dels (goneR d) = true) ?_ ?_
                  · have e13 : ¬ mtF (isL d.A.length) d.dels (goneR d) = true → 13 = chkD d := fun h => by rw [base, if_pos (fun h' => h h'.1)]
                    simp +contextual (maxSteps := 5000000) only [go_sem, ↓reduceIte, eDl, c_Values, st_Values, c_whole, st_whole, c_mL, st_mL, dL_eL, dI_eI, mtO, finD, resB, panB, panE, locR]
                    refine ⟨?_, ?_⟩
                    · show lastA _ = true
                      kernel_rfl
                    refine ⟨⟨by omega, l1⟩, ?_⟩
                    split
                    · exact ⟨(), trivial⟩
                    · rename_i h; exact e13 h
                  · intro _ p4
                    unfold eDl
                    simp +contextual (maxSteps := 5000000) only [go_sem, ↓reduceIte]
                    refine M_join (fun _ : Unit => ⟨[(1, .loc 1 0), (2, .loc 2 0), (5, .sl 1 ((goneR d).map eI)), (6, .sl 1 ((newR' d).map eI)), (7, .sl 1 ((goneC d).map eI)), (8, .sl 1 ((newC d).map eI))], [(1, .blk (eDl d) false), (2, .blk [.int .i64 0] false)]⟩) (fun _ => mtF (isL d.B.length) d.inss (newR' d) = true) ?_ ?_
                    · have e13 : ¬ mtF (isL d.B.length) d.inss (newR' d) = true → 13 = chkD d := fun h => by rw [base, if_pos (fun h' => h h'.2)]
                      simp +contextual (maxSteps := 5000000) only [go_sem, ↓reduceIte, eDl, c_Values, st_Values, c_whole, st_whole, c_mL, st_mL, dL_eL, dI_eI, mtO, finD, resB, panB, panE, locR]
                      refine ⟨?_, ?_⟩
                      · show lastA _ = true
                        kernel_rfl
                      refine ⟨⟨by omega, l2⟩, ?_⟩
                      split
                      · exact ⟨(), trivial⟩
                      · rename_i h; exact e13 h
                    · intro _ p5
                      unfold eDl
                      simp +contextual (maxSteps := 5000000) only [go_sem, ↓reduceIte]
                      have base2 : chkD d = if ¬ (mtF isS d.lost (crF (wiF (goneR d) d.na.toNat) (goneC d)) = true ∧ mtF isS d.gain (crF (wiF (newR' d) d.nb.toNat) (newC d)) = true) then 13
                          else if ∃ i, i < d.sets.length ∧ okS d i = false then 13
                          else if ∃ s ∈ txF d, 1000 < s.length then 7 else 0 := by
                        rw [base, if_neg (fun h => h ⟨p4, p5⟩)]
                      have l5 : (wiF (goneR d) d.na.toNat).length < 1000000000 := Nat.lt_of_le_of_lt (rsL_len _ _) (by omega)
                      have l6 : (wiF (newR' d) d.nb.toNat).length < 1000000000 := Nat.lt_of_le_of_lt (rsL_len _ _) (by omega)
                      refine M_join (fun _ : Unit => ⟨[(1, .loc 1 0), (2, .loc 2 0), (5, .sl 1 ((goneR d).map eI)), (6, .sl 1 ((newR' d).map eI)), (7, .sl 1 ((goneC d).map eI)), (8, .sl 1 ((newC d).map eI)), (10, .fn 100 [] [])], [(1, .blk (eDl d) false), (2, .blk [.int .i64 0] false)]⟩) (fun _ => mtF isS d.lost (crF (wiF (goneR d) d.na.toNat) (goneC d)) = true) ?_ ?_
                      · have e13 : ¬ mtF isS d.lost (crF (wiF (goneR d) d.na.toNat) (goneC d)) = true → 13 = chkD d := fun h => by rw [base2, if_pos (fun h' => h h'.1)]
                        simp +contextual (maxSteps := 5000000) only [go_sem, ↓reduceIte, eDl, c_within, st_within, c_cross, st_cross, c_mS, st_mS, dSp_eSp, dI_eI, gI, mtO, finD, resB, panB, panE, locR]
                        refine ⟨?_, ?_⟩
                        · show lastA _ = true
                          kernel_rfl
                        refine ⟨⟨l1, by omega⟩, ⟨by omega, l5, l3⟩, ?_⟩
                        split
                        · exact ⟨(), trivial⟩
                        · rename_i h; exact e13 h
                      · intro _ p6
                        unfold eDl
                        simp +contextual (maxSteps := 5000000) only [go_sem, ↓reduceIte]
                        refine M_join (fun _ : Unit => ⟨[(1, .loc 1 0), (2, .loc 2 0)], [(1, .blk (eDl d) false), (2, .blk [.int .i64 0] false)]⟩) (fun _ => mtF isS d.gain (crF (wiF (newR' d) d.nb.toNat) (newC d)) = true) ?_ ?_
                        · have e13 : ¬ mtF isS d.gain (crF (wiF (newR' d) d.nb.toNat) (newC d)) = true → 13 = chkD d := fun h => by rw [base2, if_pos (fun h' => h h'.2)]
                          simp +contextual (maxSteps := 5000000) only [go_sem, ↓reduceIte, eDl, c_within, st_within, c_cross, st_cross, c_mS, st_mS, dSp_eSp, dI_eI, gI, mtO, finD, resB, panB, panE, locR]
                          refine ⟨?_, ?_⟩
                          · show lastA _ = true
                            kernel_rfl
                          refine ⟨⟨l2, by omega⟩, ⟨by omega, l6, l4⟩, ?_⟩
                          split
                          · exact ⟨(), trivial⟩
                          · rename_i h; exact e13 h
                        · intro _ p7
                          have base3 : chkD d = if ∃ i, i < d.sets.length ∧ okS d i = false then 13
                              else if ∃ s ∈ txF d, 1000 < s.length then 7 else 0 := by
                            rw [base2, if_neg (fun h => h ⟨p6, p7⟩)]
                          unfold eDl
                          simp +contextual (maxSteps := 5000000) only [go_sem, ↓reduceIte]
                          intro _
                          refine M_loopI (fun i : Nat => ⟨[(1, .loc 1 0), (2, .loc 2 0), (142, .sl 6 (d.sets.map eD6)), (143, .int .i64 d.sets.length), (144, .int .i64 i)], [(1, .blk (eDl d) false), (2, .blk [.int .i64 0] false)]⟩) (fun i => d.sets.length - i) (fun i => i ≤ d.sets.length ∧ ∀ j, j < i → okS d j = true) 0 ?_ ?_
                          · simp +contextual (maxSteps := 5000000) only [go_sem, ↓reduceIte, eDl]
                            rfl
                          · intro i hi
                            obtain ⟨hi, hok⟩ := hi
                            by_cases hlt : i < d.sets.length
                            · have hat := eD6_at d.sets i hlt
                              have hat2 := eD6_at d.sets (i - 1) (by omega)
                              have eb : okS d i = false → 13 = chkD d := fun h => by rw [base3, if_pos ⟨i, hlt, h⟩]
                              have eg : okS d i = true → ∀ j, j < i + 1 → okS d j = true := fun h j hj => by
                                rcases lt_cases hj with h' | rfl
                                · exact hok j h'
                                · exact h
                              have oks : okS d i = (decide (((d.sets.getD i default).i, (d.sets.getD i default).j) ∈ d.rows) && decide (((d.sets.getD i default).p, (d.sets.getD i default).q) ∈ d.cols) && decide ((d.sets.getD i default).o ≠ (d.sets.getD i default).n) && (decide (i = 0) || decide (ordF (d.sets.getD (i - 1) default) (d.sets.getD i default) < 0))) := rfl
                              generalize hx : d.sets.getD i default = x at hat oks
                              generalize hy : d.sets.getD (i - 1) default = y at hat2 oks
                              by_cases q1 : (x.i, x.j) ∈ d.rows
                              · by_cases q2 : (x.p, x.q) ∈ d.cols
                                · by_cases q3 : x.o = x.n
                                  · simp +contextual (maxSteps := 5000000) only [go_sem, ↓reduceIte, eI_at, eI_set, List.length_set, tn_add, tn_add1, tn_sub, tn_sub1, sh1, sh1b, half_cast, hat, hlt, eDl, c_contP, st_contP, dP_eP, q1, q2, q3, c_need, st_need, finD, resB, panB, panE, locR]
                                    refine ⟨by omega, by omega, ?_, ?_⟩
                                    · show lastA _ = true
                                      kernel_rfl
                                    exact eb (by rw [oks, q3]; simp)
                                  · by_cases q4 : i = 0
                                    · subst q4
                                      simp +contextual (maxSteps := 5000000) only [go_sem, ↓reduceIte, eI_at, eI_set, List.length_set, tn_add, tn_add1, tn_sub, tn_sub1, sh1, sh1b, half_cast, hat, hlt, eDl, c_contP, st_contP, dP_eP, q1, q2, q3, z0, c_need, st_need, finD, resB, panB, panE, locR, Int.toNat_zero, Int.reduceToNat, Nat.sub_zero, Nat.le_refl]
                                      refine ⟨by omega, by omega, ?_, ?_⟩
                                      · show lastA _ = true
                                        kernel_rfl
                                      rw [if_neg (by simp)]
                                      exact ⟨inR64 (by omega) (by omega), fun _ => ⟨0 + 1, by simp, by omega, by omega, eg (by rw [oks, decide_eq_true q1, decide_eq_true q2]; simp [q3])⟩⟩
                                    · simp +contextual (maxSteps := 5000000) only [go_sem, ↓reduceIte, eI_at, eI_set, List.length_set, tn_add, tn_add1, tn_sub, tn_sub1, sh1, sh1b, half_cast, hat, hat2, hlt, eDl, c_contP, st_contP, dP_eP, q1, q2, q3, q4, c_ord, st_ord, c_need, st_need, finD, resB, panB, panE, locR]
                                      refine ⟨by omega, by omega, ?_, ?_⟩
                                      · show lastA _ = true
                                        kernel_rfl
                                      rw [if_pos (by omega)]
                                      refine ⟨inR64 (by omega) (by omega), fun _ => ⟨⟨by omega, by omega⟩, fun _ => ?_⟩⟩
                                      split
                                      · rename_i q5
                                        have q5' : ordF y x < 0 := q5
                                        exact ⟨inR64 (by omega) (by omega), fun _ => ⟨i + 1, by simp, by omega, by omega, eg (by rw [oks, decide_eq_true q1, decide_eq_true q2, decide_eq_true q5']; simp [q3])⟩⟩
                                      · rename_i q5
                                        have q5' : ¬ ordF y x < 0 := q5
                                        exact eb (by rw [oks, decide_eq_false q5']; simp [q4])
                                · simp +contextual (maxSteps := 5000000) only [go_sem, ↓reduceIte, eI_at, eI_set, List.length_set, tn_add, tn_add1, tn_sub, tn_sub1, sh1, sh1b, half_cast, hat, hlt, eDl, c_contP, st_contP, dP_eP, q1, q2, c_need, st_need, finD, resB, panB, panE, locR]
                                  exact ⟨by omega, by omega, eb (by rw [oks, decide_eq_false q2]; simp)⟩
                              · simp +contextual (maxSteps := 5000000) only [go_sem, ↓reduceIte, eI_at, eI_set, List.length_set, tn_add, tn_add1, tn_sub, tn_sub1, sh1, sh1b, half_cast, hat, hlt, eDl, c_contP, st_contP, dP_eP, q1, c_need, st_need, finD, resB, panB, panE, locR]
                                exact ⟨by omega, eb (by rw [oks, decide_eq_false q1]; simp)⟩
                            · have base4 : chkD d = if ∃ s ∈ txF d, 1000 < s.length then 7 else 0 := by
                                rw [base3, if_neg]
                                rintro ⟨j, hj, h⟩
                                rw [hok j (by omega)] at h; cases h
                              have ht := st_tx d
                              simp +contextual (maxSteps := 5000000) only [go_sem, ↓reduceIte, hlt, eDl, c_tx, ht]
                              have ht1 := st_tx1 d
                              refine M_range (f := 120) (caps := [.box (eDl d)]) (ys := (txF d).map eS) (pre := (c_tx1 d [.box (eDl d)] []).1) ?_ ?_ ?_ (σ := Unit) [(2, .loc 2 0)] (fun j _ => [(2, .blk [.int .i64 0] false)]) (fun j _ => j ≤ (txF d).length ∧ ∀ k, k < j → ((txF d).getD k []).length ≤ 1000) () ?_ ?_ ?_ ?_
                              · simp +contextual (maxSteps := 5000000) only [go_sem, ↓reduceIte, eDl]
                              · simp +contextual (maxSteps := 5000000) only [go_sem, ↓reduceIte, c_tx1, eDl]
                              · simp +contextual (maxSteps := 5000000) only [go_sem, ↓reduceIte, c_tx1, ht1, eDl]
                                exact hh
                              · simp +contextual (maxSteps := 5000000) only [go_sem, ↓reduceIte]
                                intro y hy
                                obtain ⟨x, _, rfl⟩ := List.mem_map.1 hy
                                rfl
                              · simp +contextual (maxSteps := 5000000) only [go_sem, ↓reduceIte]
                              · intro j _ hj hlt2
                                obtain ⟨hj, hm⟩ := hj
                                have hlt3 : j < (txF d).length := by simpa using hlt2
                                have hY : ((txF d).map eS).getD j [] = [.str ((txF d).getD j [])] := eS_at (txF d) j hlt3
                                rw [hY]
                                by_cases q : ((((txF d).getD j []).length : Nat) : Int) ≤ 1000
                                · simp +contextual (maxSteps := 5000000) only [go_sem, ↓reduceIte, putPs, c_need, st_need, q, finD, resB, panB, panE, locR]
                                  refine fun _ => ⟨(), by omega, fun k hk => ?_⟩
                                  rcases lt_cases hk with h | rfl
                                  · exact hm k h
                                  · omega
                                · simp +contextual (maxSteps := 5000000) only [go_sem, ↓reduceIte, putPs, c_need, st_need, q, finD, resB, panB, panE, locR]
                                  refine fun _ => ?_
                                  rw [base4, if_pos ⟨_, getD_mem (d := ([] : Str)) hlt3, by omega⟩]
                              · intro _ hs
                                simp +contextual (maxSteps := 5000000) only [go_sem, ↓reduceIte, finD, resB, panB, panE, locR]
                                obtain ⟨_, hm⟩ := hs
                                rw [base4, if_neg]
                                rintro ⟨x, hx, hlen⟩
                                obtain ⟨k, hk, e⟩ := List.getElem_of_mem hx
                                have := hm k (by simpa using hk)
                                rw [List.getD_eq_getElem?_getD, List.getElem?_eq_getElem hk, Option.getD_some, e] at this
                                omega
end Go.Proofs.YtknkjakppikjeaaGreat

set_option linter.unusedSimpArgs false
namespace Go.Proofs.YtknkjakppikjeaaGreat
open Go.Tn
set_option maxHeartbeats 8000000
set_option maxRecDepth 100000
/- the longest text -/
def mxL (l : List Str) : Nat := l.foldl (fun n s => max n s.length) 0
theorem mxL_snoc (l : List Str) (x : Str) : mxL (l ++ [x]) = max (mxL l) x.length := by simp [mxL]
theorem mxL_take {l : List Str} {P : List Str} {i : Nat} (h : i < l.length) : mxL (P ++ l.take (i + 1)) = max (mxL (P ++ l.take i)) (l.getD i []).length := by
  rw [← mxL_snoc, List.append_assoc, List.take_add_one, List.getElem?_eq_getElem h, List.getD_eq_getElem?_getD, List.getElem?_eq_getElem h]; rfl
structure okT (d : Dl) : Prop where
  A : d.A.length < 2000000
  B : d.B.length < 2000000
  cols : d.cols.length < 2000000
  rows : d.rows.length < 2000000
  dels : d.dels.length < 2000000
  inss : d.inss.length < 2000000
  sets : d.sets.length < 2000000
  lost : d.lost.length < 2000000
  gain : d.gain.length < 2000000
  cells : (txL (d.dels ++ d.inss)).length < 2000000
  texts : ∀ s ∈ txF d, s.length < 2000000
theorem fc_longest (d : Dl) (h : okT d) : FC Tryz.prog 20 [] [.agg (eDl d)] (.ret (.int .i64 (mxL (txF d)))) := by
  obtain ⟨hA, hB, hco, hro, hde, hin, hse, hlo, hga, hce, _⟩ := h
  unfold eDl
  refine fc_M (fn := Tryz.f20) (C := (tab [] [] [8010, 8022])) (rs := [2]) mixed (by kernel_rfl) (by kernel_rfl) rfl rfl (by kernel_rfl) (by intro ys h; cases h) ?_
  simp +contextual (maxSteps := 5000000) only [go_sem, ↓reduceIte]
  refine M_loopI (fun i : Nat => ⟨[(1, .loc 1 0), (3, .int .i64 (mxL (d.A.take i))), (4, .int .i64 i)], [(1, .blk (eDl d) false)]⟩) (fun i => d.A.length - i) (fun i => i ≤ d.A.length) 0 ?_ ?_
  · simp +contextual (maxSteps := 5000000) only [go_sem, ↓reduceIte, eDl]
    exact ⟨rfl, rfl⟩
  intro i hi
  by_cases hlt : i < d.A.length
  · have hat := eS_at d.A i hlt
    have hm := mxL_take (P := []) hlt
    simp only [List.nil_append] at hm
    simp +contextual (maxSteps := 5000000) only [go_sem, ↓reduceIte, hlt, hat, eDl]
    exact fun _ _ => ⟨inR64 (by omega) (by omega), fun _ => ⟨i + 1, ⟨by rw [hm]; omega, by simp⟩, by omega, by omega⟩⟩
  obtain rfl : i = d.A.length := by omega
  simp +contextual (maxSteps := 5000000) only [go_sem, ↓reduceIte, eDl, hlt, Nat.lt_irrefl, List.take_length]
  clear hlt hi
  refine fun _ => M_loopI (fun i : Nat => ⟨[(1, .loc 1 0), (3, .int .i64 (mxL (d.A ++ d.B.take i))), (5, .int .i64 i)], [(1, .blk (eDl d) false)]⟩) (fun i => d.B.length - i) (fun i => i ≤ d.B.length) 0 ?_ ?_
  · simp +contextual (maxSteps := 5000000) only [go_sem, ↓reduceIte, eDl]
    rfl
  intro i hi
  by_cases hlt : i < d.B.length
  · have hat := eS_at d.B i hlt
    have hm := mxL_take (P := d.A) hlt
    simp +contextual (maxSteps := 5000000) only [go_sem, ↓reduceIte, hlt, hat, eDl]
    exact fun _ _ => ⟨inR64 (by omega) (by omega), fun _ => ⟨i + 1, ⟨by rw [hm]; omega, by simp⟩, by omega, by omega⟩⟩
  obtain rfl : i = d.B.length := by omega
  simp +contextual (maxSteps := 5000000) only [go_sem, ↓reduceIte, eDl, hlt, Nat.lt_irrefl, List.take_length]
  refine fun _ => ⟨by omega, fun _ => ⟨by omega, fun _ => ?_⟩⟩
  have e1 : d.dels.length + d.inss.length = (d.dels ++ d.inss).length := by simp
  have e2 : txF d = d.A ++ d.B ++ txL (d.dels ++ d.inss) ++ txS d.sets ++ txP (d.lost ++ d.gain) := rfl
  have e3 : d.dels.map eL ++ d.inss.map eL = (d.dels ++ d.inss).map eL := by simp
  have hll : (d.dels ++ d.inss).length < 4000000 := by simp; omega
  rw [e2, e1, e3]
  clear e1 e2 e3
  generalize d.A ++ d.B = P0
  generalize hL : d.dels ++ d.inss = L at hce hll ⊢
  refine M_loopI (fun i : Nat => ⟨[(1, .loc 1 0), (3, .int .i64 (mxL (P0 ++ txL (L.take i)))), (6, .vec 42 L.length), (7, .int .i64 i)], [(1, .blk (eDl d) false), (42, .vec 52 2 (L.map eL) 0)]⟩) (fun i => L.length - i) (fun i => i ≤ L.length) 0 ?_ ?_
  · simp +contextual (maxSteps := 5000000) only [go_sem, ↓reduceIte, eDl, txL, List.flatMap_nil]
    rfl
  intro i hi
  by_cases hlt : i < L.length
  · have hat := eL_at L i hlt
    simp +contextual (maxSteps := 5000000) only [go_sem, ↓reduceIte, hlt, hat, eDl]
    have ht : txL (L.take (i + 1)) = txL (L.take i) ++ (L.getD i (0, [])).2 := flat_succ (d := (0, [])) (·.2) hlt
    generalize L.getD i (0, []) = x at hat ht
    refine M_loopI (fun k : Nat => ⟨[(1, .loc 1 0), (3, .int .i64 (mxL (P0 ++ txL (L.take i) ++ x.2.take k))), (6, .vec 42 L.length), (7, .int .i64 i), (8, .int .i64 k)], [(1, .blk (eDl d) false), (42, .vec 52 2 (L.map eL) 0)]⟩) (fun k => x.2.length - k) (fun k => k ≤ x.2.length) 0 ?_ ?_
    · simp +contextual (maxSteps := 5000000) only [go_sem, ↓reduceIte, eDl]
      rfl
    intro k hk
    by_cases hlk : k < x.2.length
    · have hat2 := eS_at x.2 k hlk
      have hm := mxL_take (P := P0 ++ txL (L.take i)) hlk
      simp +contextual (maxSteps := 5000000) only [go_sem, ↓reduceIte, hlt, hlk, hat, hat2, eDl]
      exact fun _ _ => ⟨inR64 (by omega) (by omega), fun _ => ⟨k + 1, ⟨by rw [hm]; omega, by simp⟩, by omega, by omega⟩⟩
    · obtain rfl : k = x.2.length := by omega
      simp +contextual (maxSteps := 5000000) only [go_sem, ↓reduceIte, hlt, hat, Nat.lt_irrefl, eDl]
      exact fun _ => ⟨inR64 (by omega) (by omega), fun _ => ⟨i + 1, ⟨by rw [ht, List.take_length, List.append_assoc], by simp⟩, by omega, by omega⟩⟩
  obtain rfl : i = L.length := by omega
  simp +contextual (maxSteps := 5000000) only [go_sem, ↓reduceIte, eDl, hlt, Nat.lt_irrefl, List.take_length]
  generalize P0 ++ txL L = P1
  clear hce hll hlt hi hL
  refine M_loopI (fun i : Nat => ⟨[(1, .loc 1 0), (3, .int .i64 (mxL (P1 ++ txS (d.sets.take i)))), (9, .int .i64 i)], [(1, .blk (eDl d) false)]⟩) (fun i => d.sets.length - i) (fun i => i ≤ d.sets.length) 0 ?_ ?_
  · simp +contextual (maxSteps := 5000000) only [go_sem, ↓reduceIte, eDl, txS, List.flatMap_nil]
    rfl
  intro i hi
  by_cases hlt : i < d.sets.length
  · have hat := eD6_at d.sets i hlt
    have ht : txS (d.sets.take (i + 1)) = txS (d.sets.take i) ++ [(d.sets.getD i default).o, (d.sets.getD i default).n] := flat_succ (d := default) (fun s : St6 => [s.o, s.n]) hlt
    have hm : mxL (P1 ++ txS (d.sets.take (i + 1))) = max (max (mxL (P1 ++ txS (d.sets.take i))) (d.sets.getD i default).o.length) (d.sets.getD i default).n.length := by
      rw [ht, ← mxL_snoc, ← mxL_snoc]; simp
    simp +contextual (maxSteps := 5000000) only [go_sem, ↓reduceIte, hlt, hat, eDl]
    exact fun _ => ⟨inR64 (by omega) (by omega), fun _ => ⟨i + 1, ⟨by rw [hm]; omega, by simp⟩, by omega, by omega⟩⟩
  obtain rfl : i = d.sets.length := by omega
  simp +contextual (maxSteps := 5000000) only [go_sem, ↓reduceIte, eDl, hlt, Nat.lt_irrefl, List.take_length]
  refine fun _ => ⟨by omega, fun _ => ⟨by omega, fun _ => ?_⟩⟩
  have e1 : d.lost.length + d.gain.length = (d.lost ++ d.gain).length := by simp
  have e3 : d.lost.map eSp ++ d.gain.map eSp = (d.lost ++ d.gain).map eSp := by simp
  have hll : (d.lost ++ d.gain).length < 4000000 := by simp; omega
  rw [e1, e3]
  clear e1 e3
  generalize P1 ++ txS d.sets = P2
  generalize hL : d.lost ++ d.gain = L at hll ⊢
  refine M_loopI (fun i : Nat => ⟨[(1, .loc 1 0), (3, .int .i64 (mxL (P2 ++ txP (L.take i)))), (10, .vec 100 L.length), (11, .int .i64 i)], [(1, .blk (eDl d) false), (100, .vec 71 3 (L.map eSp) 0)]⟩) (fun i => L.length - i) (fun i => i ≤ L.length) 0 ?_ ?_
  · simp +contextual (maxSteps := 5000000) only [go_sem, ↓reduceIte, eDl, txP, List.map_nil]
    rfl
  intro i hi
  by_cases hlt : i < L.length
  · have hat := eSp_at L i hlt
    have hm : mxL (P2 ++ txP (L.take (i + 1))) = max (mxL (P2 ++ txP (L.take i))) (L.getD i (0, 0, [])).2.2.length := by
      rw [txP_succ hlt, ← mxL_snoc]; simp
    simp +contextual (maxSteps := 5000000) only [go_sem, ↓reduceIte, hlt, hat, eDl]
    exact fun _ => ⟨inR64 (by omega) (by omega), fun _ => ⟨i + 1, ⟨by rw [hm]; omega, by simp⟩, by omega, by omega⟩⟩
  obtain rfl : i = L.length := by omega
  simp +contextual (maxSteps := 5000000) only [go_sem, ↓reduceIte, eDl, hlt, Nat.lt_irrefl, List.take_length]
theorem mxL_lt {l : List Str} {b : Nat} (hb : 0 < b) (h : ∀ s ∈ l, s.length < b) : mxL l < b := by
  have gen : ∀ (l : List Str) (n : Nat), n < b → (∀ s ∈ l, s.length < b) → l.foldl (fun n s => max n s.length) n < b := by
    intro l
    induction l with
    | nil => intro n hn _; exact hn
    | cons s l ih => intro n hn h; exact ih _ (by have := h s (by simp); show max n s.length < b; omega) (fun x hx => h x (List.mem_cons_of_mem _ hx))
  exact gen l 0 hb h
def c_longest (d : Dl) (caps args : List D) : Prop × Out := match caps, args with
  | [], [x] => (x = .agg (eDl d), .ret (.int .i64 (mxL (txF d))))
  | _, _ => (False, .ret .any)
theorem st_longest {d : Dl} (h : okT d) : StC Tryz.prog 20 (c_longest d) := by
  intro caps args; unfold c_longest; split
  · rintro rfl; exact fc_longest d h
  · exact fun h => h.elim
def cntN (d : Dl) : Nat := d.A.length + d.B.length + d.cols.length + d.rows.length + d.dels.length + d.inss.length + d.sets.length + d.lost.length + d.gain.length
def fewF (d : Dl) : Bool := decide (cntN d ≤ 300 ∧ d.na ≤ 60 ∧ d.nb ≤ 60) && decide (mxL (txF d) + (txL d.dels).length + (txL d.inss).length ≤ 2000)
theorem fc_Few (d : Dl) (h : okT d) : FC Tryz.prog 7 [] [.agg (eDl d)] (.ret (.bool (fewF d))) := by
  have hl := st_longest h
  have hmx := mxL_lt (by omega) h.texts
  obtain ⟨hA, hB, hco, hro, hde, hin, hse, hlo, hga, hce, _⟩ := h
  unfold eDl
  refine fc_M (fn := Tryz.f7) (C := (tab [(20, c_longest d)] [] [5001])) (rs := [2]) mixed (by kernel_rfl) (by kernel_rfl) rfl rfl (by kernel_rfl) (by intro ys h; cases h) ?_
  simp +contextual (maxSteps := 5000000) only [go_sem, ↓reduceIte]
  refine M_join (fun _ : Unit => ⟨[(1, .loc 1 0), (3, .int .i64 (cntN d : Nat))], [(1, .blk (eDl d) false)]⟩) (fun _ => True) ?_ ?_
  · simp +contextual (maxSteps := 5000000) only [go_sem, ↓reduceIte, eDl, cntN]
    repeat' first | (refine ⟨inR64 (by omega) (by omega), ?_⟩) | intro _
    refine ⟨(), ?_⟩
    omega
  intro _ _
  unfold fewF eDl
  by_cases q1 : (300 : Int) < (cntN d : Nat)
  · have e : decide (cntN d ≤ 300 ∧ d.na ≤ 60 ∧ d.nb ≤ 60) = false := decide_eq_false (by omega)
    rw [e]
    simp +contextual (maxSteps := 5000000) only [go_sem, ↓reduceIte, q1]
  by_cases q2 : 60 < d.na
  · have e : decide (cntN d ≤ 300 ∧ d.na ≤ 60 ∧ d.nb ≤ 60) = false := decide_eq_false (by omega)
    rw [e]
    simp +contextual (maxSteps := 5000000) only [go_sem, ↓reduceIte, q1, q2]
  by_cases q3 : 60 < d.nb
  · have e : decide (cntN d ≤ 300 ∧ d.na ≤ 60 ∧ d.nb ≤ 60) = false := decide_eq_false (by omega)
    rw [e]
    simp +contextual (maxSteps := 5000000) only [go_sem, ↓reduceIte, q1, q2, q3]
  have e : decide (cntN d ≤ 300 ∧ d.na ≤ 60 ∧ d.nb ≤ 60) = true := decide_eq_true (by omega)
  rw [e, Bool.true_and]
  have hn : cntN d ≤ 300 := by omega
  have hn1 : d.dels.length ≤ 300 := by unfold cntN at hn; omega
  have hn2 : d.inss.length ≤ 300 := by unfold cntN at hn; omega
  have hc1 : (txL d.dels).length < 2000000 := by unfold txL at hce ⊢; simp only [List.flatMap_append, List.length_append] at hce; omega
  have hc2 : (txL d.inss).length < 2000000 := by unfold txL at hce ⊢; simp only [List.flatMap_append, List.length_append] at hce; omega
  clear e hn
  simp +contextual (maxSteps := 5000000) only [go_sem, ↓reduceIte, c_longest, hl, eDl, q1, q2, q3]
  clear q1 q2 q3
  generalize mxL (txF d) = m0 at hmx
  refine M_loopI (fun i : Nat => ⟨[(1, .loc 1 0), (4, .int .i64 (m0 + (txL (d.dels.take i)).length : Nat)), (5, .int .i64 i)], [(1, .blk (eDl d) false)]⟩) (fun i => d.dels.length - i) (fun i => i ≤ d.dels.length) 0 ?_ ?_
  · simp +contextual (maxSteps := 5000000) only [go_sem, ↓reduceIte, eDl, txL, List.flatMap_nil]
    rfl
  intro i hi
  by_cases hlt : i < d.dels.length
  · have hat := eL_at d.dels i hlt
    have ht : txL (d.dels.take (i + 1)) = txL (d.dels.take i) ++ (d.dels.getD i (0, [])).2 := flat_succ (d := (0, [])) (·.2) hlt
    have hb : (txL (d.dels.take (i + 1))).length ≤ (txL d.dels).length := flat_le d.dels (·.2) (i + 1)
    rw [ht, List.length_append] at hb
    simp +contextual (maxSteps := 5000000) only [go_sem, ↓reduceIte, hlt, hat, eDl]
    exact fun _ _ => ⟨inR64 (by omega) (by omega), fun _ => ⟨inR64 (by omega) (by omega), fun _ => ⟨i + 1, ⟨by rw [ht, List.length_append]; omega, by simp⟩, by omega, by omega⟩⟩⟩
  obtain rfl : i = d.dels.length := by omega
  simp +contextual (maxSteps := 5000000) only [go_sem, ↓reduceIte, eDl, hlt, Nat.lt_irrefl, List.take_length]
  intro _
  refine M_loopI (fun i : Nat => ⟨[(1, .loc 1 0), (4, .int .i64 (m0 + (txL d.dels).length + (txL (d.inss.take i)).length : Nat)), (6, .int .i64 i)], [(1, .blk (eDl d) false)]⟩) (fun i => d.inss.length - i) (fun i => i ≤ d.inss.length) 0 ?_ ?_
  · simp +contextual (maxSteps := 5000000) only [go_sem, ↓reduceIte, eDl, txL, List.flatMap_nil]
    rfl
  intro i hi
  by_cases hlt : i < d.inss.length
  · have hat := eL_at d.inss i hlt
    have ht : txL (d.inss.take (i + 1)) = txL (d.inss.take i) ++ (d.inss.getD i (0, [])).2 := flat_succ (d := (0, [])) (·.2) hlt
    have hb : (txL (d.inss.take (i + 1))).length ≤ (txL d.inss).length := flat_le d.inss (·.2) (i + 1)
    rw [ht, List.length_append] at hb
    simp +contextual (maxSteps := 5000000) only [go_sem, ↓reduceIte, hlt, hat, eDl]
    exact fun _ _ => ⟨inR64 (by omega) (by omega), fun _ => ⟨inR64 (by omega) (by omega), fun _ => ⟨i + 1, ⟨by rw [ht, List.length_append]; omega, by simp⟩, by omega, by omega⟩⟩⟩
  obtain rfl : i = d.inss.length := by omega
  simp +contextual (maxSteps := 5000000) only [go_sem, ↓reduceIte, eDl, hlt, Nat.lt_irrefl, List.take_length]
  exact fun _ => decide_eq_decide.2 (by omega)
end Go.Proofs.YtknkjakppikjeaaGreat

set_option linter.unusedSimpArgs false
namespace Go.Proofs.YtknkjakppikjeaaGreat
open Go.Tn Go.RowKit
theorem own : ownKnob Tryz.prog.godebug = none := by kernel_rfl
theorem laidOut : laidOutB Tryz.prog = true := by kernel_rfl
mutual
theorem bulk_eq {H : Type} : ∀ d : DataW H, Rows.uptoBulk d = blk d
  | .lit l => by cases l <;> simp [Rows.uptoBulk, blk]
  | .nil => by simp [Rows.uptoBulk, blk]
  | .ptr d => by simp [Rows.uptoBulk, blk, bulk_eq d]
  | .slice elems spare => by simp [Rows.uptoBulk, blk, bulkL_eq elems, bulkL_eq spare]
  | .agg parts => by simp [Rows.uptoBulk, blk, bulkL_eq parts]
  | .iface _ d => by simp [Rows.uptoBulk, blk, bulk_eq d]
  | .map entries => by simp [Rows.uptoBulk, blk, bulkE_eq entries]
  | .held _ => by simp [Rows.uptoBulk, blk]
theorem bulkL_eq {H : Type} : ∀ l : List (DataW H), Rows.uptoBulkAll l = blkL l
  | [] => by simp [Rows.uptoBulkAll, blkL]
  | d :: r => by simp [Rows.uptoBulkAll, blkL, bulk_eq d, bulkL_eq r]
theorem bulkE_eq {H : Type} : ∀ l : List (Lit × DataW H), Rows.uptoBulkEntries l = blkE l
  | [] => by simp [Rows.uptoBulkEntries, blkE]
  | x :: r => by simp [Rows.uptoBulkEntries, blkE, bulk1_eq x, bulkE_eq r]
theorem bulk1_eq {H : Type} : ∀ x : Lit × DataW H, Rows.uptoBulkEntry x = blk1 x
  | (l, d) => by cases l <;> simp [Rows.uptoBulkEntry, blk1, bulk_eq d]
end
theorem small_le {H : Type} {ds : List (DataW H)} (h : Rows.uptoSmall H ds = true) : blkL ds ≤ 1048576 := by
  rw [← bulkL_eq]; exact of_decide_eq_true h
theorem fits_sS {d : D} (h : Fits (.slc [.str]) d) : ∃ l : List Str, d = .sl 1 (l.map eS) := by
  unfold Fits at h
  obtain ⟨r, rfl, g⟩ := h
  exact ⟨r.map dS, by rw [← fits_S g]; rfl⟩
theorem fits_sL {d : D} (h : Fits (.slc [.int .i64, .slc [.str]]) d) : ∃ l : List Ln, d = .sl 2 (l.map eL) := by
  unfold Fits at h
  obtain ⟨rows, rfl, g⟩ := h
  refine ⟨rows.map dL, ?_⟩
  have : rows = (rows.map dL).map eL := map_id_of fun r hr => by
    have := g r hr
    simp only [FitsL] at this
    obtain ⟨_, _, rfl, ⟨n, rfl⟩, _, _, rfl, h2, rfl⟩ := this
    obtain ⟨l, rfl⟩ := fits_sS h2
    simp only [dL, eL, List.headD_cons, List.tail_cons, rowsOf, iOf]
    rw [dS_eS]
  rw [← this]; rfl
theorem fits_s6 {d : D} (h : Fits (.slc [.int .i64, .int .i64, .int .i64, .int .i64, .str, .str]) d) : ∃ l : List St6, d = .sl 6 (l.map eD6) := by
  unfold Fits at h
  obtain ⟨rows, rfl, g⟩ := h
  refine ⟨rows.map d6, ?_⟩
  have : rows = (rows.map d6).map eD6 := map_id_of fun r hr => by
    have := g r hr
    simp only [FitsL, Fits] at this
    obtain ⟨_, _, rfl, ⟨_, rfl⟩, _, _, rfl, ⟨_, rfl⟩, _, _, rfl, ⟨_, rfl⟩, _, _, rfl, ⟨_, rfl⟩, _, _, rfl, ⟨_, rfl⟩, _, _, rfl, ⟨_, rfl⟩, rfl⟩ := this
    rfl
  rw [← this]; rfl
theorem fits_sSp {d : D} (h : Fits (.slc [.int .i64, .int .i64, .str]) d) : ∃ l : List Sp, d = .sl 3 (l.map eSp) := by
  unfold Fits at h
  obtain ⟨rows, rfl, g⟩ := h
  refine ⟨rows.map dSp, ?_⟩
  have : rows = (rows.map dSp).map eSp := map_id_of fun r hr => by
    have := g r hr
    simp only [FitsL, Fits] at this
    obtain ⟨_, _, rfl, ⟨_, rfl⟩, _, _, rfl, ⟨_, rfl⟩, _, _, rfl, ⟨_, rfl⟩, rfl⟩ := this
    rfl
  rw [← this]; rfl
theorem szD_pos (d : D) : 1 ≤ szD d := by unfold szD; split <;> omega
theorem szL_mem {d : D} : ∀ {l : List D}, d ∈ l → szD d ≤ szL l
  | x :: l, h => by
    simp only [szL]
    rcases List.mem_cons.1 h with rfl | h
    · omega
    · have := szL_mem h; omega
theorem szR_mem {r : List D} : ∀ {l : List (List D)}, r ∈ l → szL r ≤ szR l
  | x :: l, h => by
    simp only [szR]
    rcases List.mem_cons.1 h with rfl | h
    · omega
    · have := szR_mem h; omega
theorem szR_len {α : Type} {e : α → List D} (he : ∀ x, e x ≠ []) : ∀ l : List α, l.length ≤ szR (l.map e)
  | [] => by simp
  | x :: l => by
    have h1 := szR_len he l
    have h2 : 1 ≤ szL (e x) := by
      cases h : e x with
      | nil => exact absurd h (he x)
      | cons d r => simp only [szL]; have := szD_pos d; omega
    simp only [List.map_cons, szR, List.length_cons]; omega
theorem txL_sz : ∀ l : List Ln, (txL l).length ≤ szR (l.map eL)
  | [] => by simp [txL]
  | x :: l => by
    have h1 := txL_sz l
    have h2 := szR_len (e := eS) (by intro x h; cases h) x.2
    simp only [txL, List.flatMap_cons, List.length_append, List.map_cons, szR, eL, szL, szD] at h1 ⊢; omega
def delta_shs : List Sh := [.slc [.str], .slc [.str], .slc [.int .i64, .int .i64], .int .i64, .int .i64, .slc [.int .i64, .int .i64], .slc [.int .i64, .slc [.str]], .slc [.int .i64, .slc [.str]], .slc [.int .i64, .int .i64, .int .i64, .int .i64, .str, .str], .slc [.int .i64, .int .i64, .str], .slc [.int .i64, .int .i64, .str]]
theorem okT_of {d : Dl} (h : szL (eDl d) ≤ 1048576) : okT d := by
  simp only [eDl, szL, szD] at h
  have a1 := szR_len (e := eS) (by intro x h; cases h) d.A
  have a2 := szR_len (e := eS) (by intro x h; cases h) d.B
  have a3 := szR_len (e := eP) (by intro x h; cases h) d.cols
  have a4 := szR_len (e := eP) (by intro x h; cases h) d.rows
  have a5 := szR_len (e := eL) (by intro x h; cases h) d.dels
  have a6 := szR_len (e := eL) (by intro x h; cases h) d.inss
  have a7 := szR_len (e := eD6) (by intro x h; cases h) d.sets
  have a8 := szR_len (e := eSp) (by intro x h; cases h) d.lost
  have a9 := szR_len (e := eSp) (by intro x h; cases h) d.gain
  have b1 := txL_sz d.dels
  have b2 := txL_sz d.inss
  have tS : ∀ {l : List Str} {s : Str}, s ∈ l → s.length ≤ szR (l.map eS) := fun {l s} hs => by
    have := szR_mem (List.mem_map_of_mem (f := eS) hs)
    simp only [eS, szL, szD] at this; omega
  have tL : ∀ {l : List Ln} {s : Str}, s ∈ txL l → s.length ≤ szR (l.map eL) := fun {l s} hs => by
    obtain ⟨x, hx, hs⟩ := List.mem_flatMap.1 hs
    have h1 := szR_mem (List.mem_map_of_mem (f := eL) hx)
    have h2 := tS hs
    simp only [eL, szL, szD] at h1; omega
  have t6 : ∀ {l : List St6} {s : Str}, s ∈ txS l → s.length ≤ szR (l.map eD6) := fun {l s} hs => by
    obtain ⟨x, hx, hs⟩ := List.mem_flatMap.1 hs
    have h1 := szR_mem (List.mem_map_of_mem (f := eD6) hx)
    simp only [eD6, szL, szD] at h1
    simp only [List.mem_cons, List.not_mem_nil, or_false] at hs
    rcases hs with rfl | rfl <;> omega
  have tP : ∀ {l : List Sp} {s : Str}, s ∈ txP l → s.length ≤ szR (l.map eSp) := fun {l s} hs => by
    obtain ⟨x, hx, rfl⟩ := List.mem_map.1 hs
    have h1 := szR_mem (List.mem_map_of_mem (f := eSp) hx)
    simp only [eSp, szL, szD] at h1; omega
  refine ⟨by omega, by omega, by omega, by omega, by omega, by omega, by omega, by omega, by omega, ?_, fun s hs => ?_⟩
  · have : (txL (d.dels ++ d.inss)).length = (txL d.dels).length + (txL d.inss).length := by unfold txL; simp
    omega
  · unfold txF at hs
    have e1 : txL (d.dels ++ d.inss) = txL d.dels ++ txL d.inss := by unfold txL; simp
    have e2 : txP (d.lost ++ d.gain) = txP d.lost ++ txP d.gain := by unfold txP; simp
    rw [e1, e2] at hs
    simp only [List.mem_append] at hs
    rcases hs with (((hs | hs) | hs | hs) | hs) | hs | hs
    · have := tS hs; omega
    · have := tS hs; omega
    · have := tL hs; omega
    · have := tL hs; omega
    · have := t6 hs; omega
    · have := tP hs; omega
    · have := tP hs; omega
theorem open_delta {cs : List D} (hc : FitsL delta_shs cs) : ∃ d : Dl, cs = eDl d := by
  simp only [delta_shs, FitsL] at hc
  obtain ⟨_, _, rfl, h0, _, _, rfl, h1, _, _, rfl, h2, _, _, rfl, h3, _, _, rfl, h4, _, _, rfl, h5, _, _, rfl, h6, _, _, rfl, h7, _, _, rfl, h8, _, _, rfl, h9, _, _, rfl, h10, rfl⟩ := hc
  obtain ⟨A, rfl⟩ := fits_sS h0
  obtain ⟨B, rfl⟩ := fits_sS h1
  obtain ⟨co, rfl⟩ := fits_sP h2
  obtain ⟨na, rfl⟩ := fits_i h3
  obtain ⟨nb, rfl⟩ := fits_i h4
  obtain ⟨ro, rfl⟩ := fits_sP h5
  obtain ⟨de, rfl⟩ := fits_sL h6
  obtain ⟨ins, rfl⟩ := fits_sL h7
  obtain ⟨se, rfl⟩ := fits_s6 h8
  obtain ⟨lo, rfl⟩ := fits_sSp h9
  obtain ⟨ga, rfl⟩ := fits_sSp h10
  exact ⟨⟨A, B, co, na, nb, ro, de, ins, se, lo, ga⟩, rfl⟩
theorem szR_S (l : List (List UInt8)) : slen l ≤ szR (l.map eS) := by
  induction l with
  | nil => simp [slen, szR]
  | cons s l ih => simp only [slen_cons, List.map_cons, szR, eS, szL, szD]; unfold slen at *; omega
theorem szR_R (l : List (List (List UInt8))) : rlen l ≤ szR (l.map eR) := by
  induction l with
  | nil => simp [rlen, szR]
  | cons r l ih =>
    have := szR_S r
    simp only [rlen_cons, List.map_cons, szR, eR, szL, szD]; unfold rlen at *; omega
theorem tab_le {t : Tab} (h : szL [.sl 1 (t.1.map eS), .sl 1 (t.2.map eR)] ≤ 1048576) : slen t.1 + rlen t.2 < 2000000000 := by
  have := szR_S t.1
  have := szR_R t.2
  simp only [szL, szD] at h
  omega
end Go.Proofs.YtknkjakppikjeaaGreat

set_option linter.unusedSimpArgs false
namespace Go.Proofs.YtknkjakppikjeaaGreat
open Go.Tn
set_option maxHeartbeats 8000000
set_option maxRecDepth 100000
theorem fc_lines (l : List Ln) (hl : l.length < 1000000) (hc : ∀ x ∈ l, x.2.length < 1000000000) : FC Tryz.prog 79 [] [.sl 2 (l.map eL)] (.own 52 2 (l.map eL)) := by
  have hs1 := st_CloneS
  refine fc_M (fn := Tryz.f79) (C := (tab [(23, c_Clone 9 1)] [])) (rs := [2]) mixed (by kernel_rfl) (by kernel_rfl) rfl rfl (by kernel_rfl) (by intro ys h; cases h) ?_
  simp +contextual (maxSteps := 5000000) only [go_sem, ↓reduceIte]
  intro _
  refine M_loopI (fun i : Nat => ⟨[(3, .vec 20 i), (6, .sl 2 (l.map eL)), (7, .int .i64 l.length), (8, .int .i64 i)], [(20, .vec 52 2 ((l.take i).map eL) 0)]⟩) (fun i => l.length - i) (fun i => i ≤ l.length) 0 ?_ ?_
  · simp +contextual (maxSteps := 5000000) only [go_sem, ↓reduceIte]
    rfl
  · intro i hi
    by_cases hlt : i < l.length
    · have hat := eL_at l i hlt
      have hm := hc _ (getD_mem (d := ((0 : Int), ([] : List (List UInt8)))) hlt)
      simp +contextual (maxSteps := 5000000) only [go_sem, ↓reduceIte, eI_at, eI_set, List.length_set, tn_add, tn_add1, tn_sub, tn_sub1, sh1, sh1b, half_cast, hlt, hat, c_Clone, hs1, gS]
      exact ⟨hm, ⟨by omega, by omega⟩, fun _ => ⟨inR64 (by omega) (by omega), fun _ => ⟨i + 1, ⟨⟨rfl, by simp⟩, take_map_succ eL (0, []) l i hlt⟩, by omega, by omega⟩⟩⟩
    · obtain rfl : i = l.length := by omega
      simp +contextual (maxSteps := 5000000) only [go_sem, ↓reduceIte, hlt, Nat.lt_irrefl, List.take_length]
theorem fc_turned (a b : Int) : FC Tryz.prog 114 [] [.agg [.int .i64 a, .int .i64 b]] (.ret (.agg [.int .i64 b, .int .i64 a])) := by
  have ty : tyOf Tryz.prog 114 = ⟨.struct, [.int .i64 0, .int .i64 0], [(0, 1, false), (1, 1, false)], 0, 0, true, 0, 16⟩ := by kernel_rfl
  have hf := tyOf_fact (P := Tryz.prog) (t := 114) (by rw [ty]; intro h; cases h)
  rw [ty] at hf
  refine fcc_of (fn := Tryz.f114) (rt := 114) (r := 2) (i := 2) (C := tab [] []) mixed (by kernel_rfl) (by kernel_rfl) rfl rfl hf (by kernel_rfl) (by intro ys h; cases h) ?_
  simp +contextual (maxSteps := 5000000) only [go_sem, ↓reduceIte, finC, finCB, locR]
end Go.Proofs.YtknkjakppikjeaaGreat

set_option linter.unusedSimpArgs false
namespace Go.Proofs.YtknkjakppikjeaaGreat
open Go.Tn
set_option maxHeartbeats 8000000
set_option maxRecDepth 100000
def sw (p : Int × Int) : Int × Int := (p.2, p.1)
def leB (x y : Int × Int) : Bool := decide (x.2 ≤ y.2)
theorem pre_leB : Ps.Pre leB := ⟨fun a b c => by simp only [leB, decide_eq_true_eq]; omega, fun a b => by simp only [leB, decide_eq_true_eq]; omega⟩
def turnP (l : List (Int × Int)) : List (Int × Int) := Ps.srt leB (l.map sw)
theorem turnP_len (l : List (Int × Int)) : (turnP l).length = l.length := by unfold turnP; rw [Ps.srt_len, List.length_map]
def c_turned (caps args : List D) : Prop × Out := match caps, args with
  | [], [.agg [.int .i64 a, .int .i64 b]] => (True, .ret (.agg [.int .i64 b, .int .i64 a]))
  | _, _ => (False, .ret .any)
theorem st_turned : StC Tryz.prog 114 c_turned := by
  intro caps args; unfold c_turned; split
  · exact fun _ => fc_turned _ _
  · exact fun h => h.elim
def eRv (p : Int × Int) : List D := [.int .i64 p.2, .int .i64 p.1]
theorem eRv_eq (l : List (Int × Int)) : l.map eRv = (l.map sw).map eP := by rw [List.map_map]; rfl
theorem eP_set2 (l : List (Int × Int)) (i : Nat) (a b : Int) : (l.map eP).set i [.int .i64 a, .int .i64 b] = (l.set i (a, b)).map eP := by rw [List.map_set]; rfl
theorem seg_all {α : Type} (f : List α → List α) (l : List α) : Ps.seg f l 0 l.length = f l := by unfold Ps.seg; simp
theorem fc_pTurn (l : List (Int × Int)) (hl : l.length < 1000000000) : FC Tryz.prog 78 [] [.sl 2 (l.map eP)] (.own 45 2 ((turnP l).map eP)) := by
  refine fc_M (fn := Tryz.f78) (C := (tab [(114, c_turned)] [])) (rs := [2]) mixed (by kernel_rfl) (by kernel_rfl) rfl rfl (by kernel_rfl) (by intro ys h; cases h) ?_
  simp +contextual (maxSteps := 5000000) only [go_sem, ↓reduceIte]
  intro _
  refine M_loopI (fun i : Nat => ⟨[(3, .vec 21 i), (11, .sl 2 (l.map eP)), (12, .int .i64 l.length), (13, .int .i64 i)], [(21, .vec 114 2 ((l.take i).map eRv) 0)]⟩) (fun i => l.length - i) (fun i => i ≤ l.length) 0 ?_ ?_
  · simp +contextual (maxSteps := 5000000) only [go_sem, ↓reduceIte]
    rfl
  · intro i hi
    by_cases hlt : i < l.length
    · have hat := eP_at l i hlt
      simp +contextual (maxSteps := 5000000) only [go_sem, ↓reduceIte, eI_at, eI_set, List.length_set, tn_add, tn_add1, tn_sub, tn_sub1, sh1, sh1b, half_cast, hlt, hat, c_turned, st_turned]
      exact ⟨⟨by omega, by omega⟩, fun _ => ⟨inR64 (by omega) (by omega), fun _ => ⟨i + 1, ⟨⟨rfl, by simp⟩, take_map_succ eRv (0, 0) l i hlt⟩, by omega, by omega⟩⟩⟩
    · obtain rfl : i = l.length := by omega
      simp +contextual (maxSteps := 5000000) only [go_sem, ↓reduceIte, hlt, Nat.lt_irrefl, List.take_length, eRv_eq]
      have hk : (l.map sw).length = l.length := List.length_map _
      have et : turnP l = Ps.srt leB (l.map sw) := rfl
      rw [et]
      generalize hkk : l.map sw = k at hk
      rw [← hk]
      clear hi hlt et
      refine M_loopI (fun s : List ((Int × Int) × Nat) × Nat => ⟨[(3, .vec 21 k.length), (24, .int .i64 k.length), (25, .int .i64 s.2)], [(21, .vec 114 2 ((s.1.map (·.1)).map eP) 0)]⟩) (fun s => k.length - s.2) (fun s => Ps.OutI leB k 0 s.1 (max s.2 1) ∧ s.2 ≤ k.length) (k.zipIdx, 0) ?_ ?_
      · simp +contextual (maxSteps := 5000000) only [go_sem, ↓reduceIte, Ps.zip_fst]
        exact ⟨rfl, Ps.out_start k 0⟩
      · intro ⟨t, i⟩ hi
        obtain ⟨i1, i2⟩ := hi
        simp only at i1 i2
        by_cases hlt : i < k.length
        · simp +contextual (maxSteps := 5000000) only [go_sem, ↓reduceIte, hlt]
          have hlen : t.length = k.length := by rw [i1.pm.length_eq]; simp
          refine M_loopI (fun s : List ((Int × Int) × Nat) × Nat => ⟨[(3, .vec 21 k.length), (24, .int .i64 k.length), (25, .int .i64 i), (7, .int .i64 s.2)], [(21, .vec 114 2 ((s.1.map (·.1)).map eP) 0)]⟩) (fun s => s.2)
            (fun s => (i = 0 ∧ s.2 = 0 ∧ s.1 = t) ∨ (0 < i ∧ Ps.InI leB k 0 i s.1 s.2)) (t, i) ?_ ?_
          · simp +contextual (maxSteps := 5000000) only [go_sem, ↓reduceIte]
            by_cases h0 : i = 0
            · exact .inl h0
            · have : max i 1 = i := by omega
              rw [this] at i1
              exact .inr ⟨by omega, Ps.in_start i1 (by omega)⟩
          · intro ⟨u, j⟩ hj
            simp only at hj
            by_cases hj0 : j = 0
            · subst hj0
              have z0 : ¬ ((0 : Int) < ((0 : Nat) : Int)) := by simp
              simp +contextual (maxSteps := 5000000) only [go_sem, ↓reduceIte, eI_at, eI_set, List.length_set, tn_add, tn_add1, tn_sub, tn_sub1, sh1, sh1b, half_cast, hlt, z0]
              have end1 : Ps.OutI leB k 0 u (max (i + 1) 1) := by
                obtain ⟨h0, _, h2⟩ | ⟨h0, hj⟩ := hj
                · subst h0; rw [h2]; exact i1
                · have : max (i + 1) 1 = i + 1 := by omega
                  rw [this]
                  exact Ps.in_end pre_leB hj (by omega) hlt (.inl rfl)
              exact ⟨inR64 (by omega) (by omega), fun _ => ⟨(u, i + 1), ⟨by simp, rfl⟩, by simp only; omega, end1, by simp only; omega⟩⟩
            · obtain ⟨h0, h1, _⟩ | ⟨h0, hj⟩ := hj
              · omega
              have hul := Ps.in_len hj
              have hji := hj.ji
              have z0 : (0 : Int) < (j : Int) := by omega
              obtain ⟨x, hx⟩ : ∃ x, u[j]? = some x := ⟨u[j]'(by omega), List.getElem?_eq_getElem (by omega)⟩
              obtain ⟨y, hy⟩ : ∃ y, u[j - 1]? = some y := ⟨u[j - 1]'(by omega), List.getElem?_eq_getElem (by omega)⟩
              have hat1 := eP_at (u.map (·.1)) j (by simp; omega)
              have hat2 := eP_at (u.map (·.1)) (j - 1) (by simp; omega)
              rw [Ps.tag_at (0, 0) hx] at hat1
              rw [Ps.tag_at (0, 0) hy] at hat2
              have hat3 := eP_at ((u.map (·.1)).set j (y.1.1, y.1.2)) (j - 1) (by simp; omega)
              have lbA : leB y.1 x.1 = decide (y.1.2 ≤ x.1.2) := rfl
              have est : ∀ x' y', u[j]? = some x' → u[j - 1]? = some y' → leB y'.1 x'.1 = decide (y.1.2 ≤ x.1.2) := fun x' y' hx' hy' => by
                rw [hx] at hx'; cases hx'
                rw [hy] at hy'; cases hy'
                rfl
              by_cases q : x.1.2 < y.1.2
              · simp +contextual (maxSteps := 5000000) only [go_sem, ↓reduceIte, eI_at, eI_set, List.length_set, tn_add, tn_add1, tn_sub, tn_sub1, sh1, sh1b, half_cast, hlt, z0, hat1, hat2, hat3, q, eP_set2]
                refine ⟨⟨hul, by omega⟩, fun _ => ⟨inR64 (by omega) (by omega), fun _ => ⟨⟨by omega, by omega⟩, fun _ => ⟨by omega, fun _ => ⟨by omega, fun _ => ⟨by omega, fun _ => ⟨(Ps.swp (((0, 0), 0)) u j (j - 1), j - 1), ⟨by simp only; omega, ?_⟩, by simp only; omega, .inr ⟨h0, Ps.in_step pre_leB _ hj hlt (by omega) fun x' y' hx' hy' => ?_⟩⟩⟩⟩⟩⟩⟩⟩
                · simp only
                  rw [Ps.swp_map]
                  unfold Ps.swp
                  simp only [Ps.tag_at (0, 0) hx, Ps.tag_at (0, 0) hy]
                · rw [est x' y' hx' hy']; simp; omega
              · simp +contextual (maxSteps := 5000000) only [go_sem, ↓reduceIte, eI_at, eI_set, List.length_set, tn_add, tn_add1, tn_sub, tn_sub1, sh1, sh1b, half_cast, hlt, z0, hat1, hat2, q]
                refine ⟨⟨hul, by omega⟩, fun _ => ⟨inR64 (by omega) (by omega), fun _ => ⟨⟨by omega, by omega⟩, fun _ => ⟨by omega, fun _ => ⟨inR64 (by omega) (by omega), fun _ => ⟨(u, i + 1), ⟨by simp, rfl⟩, by simp only; omega, ?_, by simp only; omega⟩⟩⟩⟩⟩⟩
                have : max (i + 1) 1 = i + 1 := by omega
                simp only [this]
                exact Ps.in_end pre_leB hj (by omega) hlt (.inr fun x' y' hx' hy' => by rw [est x' y' hx' hy']; simp; omega)
        · obtain rfl : i = k.length := by omega
          simp +contextual (maxSteps := 5000000) only [go_sem, ↓reduceIte, hlt, Nat.lt_irrefl]
          have ht := Ps.out_end pre_leB i1 (Nat.zero_le _) (Nat.le_refl _) (by omega) (by omega)
          rw [seg_all] at ht
          have hlen : t.length = k.length := by rw [i1.pm.length_eq]; simp
          refine ⟨hlen, fun _ => ?_⟩
          rw [ht]
          have hsl : (Ps.srt leB k).length = k.length := Ps.srt_len _
          generalize Ps.srt leB k = r at hsl
          rw [← hsl]
          rw [← hsl] at hk
          clear ht i1 i2 hlt hlen hkk hsl
          refine M_loopI (fun i : Nat => ⟨[(8, .vec 73 i), (64, .vec 21 r.length), (65, .int .i64 r.length), (66, .int .i64 i)], [(21, .vec 114 2 (r.map eP) 0), (73, .vec 45 2 ((r.take i).map eP) 0)]⟩) (fun i => r.length - i) (fun i => i ≤ r.length) 0 ?_ ?_
          · simp +contextual (maxSteps := 5000000) only [go_sem, ↓reduceIte]
            rfl
          · intro i hi
            by_cases hlt : i < r.length
            · have hat := eP_at r i hlt
              simp +contextual (maxSteps := 5000000) only [go_sem, ↓reduceIte, eI_at, eI_set, List.length_set, tn_add, tn_add1, tn_sub, tn_sub1, sh1, sh1b, half_cast, hlt, hat]
              exact ⟨⟨by omega, by omega⟩, fun _ => ⟨inR64 (by omega) (by omega), fun _ => ⟨i + 1, ⟨⟨rfl, by simp⟩, take_map_succ eP (0, 0) r i hlt⟩, by omega, by omega⟩⟩⟩
            · obtain rfl : i = r.length := by omega
              simp +contextual (maxSteps := 5000000) only [go_sem, ↓reduceIte, hlt, Nat.lt_irrefl, List.take_length]
def c_pTurn (caps args : List D) : Prop × Out := match caps, args with
  | [], [.sl 2 rows] => (rows = (rows.map dP).map eP ∧ rows.length < 1000000000, .own 45 2 ((turnP (rows.map dP)).map eP))
  | _, _ => (False, .ret .any)
theorem st_pTurn : StC Tryz.prog 78 c_pTurn := by
  intro caps args; unfold c_pTurn; split
  · rename_i rows
    rintro ⟨h1, h2⟩
    have := fc_pTurn (rows.map dP) (by simpa using h2)
    rw [← h1] at this
    exact this
  · exact fun h => h.elim
def c_lines (caps args : List D) : Prop × Out := match caps, args with
  | [], [.sl 2 rows] => (rows = (rows.map dL).map eL ∧ rows.length < 1000000 ∧ ∀ x ∈ rows.map dL, x.2.length < 1000000000, .own 52 2 ((rows.map dL).map eL))
  | _, _ => (False, .ret .any)
theorem st_lines : StC Tryz.prog 79 c_lines := by
  intro caps args; unfold c_lines; split
  · rename_i rows
    rintro ⟨h1, h2, h3⟩
    have := fc_lines (rows.map dL) (by simpa using h2) h3
    rw [← h1] at this
    rw [← h1]
    exact this
  · exact fun h => h.elim
end Go.Proofs.YtknkjakppikjeaaGreat

set_option linter.unusedSimpArgs false
namespace Go.Proofs.YtknkjakppikjeaaGreat
open Go.Tn
set_option maxHeartbeats 4000000
set_option maxRecDepth 100000
theorem st6_eta (s : St6) : (⟨s.i, s.j, s.p, s.q, s.o, s.n⟩ : St6) = s := rfl
theorem eD6_set (l : List St6) (i : Nat) (a : St6) : (l.map eD6).set i [.int .i64 a.i, .int .i64 a.j, .int .i64 a.p, .int .i64 a.q, .str a.o, .str a.n] = (l.set i a).map eD6 := by rw [List.map_set]; rfl
theorem fcm_swapRange (l : List St6) (a b k : Nat) (f : D) (n : Nat) (hn : l.length = n) (h1 : a + k ≤ b) (h2 : b + k ≤ n) (h3 : n < 1000000000) :
    FCM Tryz.prog 132 [(true, .vec 1000 n), (false, .int .i64 a), (false, .int .i64 b), (false, .int .i64 k), (false, f)] [(1000, .vec 47 6 (l.map eD6) 0)] [(1000, .vec 47 6 ((Ps.swr l a b k).map eD6) 0)] (.ret (.tup [])) := by
  refine fcm_M (fn := Tryz.f132) (C := (tab [] [])) (rs := []) mixed (by kernel_rfl) (by kernel_rfl) rfl rfl (by kernel_rfl) ?_ ?_
  · simp +contextual (maxSteps := 5000000) only [go_sem, ↓reduceIte]
  simp +contextual (maxSteps := 5000000) only [go_sem, ↓reduceIte]
  refine M_loopI (fun i : Nat => ⟨[(0, .vec 1000 n), (1, .int .i64 a), (2, .int .i64 b), (3, .int .i64 k), (10, .int .i64 i)], [(1000, .vec 47 6 ((Ps.swr l a b i).map eD6) 0)]⟩) (fun i => k - i) (fun i => i ≤ k) 0 ?_ ?_
  · simp +contextual (maxSteps := 5000000) only [go_sem, ↓reduceIte]
    simp [Ps.swr_zero]
  · intro i hi
    have hlen := Ps.swr_len (l := l) (a := a) (b := b) (n := i) (by omega) (by omega)
    simp +contextual (maxSteps := 5000000) only [go_sem, ↓reduceIte, eD6_at, eD6_set, List.length_set, tn_add]
    simp only [aa, inR_iff]
    split
    · rename_i hlt
      and_intros
      all_goals first | omega | skip
      refine ⟨i + 1, ⟨by omega, ?_⟩, by omega, by omega⟩
      rw [← Ps.swr_succ default (by omega) (by omega)]
      rfl
    · rename_i hge
      have : i = k := by omega
      subst this
      rfl

def cm_sr1 (i n : Nat) (a b k : Int) : Option LObj → MS
  | some (.vec e 6 rows 0) => .yes ((e = 47 ∧ rows = (rows.map d6).map eD6) ∧ (rows.length = n ∧ n < 1000000000) ∧ (0 ≤ a ∧ 0 ≤ k ∧ a + k ≤ b ∧ b + k ≤ n)) [i] [(i, .vec e 6 ((Ps.swr (rows.map d6) a.toNat b.toNat k.toNat).map eD6) 0)] (.ret (.tup []))
  | _ => .bad
def cm_sr (ds : List D) (H : Hp) : MS := match ds with | [.vec i n, .int .i64 a, .int .i64 b, .int .i64 k, _] => cm_sr1 i n a b k (H i) | _ => .bad
theorem objs_one {H : Hp} {i : Nat} {o : LObj} (h : H i = some o) : objs H [i] = [(i, o)] := by simp only [objs, h, objs1]
theorem stm_sr : StMC Tryz.prog 132 [0] cm_sr := by
  intro ds H pre mu o1 out h hp
  unfold cm_sr at h
  split at h
  · rename_i i n a b k f
    unfold cm_sr1 at h
    split at h
    · rename_i e rows hi
      cases h
      obtain ⟨⟨rfl, hr⟩, ⟨rfl, h3⟩, ha, hk, h1, h2⟩ := hp
      rw [objs_one hi]
      have := (fcm_swapRange (rows.map d6) a.toNat b.toNat k.toNat f rows.length (by simp) (by omega) (by omega) h3).one i trivial (by simp [plainO])
      rw [← hr, Int.toNat_of_nonneg ha, Int.toNat_of_nonneg (by omega), Int.toNat_of_nonneg hk] at this
      simp only [renF, ren1, renLO, renO, renM, ren, renL, sw_l] at this
      exact this
    · cases h
  · cases h
theorem fcm_rotate (l : List St6) (a m b : Nat) (f : D) (hf : cleanL [f] = true) (n : Nat) (hn : l.length = n) (h1 : a < m) (h2 : m < b) (h4 : b ≤ n) (h3 : n < 1000000000) :
    FCM Tryz.prog 131 [(true, .vec 1000 n), (false, .int .i64 a), (false, .int .i64 m), (false, .int .i64 b), (false, f)] [(1000, .vec 47 6 (l.map eD6) 0)] [(1000, .vec 47 6 ((Ps.rot l a m b).map eD6) 0)] (.ret (.tup [])) := by
  have cf := clr_of hf
  refine fcm_M (fn := Tryz.f131) (C := (tab [] [(132, [0], cm_sr)])) (rs := []) mixed (by kernel_rfl) (by kernel_rfl) rfl rfl (by kernel_rfl) ?_ ?_
  · simp +contextual (maxSteps := 5000000) only [go_sem, ↓reduceIte]
  simp +contextual (maxSteps := 5000000) only [go_sem, ↓reduceIte]
  simp only [aa, inR_iff]
  and_intros
  all_goals first | omega | skip
  refine M_loopI (fun s : List St6 × Nat × Nat => ⟨[(0, .vec 1000 n), (1, .int .i64 a), (2, .int .i64 m), (3, .int .i64 b), (4, f), (10, .int .i64 s.2.1), (11, .int .i64 s.2.2)], [(1000, .vec 47 6 (s.1.map eD6) 0)]⟩) (fun s => s.2.1 + s.2.2)
    (fun s => s.1.length = n ∧ 0 < s.2.1 ∧ 0 < s.2.2 ∧ s.2.1 ≤ m ∧ m + s.2.2 ≤ n ∧ Ps.rot s.1 (m - s.2.1) m (m + s.2.2) = Ps.rot l a m b) (l, m - a, b - m) ?_ ?_
  · simp +contextual (maxSteps := 5000000) only [go_sem, ↓reduceIte, cf.cv6, cf.rf6, cf.nw6, cf.fz6, cf.wkN, cf.wk, cf.inO]
    have e1 : m - (m - a) = a := by omega
    have e2 : m + (b - m) = b := by omega
    rw [e1, e2]
    and_intros
    all_goals first | omega | trivial
  · intro ⟨k, i, j⟩ hi
    obtain ⟨i1, i2, i3, i4, i5, i6⟩ := hi
    simp only at i1 i2 i3 i4 i5 i6
    subst hn
    have q1 : ((m : Int) - (i : Int)).toNat = m - i := by omega
    have q2 : ((m : Int) + (j : Int) - (i : Int)).toNat = m + j - i := by omega
    simp +contextual (maxSteps := 5000000) only [go_sem, ↓reduceIte, eD6_at, eD6_set, List.length_set, tn_add, cm_sr, cm_sr1, stm_sr, d6_eD6, cf.cv6, cf.rf6, cf.nw6, cf.fz6, cf.wkN, cf.wk, cf.inO]
    simp only [aa, inR_iff, q1, q2]
    split
    · split
      · have := Ps.swr_len (l := k) (a := m - i) (b := m) (n := j) (by omega) (by omega)
        and_intros
        all_goals first | omega | skip
        refine ⟨(Ps.swr k (m - i) m j, i - j, j), ⟨⟨⟨by simp only; omega, rfl⟩, rfl⟩, by simp only; omega, by simp only; omega, by simp only; omega, by simp only; omega, by simp only; omega, by simp only; omega, ?_⟩⟩
        simp only
        rw [show m - (i - j) = m - i + j from by omega, Ps.rot_great (by omega) (by omega) (by omega)]
        exact i6
      · have := Ps.swr_len (l := k) (a := m - i) (b := m + j - i) (n := i) (by omega) (by omega)
        and_intros
        all_goals first | omega | skip
        refine ⟨(Ps.swr k (m - i) (m + j - i) i, i, j - i), ⟨⟨⟨rfl, by simp only; omega⟩, rfl⟩, by simp only; omega, by simp only; omega, by simp only; omega, by simp only; omega, by simp only; omega, by simp only; omega, ?_⟩⟩
        simp only
        rw [show m + (j - i) = m + j - i from by omega, Ps.rot_small (by omega) (by omega) (by omega)]
        exact i6
    · rename_i hij
      have hij : i = j := by omega
      subst hij
      and_intros
      all_goals first | omega | skip
      rw [Ps.rot_same (by omega) (by omega), i6]
end Go.Proofs.YtknkjakppikjeaaGreat

set_option linter.unusedSimpArgs false
namespace Go.Proofs.YtknkjakppikjeaaGreat
open Go.Tn
set_option maxHeartbeats 4000000
set_option maxRecDepth 100000
/-- a closure that compares two numbers -/
def c_cl (cs : List D) (cm : St6 → St6 → Int) (l : List St6) (caps args : List D) : Prop × Out :=
  match args with
  | [.agg [.int .i64 a, .int .i64 b, .int .i64 c, .int .i64 d, .str e, .str f], .agg [.int .i64 a2, .int .i64 b2, .int .i64 c2, .int .i64 d2, .str e2, .str f2]] => (caps = cs ∧ (⟨a, b, c, d, e, f⟩ : St6) ∈ l ∧ (⟨a2, b2, c2, d2, e2, f2⟩ : St6) ∈ l, .ret (.int .i64 (cm ⟨a, b, c, d, e, f⟩ ⟨a2, b2, c2, d2, e2, f2⟩)))
  | _ => (False, .ret .any)
theorem st_cl {P : Program} {g : Nat} {cs : List D} {cm : St6 → St6 → Int} {l : List St6} (h : ∀ x ∈ l, ∀ y ∈ l, FC P g cs [.agg (eD6 x), .agg (eD6 y)] (.ret (.int .i64 (cm x y)))) : StC P g (c_cl cs cm l) := by
  intro caps args
  unfold c_cl
  split
  · rintro ⟨rfl, hx, hy⟩; exact h _ hx _ hy
  · exact fun h => h.elim
theorem fcm_insertion (g : Nat) (cs : List D) (hcs : cleanL [.fn g [] cs] = true) (cm : St6 → St6 → Int) (le : St6 → St6 → Bool) (hle : ∀ x y, le x y = decide (0 ≤ cm y x)) (hp : Ps.Pre le) (l : List St6)
    (hc : ∀ x ∈ l, ∀ y ∈ l, FC Tryz.prog g cs [.agg (eD6 x), .agg (eD6 y)] (.ret (.int .i64 (cm x y)))) (a b : Nat) (n : Nat) (hn : l.length = n) (h1 : a ≤ b) (h2 : b ≤ n) (h3 : n < 1000000000) :
    FCM Tryz.prog 124 [(true, .vec 1000 n), (false, .int .i64 a), (false, .int .i64 b), (false, .fn g [] cs)] [(1000, .vec 47 6 (l.map eD6) 0)] [(1000, .vec 47 6 ((Ps.seg (Ps.srt le) l a b).map eD6) 0)] (.ret (.tup [])) := by
  have cl := clrL_of (cl_fn hcs)
  have hst := st_cl hc
  refine fcm_M (fn := Tryz.f124) (C := (tab [(g, c_cl cs cm l)] [])) (rs := []) mixed (by kernel_rfl) (by kernel_rfl) rfl rfl (by kernel_rfl) ?_ ?_
  · simp +contextual (maxSteps := 5000000) only [go_sem, ↓reduceIte]
  simp +contextual (maxSteps := 5000000) only [go_sem, ↓reduceIte]
  refine ⟨⟨by omega, by omega⟩, fun _ => ?_⟩
  refine M_loopI (fun s : List (St6 × Nat) × Nat => ⟨[(0, .vec 1000 n), (1, .int .i64 a), (2, .int .i64 b), (3, .fn g [] cs), (8, .int .i64 s.2)], [(1000, .vec 47 6 ((s.1.map (·.1)).map eD6) 0)]⟩) (fun s => b + 1 - s.2)
    (fun s => Ps.OutI le l a s.1 s.2 ∧ a + 1 ≤ s.2 ∧ (s.2 ≤ b ∨ s.2 = a + 1)) (l.zipIdx, a + 1) ?_ ?_
  · simp +contextual (maxSteps := 5000000) only [go_sem, ↓reduceIte, cl.cv5, cl.rf5, cl.nw5, cl.fz5, cl.wkL, cl.inOL, Ps.zip_fst]
    and_intros
    all_goals first | omega | exact Ps.out_start l a | skip
  · intro ⟨t, i⟩ hi
    obtain ⟨i1, i2, i3⟩ := hi
    simp only at i1 i2 i3
    simp +contextual (maxSteps := 5000000) only [go_sem, ↓reduceIte]
    split
    · rename_i hlt
      refine M_loopI (fun s : List (St6 × Nat) × Nat => ⟨[(0, .vec 1000 n), (1, .int .i64 a), (2, .int .i64 b), (3, .fn g [] cs), (8, .int .i64 i), (9, .int .i64 s.2)], [(1000, .vec 47 6 ((s.1.map (·.1)).map eD6) 0)]⟩) (fun s => s.2)
        (fun s => Ps.InI le l a i s.1 s.2) (t, i) ?_ ?_
      · simp +contextual (maxSteps := 5000000) only [go_sem, ↓reduceIte, cl.cv5, cl.rf5, cl.nw5, cl.fz5, cl.wkL, cl.inOL]
        exact Ps.in_start i1 (by omega)
      · intro ⟨t, j⟩ hj
        simp only at hj
        have hlen := Ps.in_len hj
        have haj := hj.aj
        have hji := hj.ji
        simp +contextual (maxSteps := 5000000) only [go_sem, ↓reduceIte, eD6_at, eD6_set, List.length_set, tn_add, tn_sub1, c_cl, hst, cl.cv6, cl.rf6, cl.nw6, cl.fz6, cl.cv5, cl.rf5, cl.nw5, cl.fz5, cl.wkL, cl.inOL]
        simp only [aa, inR_iff]
        have hi' : i < l.length := by omega
        split
        · rename_i hja
          have g1 : ∃ x, t[j]? = some x := ⟨t[j]'(by omega), List.getElem?_eq_getElem (by omega)⟩
          have g2 : ∃ y, t[j - 1]? = some y := ⟨t[j - 1]'(by omega), List.getElem?_eq_getElem (by omega)⟩
          obtain ⟨x, hx⟩ := g1
          obtain ⟨y, hy⟩ := g2
          have hcm := hle y.1 x.1
          simp only [st6_eta]
          rw [Ps.tag_at default hx, Ps.tag_at default hy]
          refine ⟨⟨by omega, by omega⟩, ⟨by omega, by omega⟩, ⟨by omega, by omega⟩, by omega, ⟨?_, ?_⟩, ?_⟩
          · rw [← Ps.tag_at default hx]; exact Ps.tag_mem hj.pm default (by omega)
          · rw [← Ps.tag_at default hy]; exact Ps.tag_mem hj.pm default (by omega)
          split
          · rename_i hneg
            refine ⟨by omega, by omega, ⟨(Ps.swp (default, 0) t j (j - 1), j - 1), ⟨by simp only; omega, ?_⟩, by simp only; omega, ?_⟩⟩
            · simp only
              rw [Ps.swp_map]
              unfold Ps.swp
              simp only [Ps.tag_at default hx, Ps.tag_at default hy]
            · refine Ps.in_step hp (default, 0) hj hi' hja fun x' y' hx' hy' => ?_
              rw [hx] at hx'; cases hx'
              rw [hy] at hy'; cases hy'
              rw [hcm]; simp; omega
          · rename_i hneg
            refine ⟨⟨by omega, by omega⟩, ⟨(t, i + 1), ⟨by simp only; omega, rfl⟩, by simp only; omega, ?_, by simp only; omega, by simp only; omega⟩⟩
            refine Ps.in_end hp hj (by omega) hi' (.inr fun x' y' hx' hy' => ?_)
            rw [hx] at hx'; cases hx'
            rw [hy] at hy'; cases hy'
            rw [hcm]; simp; omega
        · rename_i hja
          refine ⟨⟨by omega, by omega⟩, ⟨(t, i + 1), ⟨by simp only; omega, rfl⟩, by simp only; omega, ?_, by simp only; omega, by simp only; omega⟩⟩
          exact Ps.in_end hp hj (by omega) hi' (.inl (by omega))
    · rename_i hge
      rw [Ps.out_end hp i1 h1 (by omega) (by omega) i3]
/-- closures that compare, on the members of a list -/
def CmpOn (g : Nat) (cs : List D) (cm : St6 → St6 → Int) (l : List St6) : Prop := (g ≠ 125 ∧ g ≠ 131 ∧ g ≠ 124 ∧ g ≠ 111) ∧ ∀ x ∈ l, ∀ y ∈ l, FC Tryz.prog g cs [.agg (eD6 x), .agg (eD6 y)] (.ret (.int .i64 (cm x y)))
theorem CmpOn.perm {g : Nat} {cs : List D} {cm : St6 → St6 → Int} {l k : List St6} (h : CmpOn g cs cm l) (hp : k.Perm l) : CmpOn g cs cm k := ⟨h.1, fun x hx y hy => h.2 x (hp.mem_iff.1 hx) y (hp.mem_iff.1 hy)⟩
structure CmpLe (cm : St6 → St6 → Int) (le : St6 → St6 → Bool) : Prop where
  e : ∀ x y, le x y = decide (0 ≤ cm y x)
  p : Ps.Pre le
theorem CmpLe.f {cm : St6 → St6 → Int} {le : St6 → St6 → Bool} (h : CmpLe cm le) {x y : St6} : le x y = false ↔ cm y x < 0 := by rw [h.e, decide_eq_false_iff_not]; omega
theorem CmpLe.t {cm : St6 → St6 → Int} {le : St6 → St6 → Bool} (h : CmpLe cm le) {x y : St6} : le x y = true ↔ ¬ cm y x < 0 := by rw [h.e, decide_eq_true_iff]; omega
def cm_is1 (cm : St6 → St6 → Int) (le : St6 → St6 → Bool) (i n : Nat) (a b : Int) (g : Nat) (cs : List D) : Option LObj → MS
  | some (.vec e 6 rows 0) => .yes ((e = 47 ∧ rows = (rows.map d6).map eD6) ∧ (rows.length = n ∧ n < 1000000000) ∧ (0 ≤ a ∧ a ≤ b ∧ b ≤ n) ∧ cleanL [.fn g [] cs] = true ∧ CmpOn g cs cm (rows.map d6)) [i] [(i, .vec e 6 ((Ps.seg (Ps.srt le) (rows.map d6) a.toNat b.toNat).map eD6) 0)] (.ret (.tup []))
  | _ => .bad
def cm_is (cm : St6 → St6 → Int) (le : St6 → St6 → Bool) (ds : List D) (H : Hp) : MS := match ds with | [.vec i n, .int .i64 a, .int .i64 b, .fn g [] cs] => cm_is1 cm le i n a b g cs (H i) | _ => .bad
theorem stm_is {cm : St6 → St6 → Int} {le : St6 → St6 → Bool} (hcl : CmpLe cm le) : StMC Tryz.prog 124 [0] (cm_is cm le) := by
  intro ds H pre mu o1 out h hp
  unfold cm_is at h
  split at h
  · rename_i i n a b g cs
    unfold cm_is1 at h
    split at h
    · rename_i e rows hi
      cases h
      obtain ⟨⟨rfl, hr⟩, ⟨rfl, h3⟩, ⟨ha, h1, h2⟩, hcs, hc⟩ := hp
      rw [objs_one hi]
      have := (fcm_insertion g cs hcs cm le hcl.e hcl.p (rows.map d6) hc.2 a.toNat b.toNat rows.length (by simp) (by omega) (by omega) h3).one i trivial (by simp [plainO])
      rw [← hr, Int.toNat_of_nonneg ha, Int.toNat_of_nonneg (by omega)] at this
      simp only [renF, ren1, renLO, renO, renM, ren, renL, sw_l] at this
      exact this
    · cases h
  · cases h
def cm_ro1 (i n : Nat) (a m b : Int) (f : D) : Option LObj → MS
  | some (.vec e 6 rows 0) => .yes ((e = 47 ∧ rows = (rows.map d6).map eD6) ∧ (rows.length = n ∧ n < 1000000000) ∧ (0 ≤ a ∧ a < m ∧ m < b ∧ b ≤ n) ∧ cleanL [f] = true) [i] [(i, .vec e 6 ((Ps.rot (rows.map d6) a.toNat m.toNat b.toNat).map eD6) 0)] (.ret (.tup []))
  | _ => .bad
def cm_ro (ds : List D) (H : Hp) : MS := match ds with | [.vec i n, .int .i64 a, .int .i64 m, .int .i64 b, f] => cm_ro1 i n a m b f (H i) | _ => .bad
theorem stm_ro : StMC Tryz.prog 131 [0] cm_ro := by
  intro ds H pre mu o1 out h hp
  unfold cm_ro at h
  split at h
  · rename_i i n a m b f
    unfold cm_ro1 at h
    split at h
    · rename_i e rows hi
      cases h
      obtain ⟨⟨rfl, hr⟩, ⟨rfl, h3⟩, ⟨ha, h1, h2, h4⟩, hf⟩ := hp
      rw [objs_one hi]
      have := (fcm_rotate (rows.map d6) a.toNat m.toNat b.toNat f hf rows.length (by simp) (by omega) (by omega) (by omega) h3).one i trivial (by simp [plainO])
      rw [← hr, Int.toNat_of_nonneg ha, Int.toNat_of_nonneg (by omega), Int.toNat_of_nonneg (by omega)] at this
      simp only [renF, ren1, renLO, renO, renM, ren, renL, sw_l] at this
      exact this
    · cases h
  · cases h
end Go.Proofs.YtknkjakppikjeaaGreat
