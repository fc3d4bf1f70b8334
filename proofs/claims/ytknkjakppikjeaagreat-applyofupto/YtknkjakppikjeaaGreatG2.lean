/-
  What the functions compute that the law of this claim reaches. By an AI agent.
-/
import Derived.Test.YtknkjakppikjeaaGreatG1
set_option linter.unusedSimpArgs false
set_option linter.unusedVariables false

set_option linter.unusedSimpArgs false
namespace Go.Proofs.YtknkjakppikjeaaGreat
open Go.Tn
set_option maxHeartbeats 8000000
set_option maxRecDepth 100000
structure okTb (t : Tab) : Prop where
  head : t.1.length < 2000000
  rows : t.2.length < 2000000
  texts : ((alF t).map List.length).sum < 2000000000
def c_all1 (t : Tab) (caps args : List D) : Prop × Out := match caps, args with
  | [.box cs], [] => (cs = eTb t ∧ t.2.length < 1000000000, .seq ((alF t).map eS))
  | _, _ => (False, .ret .any)
theorem st_all1 (t : Tab) : StC Tryz.prog 107 (c_all1 t) := by
  intro caps args; unfold c_all1; split
  · rintro ⟨rfl, h⟩; exact fc_all1 t h
  · exact fun h => h.elim
def c_all (caps args : List D) : Prop × Out := match caps, args with
  | [], [.agg cs] => (True, .ret (.fn 107 [] [.box cs]))
  | _, _ => (False, .ret .any)
theorem fc_all (t : Tab) : FC Tryz.prog 63 [] [.agg (eTb t)] (.ret (.fn 107 [] [.box (eTb t)])) := by
  refine fc_M (fn := Tryz.f63) (C := (tab [] [])) (rs := [2]) mixed (by kernel_rfl) (by kernel_rfl) rfl rfl (by kernel_rfl) (by intro ys h; cases h) ?_
  unfold eTb
  simp +contextual (maxSteps := 5000000) only [go_sem, ↓reduceIte]
def c_allT (t : Tab) (caps args : List D) : Prop × Out := match caps, args with
  | [], [x] => (x = .agg (eTb t), .ret (.fn 107 [] [.box (eTb t)]))
  | _, _ => (False, .ret .any)
theorem st_allT (t : Tab) : StC Tryz.prog 63 (c_allT t) := by
  intro caps args; unfold c_allT; split
  · rintro rfl; exact fc_all t
  · exact fun h => h.elim
def totF (l : List Str) : Nat := (l.map List.length).sum
theorem totF_take {l : List Str} {i : Nat} (h : i < l.length) : totF (l.take (i + 1)) = totF (l.take i) + (l.getD i []).length := by
  unfold totF
  have e : l.take (i + 1) = l.take i ++ [l.getD i []] := by
    rw [List.take_add_one, List.getElem?_eq_getElem h, List.getD_eq_getElem?_getD, List.getElem?_eq_getElem h]; rfl
  rw [e, List.map_append, List.sum_append]; rfl
theorem totF_le (l : List Str) (i : Nat) : totF (l.take i) ≤ totF l := by
  have : totF l = totF (l.take i) + totF (l.drop i) := by
    unfold totF
    rw [← List.sum_append, ← List.map_append, List.take_append_drop]
  omega
theorem fc_TTot (t : Tab) (h : okTb t) : FC Tryz.prog 64 [] [.agg (eTb t)] (.ret (.int .i64 (totF (alF t)))) := by
  have hs := st_allT t
  have hs1 := st_all1 t
  have htot : totF (alF t) < 2000000000 := h.texts
  have hro := h.rows
  refine fc_M (fn := Tryz.f64) (C := (tab [(63, c_allT t), (107, c_all1 t)] [])) (rs := [2]) mixed (by kernel_rfl) (by kernel_rfl) rfl rfl (by kernel_rfl) (by intro ys h; cases h) ?_
  unfold eTb
  simp +contextual (maxSteps := 5000000) only [go_sem, ↓reduceIte, c_allT, hs, eTb]
  refine M_range (f := 107) (caps := [.box (eTb t)]) (ys := (alF t).map eS) (pre := (c_all1 t [.box (eTb t)] []).1) ?_ ?_ ?_ (σ := Unit) [(3, .loc 3 0)] (fun j _ => [(3, .blk [.int .i64 (totF ((alF t).take j))] false)]) (fun j _ => j ≤ (alF t).length) () ?_ ?_ ?_ ?_
  · simp +contextual (maxSteps := 5000000) only [go_sem, ↓reduceIte, eTb]
  · simp +contextual (maxSteps := 5000000) only [go_sem, ↓reduceIte, c_all1, eTb]
  · simp +contextual (maxSteps := 5000000) only [go_sem, ↓reduceIte, c_all1, hs1, eTb]
    omega
  · simp +contextual (maxSteps := 5000000) only [go_sem, ↓reduceIte]
    intro y hy
    obtain ⟨x, _, rfl⟩ := List.mem_map.1 hy
    rfl
  · simp +contextual (maxSteps := 5000000) only [go_sem, ↓reduceIte]
    rfl
  · intro j _ hj hlt2
    have hlt3 : j < (alF t).length := by simpa using hlt2
    have hY : ((alF t).map eS).getD j [] = [.str ((alF t).getD j [])] := eS_at (alF t) j hlt3
    have hT := totF_take hlt3
    have hT2 := totF_le (alF t) (j + 1)
    rw [hY]
    simp +contextual (maxSteps := 5000000) only [go_sem, ↓reduceIte, putPs]
    exact fun _ => ⟨inR64 (by omega) (by omega), fun _ => ⟨(), by rw [hT]; omega, by omega⟩⟩
  · intro _ hs
    simp +contextual (maxSteps := 5000000) only [go_sem, ↓reduceIte, List.length_map, List.take_length]
def c_Total (t : Tab) (caps args : List D) : Prop × Out := match caps, args with
  | [], [x] => (x = .agg (eTb t), .ret (.int .i64 (totF (alF t))))
  | _, _ => (False, .ret .any)
theorem st_Total {t : Tab} (h : okTb t) : StC Tryz.prog 64 (c_Total t) := by
  intro caps args; unfold c_Total; split
  · rintro rfl; exact fc_TTot t h
  · exact fun h => h.elim
def tc4 (t : Tab) : Int := if 40 < t.1.length ∨ 400 < t.2.length then 7 else if ∃ s ∈ alF t, 1000 < s.length then 7 else if totF (alF t) ≤ 40000 then 0 else 7
theorem tfErrno4 : TyFact Tryz.prog 35 ⟨.int .i64, [.int .i64 0], [], 0, 0, false, 0, 8⟩ := by
  have hy : tyOf Tryz.prog 35 = ⟨.int .i64, [.int .i64 0], [], 0, 0, false, 0, 8⟩ := by kernel_rfl
  have h := tyOf_fact (P := Tryz.prog) (t := 35) (by rw [hy]; intro h; cases h)
  rwa [hy] at h
theorem fc_tc4 (t : Tab) (h : okTb t) : FC Tryz.prog 62 [.box (eTb t)] [] (.ret (.int .i64 (tc4 t))) := by
  have hs := st_allT t
  have hs1 := st_all1 t
  have hst := st_Total h
  have hro := h.rows
  refine fcc_of (fn := Tryz.f62) (rt := 35) (r := 1) (i := 1) (C := tab [(63, c_allT t), (107, c_all1 t), (64, c_Total t), (57, c_unless)] []) mixed (by kernel_rfl) (by kernel_rfl) rfl rfl tfErrno4 (by kernel_rfl) (by intro ys h; cases h) ?_
  by_cases c1 : 40 < t.1.length
  · have e : tc4 t = 7 := by unfold tc4; rw [if_pos (.inl c1)]
    have c1' : (40 : Int) < t.1.length := by omega
    rw [e]
    unfold eTb
    simp +contextual (maxSteps := 5000000) only [go_sem, ↓reduceIte, c1', finC, finCB, locR]
  by_cases c2 : 400 < t.2.length
  · have e : tc4 t = 7 := by unfold tc4; rw [if_pos (.inr c2)]
    have c1' : ¬ (40 : Int) < t.1.length := by omega
    have c2' : (400 : Int) < t.2.length := by omega
    rw [e]
    unfold eTb
    simp +contextual (maxSteps := 5000000) only [go_sem, ↓reduceIte, c1', c2', finC, finCB, locR]
  have e0 : tc4 t = if ∃ s ∈ alF t, 1000 < s.length then 7 else if totF (alF t) ≤ 40000 then 0 else 7 := by unfold tc4; rw [if_neg (by omega)]
  have c1' : ¬ (40 : Int) < t.1.length := by omega
  have c2' : ¬ (400 : Int) < t.2.length := by omega
  unfold eTb
  simp +contextual (maxSteps := 5000000) only [go_sem, ↓reduceIte, c1', c2', c_allT, hs, eTb]
  intro _ _
  refine M_range (f := 107) (caps := [.box (eTb t)]) (ys := (alF t).map eS) (pre := (c_all1 t [.box (eTb t)] []).1) ?_ ?_ ?_ (σ := Unit) [(0, .box (eTb t)), (1, .loc 1 0)] (fun j _ => [(1, .blk [.int .i64 0] false)]) (fun j _ => j ≤ (alF t).length ∧ ∀ k, k < j → ((alF t).getD k []).length ≤ 1000) () ?_ ?_ ?_ ?_
  · simp +contextual (maxSteps := 5000000) only [go_sem, ↓reduceIte, eTb]
  · simp +contextual (maxSteps := 5000000) only [go_sem, ↓reduceIte, c_all1, eTb]
  · simp +contextual (maxSteps := 5000000) only [go_sem, ↓reduceIte, c_all1, hs1, eTb]
    omega
  · simp +contextual (maxSteps := 5000000) only [go_sem, ↓reduceIte, eTb]
    intro y hy
    obtain ⟨x, _, rfl⟩ := List.mem_map.1 hy
    rfl
  · simp +contextual (maxSteps := 5000000) only [go_sem, ↓reduceIte, eTb]
  · intro j _ hj hlt2
    obtain ⟨hj, hm⟩ := hj
    have hlt3 : j < (alF t).length := by simpa using hlt2
    have hY : ((alF t).map eS).getD j [] = [.str ((alF t).getD j [])] := eS_at (alF t) j hlt3
    rw [hY]
    by_cases q : (1000 : Int) < (((alF t).getD j []).length : Nat)
    · simp +contextual (maxSteps := 5000000) only [go_sem, ↓reduceIte, putPs, q, finC, finCB, locR]
      refine fun _ => ?_
      rw [e0, if_pos ⟨_, getD_mem (d := ([] : Str)) hlt3, by omega⟩]
    · simp +contextual (maxSteps := 5000000) only [go_sem, ↓reduceIte, putPs, q]
      refine fun _ => ⟨(), by omega, fun k hk => ?_⟩
      rcases lt_cases hk with h | rfl
      · exact hm k h
      · omega
  · intro _ hs
    simp +contextual (maxSteps := 5000000) only [go_sem, ↓reduceIte, List.length_map, c_Total, hst, c_unless, st_unless, eTb, finC, finCB, locR]
    obtain ⟨_, hm⟩ := hs
    have hno : ¬ ∃ s ∈ alF t, 1000 < s.length := ?_
    · rw [e0, if_neg hno]
      congr 1; exact propext (by omega)
    rintro ⟨x, hx, hlen⟩
    obtain ⟨k, hk, e⟩ := List.getElem_of_mem hx
    have := hm k (by simpa using hk)
    rw [List.getD_eq_getElem?_getD, List.getElem?_eq_getElem hk, Option.getD_some, e] at this
    omega
def tchk (t : Tab) : Int := if tc1 t ≠ 0 then tc1 t else if tc2 t ≠ 0 then tc2 t else if tc3 t ≠ 0 then tc3 t else tc4 t
def c_t1 (t : Tab) (caps args : List D) : Prop × Out := match caps, args with | [.box cs], [] => (cs = eTb t, .ret (.int .i64 (tc1 t))) | _, _ => (False, .ret .any)
theorem st_t1 (t : Tab) : StC Tryz.prog 56 (c_t1 t) := by
  intro caps args; unfold c_t1; split
  · rintro rfl; exact fc_tc1 t
  · exact fun h => h.elim
def c_t2 (t : Tab) (caps args : List D) : Prop × Out := match caps, args with | [.box cs], [] => (cs = eTb t, .ret (.int .i64 (tc2 t))) | _, _ => (False, .ret .any)
theorem st_t2 {t : Tab} (h : okTb t) : StC Tryz.prog 58 (c_t2 t) := by
  intro caps args; unfold c_t2; split
  · rintro rfl; exact fc_tc2 t (by have := h.rows; omega)
  · exact fun h => h.elim
def c_t3 (t : Tab) (caps args : List D) : Prop × Out := match caps, args with | [.box cs], [] => (cs = eTb t, .ret (.int .i64 (tc3 t))) | _, _ => (False, .ret .any)
theorem st_t3 {t : Tab} (h : okTb t) : StC Tryz.prog 61 (c_t3 t) := by
  intro caps args; unfold c_t3; split
  · rintro rfl; exact fc_tc3 t (by have := h.head; omega)
  · exact fun h => h.elim
def c_t4 (t : Tab) (caps args : List D) : Prop × Out := match caps, args with | [.box cs], [] => (cs = eTb t, .ret (.int .i64 (tc4 t))) | _, _ => (False, .ret .any)
theorem st_t4 {t : Tab} (h : okTb t) : StC Tryz.prog 62 (c_t4 t) := by
  intro caps args; unfold c_t4; split
  · rintro rfl; exact fc_tc4 t h
  · exact fun h => h.elim
theorem fc_TCheck (t : Tab) (h : okTb t) : FC Tryz.prog 25 [] [.agg (eTb t)] (.ret (.int .i64 (tchk t))) := by
  have s1 := st_t1 t
  have s2 := st_t2 h
  have s3 := st_t3 h
  have s4 := st_t4 h
  refine fc_M (fn := Tryz.f25) (C := (tab [(56, c_t1 t), (58, c_t2 t), (61, c_t3 t), (62, c_t4 t)] [])) (rs := [2]) mixed (by kernel_rfl) (by kernel_rfl) rfl rfl (by kernel_rfl) (by intro ys h; cases h) ?_
  unfold eTb
  simp +contextual (maxSteps := 5000000) only [go_sem, ↓reduceIte]
  refine M_loopI (fun i : Nat => ⟨[(10, .vec 10 4), (11, .int .i64 4), (12, .int .i64 i)], [(10, .vec 78 1 [[.fn 56 [] [.box (eTb t)]], [.fn 58 [] [.box (eTb t)]], [.fn 61 [] [.box (eTb t)]], [.fn 62 [] [.box (eTb t)]]] 0)]⟩) (fun i => 4 - i) (fun i => i ≤ 4 ∧ (0 < i → tc1 t = 0) ∧ (1 < i → tc2 t = 0) ∧ (2 < i → tc3 t = 0) ∧ (3 < i → tc4 t = 0)) 0 ?_ ?_
  · simp +contextual (maxSteps := 5000000) only [go_sem, ↓reduceIte, eTb]
    exact ⟨rfl, rfl⟩
  intro i hi
  obtain ⟨hi, h1, h2, h3, h4⟩ := hi
  have z : i = 0 ∨ i = 1 ∨ i = 2 ∨ i = 3 ∨ i = 4 := by omega
  rcases z with rfl | rfl | rfl | rfl | rfl
  · by_cases q : tc1 t = 0
    · simp +contextual (maxSteps := 5000000) only [go_sem, ↓reduceIte, Int.reduceEq, Int.reduceNe, Int.reduceLT, Int.reduceLE, Int.reduceToNat, Int.cast_ofNat_Int, eTb, c_t1, s1, q]
      refine ⟨inR64 (by omega) (by omega), fun _ => ⟨1, by simp, by omega, by omega, ?_⟩⟩
      and_intros <;> intro _ <;> first | exact q | exact h1 (by omega) | exact h2 (by omega) | exact h3 (by omega) | omega
    · simp +contextual (maxSteps := 5000000) only [go_sem, ↓reduceIte, Int.reduceEq, Int.reduceNe, Int.reduceLT, Int.reduceLE, Int.reduceToNat, Int.cast_ofNat_Int, eTb, c_t1, s1, q]
      unfold tchk
      rw [if_pos q]
  · by_cases q : tc2 t = 0
    · simp +contextual (maxSteps := 5000000) only [go_sem, ↓reduceIte, Int.reduceEq, Int.reduceNe, Int.reduceLT, Int.reduceLE, Int.reduceToNat, Int.cast_ofNat_Int, eTb, c_t2, s2, q]
      refine ⟨inR64 (by omega) (by omega), fun _ => ⟨2, by simp, by omega, by omega, ?_⟩⟩
      and_intros <;> intro _ <;> first | exact q | exact h1 (by omega) | exact h2 (by omega) | exact h3 (by omega) | omega
    · simp +contextual (maxSteps := 5000000) only [go_sem, ↓reduceIte, Int.reduceEq, Int.reduceNe, Int.reduceLT, Int.reduceLE, Int.reduceToNat, Int.cast_ofNat_Int, eTb, c_t2, s2, q]
      unfold tchk
      rw [if_neg (fun h => h (h1 (by omega))), if_pos q]
  · by_cases q : tc3 t = 0
    · simp +contextual (maxSteps := 5000000) only [go_sem, ↓reduceIte, Int.reduceEq, Int.reduceNe, Int.reduceLT, Int.reduceLE, Int.reduceToNat, Int.cast_ofNat_Int, eTb, c_t3, s3, q]
      refine ⟨inR64 (by omega) (by omega), fun _ => ⟨3, by simp, by omega, by omega, ?_⟩⟩
      and_intros <;> intro _ <;> first | exact q | exact h1 (by omega) | exact h2 (by omega) | exact h3 (by omega) | omega
    · simp +contextual (maxSteps := 5000000) only [go_sem, ↓reduceIte, Int.reduceEq, Int.reduceNe, Int.reduceLT, Int.reduceLE, Int.reduceToNat, Int.cast_ofNat_Int, eTb, c_t3, s3, q]
      unfold tchk
      rw [if_neg (fun h => h (h1 (by omega))), if_neg (fun h => h (h2 (by omega))), if_pos q]
  · by_cases q : tc4 t = 0
    · simp +contextual (maxSteps := 5000000) only [go_sem, ↓reduceIte, Int.reduceEq, Int.reduceNe, Int.reduceLT, Int.reduceLE, Int.reduceToNat, Int.cast_ofNat_Int, eTb, c_t4, s4, q]
      refine ⟨inR64 (by omega) (by omega), fun _ => ⟨4, by simp, by omega, by omega, ?_⟩⟩
      and_intros <;> intro _ <;> first | exact q | exact h1 (by omega) | exact h2 (by omega) | exact h3 (by omega) | omega
    · simp +contextual (maxSteps := 5000000) only [go_sem, ↓reduceIte, Int.reduceEq, Int.reduceNe, Int.reduceLT, Int.reduceLE, Int.reduceToNat, Int.cast_ofNat_Int, eTb, c_t4, s4, q]
      unfold tchk
      rw [if_neg (fun h => h (h1 (by omega))), if_neg (fun h => h (h2 (by omega))), if_neg (fun h => h (h3 (by omega)))]
  · simp +contextual (maxSteps := 5000000) only [go_sem, ↓reduceIte, Int.reduceEq, Int.reduceNe, Int.reduceLT, Int.reduceLE, Int.reduceToNat, Int.cast_ofNat_Int]
    unfold tchk
    rw [if_neg (fun h => h (h1 (by omega))), if_neg (fun h => h (h2 (by omega))), if_neg (fun h => h (h3 (by omega))), h4 (by omega)]
end Go.Proofs.YtknkjakppikjeaaGreat

set_option linter.unusedSimpArgs false
namespace Go.Proofs.YtknkjakppikjeaaGreat
open Go.Tn
set_option maxHeartbeats 8000000
set_option maxRecDepth 100000
/- apply.Held -/
def c_EqT (caps args : List D) : Prop × Out := match caps, args with | [], [.sl 1 a, .sl 1 b] => (a = (a.map dS).map eS ∧ b = (b.map dS).map eS, .ret (.bool (decide (a.map dS = b.map dS)))) | _, _ => (False, .ret .any)
theorem st_EqT : StC Tryz.prog 36 c_EqT := by
  intro caps args; unfold c_EqT; split
  · rename_i a b
    rintro ⟨h1, h2⟩
    have := fc_EqualS (a.map dS) (b.map dS)
    rw [← h1, ← h2] at this
    exact this
  · exact fun h => h.elim
def c_Cell (t : Tab) (caps args : List D) : Prop × Out := match caps, args with | [], [x, .int .i64 r, .int .i64 c] => (x = .agg (eTb t), .ret (.str (cellF t r c))) | _, _ => (False, .ret .any)
theorem st_Cell (t : Tab) : StC Tryz.prog 38 (c_Cell t) := by
  intro caps args; unfold c_Cell; split
  · rintro rfl; exact fc_Cell t _ _
  · exact fun h => h.elim
def delF (t : Tab) (x : Ln) : Bool := decide (x.1 < 0) || decide ((t.2.length : Int) ≤ x.1) || decide (¬ t.2.getD x.1.toNat [] = x.2)
def setF (t : Tab) (x : St6) : Bool := decide (¬ cellF t x.i x.p = x.o)
def lostF (t : Tab) (x : Sp) : Bool := decide (¬ cellF t x.1 x.2.1 = x.2.2)
theorem fc_Held1 (t : Tab) (x : Ln) : FC Tryz.prog 35 [.box (eTb t)] [.agg (eL x)] (.ret (.bool (delF t x))) := by
  refine fc_M (fn := Tryz.f35) (C := (tab [(36, c_EqT)] [])) (rs := [3]) mixed (by kernel_rfl) (by kernel_rfl) rfl rfl (by kernel_rfl) (by intro ys h; cases h) ?_
  unfold eTb eL delF
  by_cases h0 : x.1 < 0
  · simp +contextual (maxSteps := 5000000) only [go_sem, ↓reduceIte, h0]
  by_cases h1 : (t.2.length : Int) ≤ x.1
  · simp +contextual (maxSteps := 5000000) only [go_sem, ↓reduceIte, h0, h1]
  obtain ⟨i, hx⟩ : ∃ i : Nat, x.1 = i := ⟨x.1.toNat, by omega⟩
  have hi : i < t.2.length := by omega
  rw [hx] at h0 h1
  have hat := eR_at t.2 i hi
  simp +contextual (maxSteps := 5000000) only [go_sem, ↓reduceIte, hx, h0, h1, hi, hat, c_EqT, st_EqT, dS_eS]
  by_cases e : t.2.getD i [] = x.2 <;> simp [e]
theorem fc_Held2 (t : Tab) (x : St6) : FC Tryz.prog 37 [.box (eTb t)] [.agg (eD6 x)] (.ret (.bool (setF t x))) := by
  have hs := st_Cell t
  refine fc_M (fn := Tryz.f37) (C := (tab [(38, c_Cell t)] [])) (rs := [3]) mixed (by kernel_rfl) (by kernel_rfl) rfl rfl (by kernel_rfl) (by intro ys h; cases h) ?_
  unfold eTb eD6 setF
  simp +contextual (maxSteps := 5000000) only [go_sem, ↓reduceIte, c_Cell, hs, eTb]
  by_cases e : cellF t x.i x.p = x.o <;> simp [e]
theorem fc_Held3 (t : Tab) (x : Sp) : FC Tryz.prog 39 [.box (eTb t)] [.agg (eSp x)] (.ret (.bool (lostF t x))) := by
  have hs := st_Cell t
  refine fc_M (fn := Tryz.f39) (C := (tab [(38, c_Cell t)] [])) (rs := [3]) mixed (by kernel_rfl) (by kernel_rfl) rfl rfl (by kernel_rfl) (by intro ys h; cases h) ?_
  unfold eTb eSp lostF
  simp +contextual (maxSteps := 5000000) only [go_sem, ↓reduceIte, c_Cell, hs, eTb]
  by_cases e : cellF t x.1 x.2.1 = x.2.2 <;> simp [e]
def heldF (t : Tab) (d : Dl) : Bool := !d.dels.any (delF t) && !d.sets.any (setF t) && !d.lost.any (lostF t)
theorem fc_Held (t : Tab) (d : Dl) (h : okDl d) : FC Tryz.prog 14 [] [.agg (eTb t), .agg (eDl d)] (.ret (.bool (heldF t d))) := by
  have q1 : ∀ x ∈ d.dels, FC Tryz.prog 35 [.box (eTb t)] [.agg (eL x)] (.ret (.bool (delF t x))) := fun x _ => fc_Held1 t x
  have q2 : ∀ x ∈ d.sets, FC Tryz.prog 37 [.box (eTb t)] [.agg (eD6 x)] (.ret (.bool (setF t x))) := fun x _ => fc_Held2 t x
  have q3 : ∀ x ∈ d.lost, FC Tryz.prog 39 [.box (eTb t)] [.agg (eSp x)] (.ret (.bool (lostF t x))) := fun x _ => fc_Held3 t x
  have l1 : d.dels.length < 1000000000 := by have := h.dels; omega
  have l2 : d.sets.length < 1000000000 := by have := h.sets; omega
  have l3 : d.lost.length < 1000000000 := by have := h.lost; omega
  have s1 := st_cnL (delF t)
  have s2 := st_cn6 (setF t)
  have s3 := st_cnSp (lostF t)
  refine fc_M (fn := Tryz.f14) (C := (tab [(40, c_cnL (delF t)), (41, c_cn6 (setF t)), (42, c_cnSp (lostF t))] [] [5003])) (rs := [4]) mixed (by kernel_rfl) (by kernel_rfl) rfl rfl (by kernel_rfl) (by intro ys h; cases h) ?_
  unfold eTb at q1 q2 q3
  unfold eTb eDl
  simp +contextual (maxSteps := 5000000) only [go_sem, ↓reduceIte]
  refine M_join (fun _ : Unit => ⟨[(2, .loc 2 0), (3, .loc 3 0), (5, .fn 35 [] [.loc 2 0]), (6, .fn 37 [] [.loc 2 0]), (7, .fn 39 [] [.loc 2 0])], [(2, .blk (eTb t) false), (3, .blk (eDl d) false)]⟩) (fun _ => True) ?_ ?_
  · simp +contextual (maxSteps := 5000000) only [go_sem, ↓reduceIte, eTb, eDl]
    exact ⟨(), trivial⟩
  intro _ _
  unfold eTb eDl heldF
  simp +contextual (maxSteps := 5000000) only [go_sem, ↓reduceIte, c_cnL, s1, c_cn6, s2, c_cnSp, s3, dL_eL, d6_eD6, dSp_eSp, cl_box, l1, l2, l3]
  exact ⟨q1, fun _ => ⟨q2, fun _ => q3⟩⟩
end Go.Proofs.YtknkjakppikjeaaGreat

set_option linter.unusedSimpArgs false
namespace Go.Proofs.YtknkjakppikjeaaGreat
open Go.Tn
set_option maxHeartbeats 8000000
set_option maxRecDepth 100000
/- tables alike -/
theorem fc_EqR (l k : List (List Str)) : FC Tryz.prog 55 [] [.sl 1 (l.map eR), .sl 1 (k.map eR), .fn 36 [] []] (.ret (.bool (decide (l = k)))) := by
  refine fc_M (fn := Tryz.f55) (C := (tab [(36, c_EqT)] [])) (rs := [6]) mixed (by kernel_rfl) (by kernel_rfl) rfl rfl (by kernel_rfl) (by intro ys h; cases h) ?_
  by_cases hlen : l.length = k.length
  · simp +contextual (maxSteps := 5000000) only [go_sem, ↓reduceIte, hlen]
    intro _
    refine M_loopI (fun i : Nat => ⟨[(0, .sl 1 (l.map eR)), (1, .sl 1 (k.map eR)), (2, .fn 36 [] []), (15, .sl 1 (l.map eR)), (16, .int .i64 k.length), (17, .int .i64 i)], []⟩) (fun i => l.length - i) (fun i => i ≤ l.length ∧ ∀ j, j < i → l.getD j [] = k.getD j []) 0 ?_ ?_
    · simp +contextual (maxSteps := 5000000) only [go_sem, ↓reduceIte]
      rfl
    · intro i hi
      obtain ⟨hi, ho⟩ := hi
      by_cases hlt : i < k.length
      · have ha := eR_at l i (by omega)
        have hb := eR_at k i hlt
        have hl2 : i < l.length := by omega
        generalize hx : l.getD i [] = x at ha
        generalize hy : k.getD i [] = y at hb
        by_cases q : x = y
        · subst q
          simp +contextual (maxSteps := 5000000) only [go_sem, ↓reduceIte, hlt, hl2, ha, hb, c_EqT, st_EqT, dS_eS, eq_self]
          refine ⟨inR64 (by omega) (by omega), fun _ => ⟨i + 1, by simp, by omega, by omega, fun j hj => ?_⟩⟩
          rcases lt_cases hj with h | rfl
          · exact ho j h
          · rw [hx, hy]
        · have hne : ¬ l = k := fun h => q (by rw [← hx, ← hy, h])
          have hd : decide (l = k) = false := decide_eq_false hne
          rw [hd]
          simp +contextual (maxSteps := 5000000) only [go_sem, ↓reduceIte, hlt, hl2, ha, hb, c_EqT, st_EqT, dS_eS, q]
      · have hd : decide (l = k) = true := decide_eq_true (eq_of_at [] hlen (fun j hj => ho j (by omega)))
        rw [hd]
        have hl3 : ¬ i < l.length := by omega
        simp +contextual (maxSteps := 5000000) only [go_sem, ↓reduceIte, hlt, hl3]
  · have hd : decide (l = k) = false := decide_eq_false (fun h => hlen (by rw [h]))
    rw [hd]
    simp +contextual (maxSteps := 5000000) only [go_sem, ↓reduceIte, hlen]
def c_EqR (caps args : List D) : Prop × Out := match caps, args with | [], [.sl 1 a, .sl 1 b, .fn g [] []] => (g = 36 ∧ a = (a.map dR).map eR ∧ b = (b.map dR).map eR, .ret (.bool (decide (a.map dR = b.map dR)))) | _, _ => (False, .ret .any)
theorem st_EqR : StC Tryz.prog 55 c_EqR := by
  intro caps args; unfold c_EqR; split
  · rename_i a b g
    rintro ⟨rfl, h1, h2⟩
    have := fc_EqR (a.map dR) (b.map dR)
    rw [← h1, ← h2] at this
    exact this
  · exact fun h => h.elim
def sameT (t u : Tab) : Bool := decide (t.1 = u.1) && decide (t.2 = u.2)
theorem sameT_iff (t u : Tab) : sameT t u = true ↔ t = u := by
  obtain ⟨a, b⟩ := t; obtain ⟨c, d⟩ := u
  simp [sameT]
theorem fc_TSame (t u : Tab) : FC Tryz.prog 17 [] [.agg (eTb t), .agg (eTb u)] (.ret (.bool (sameT t u))) := by
  refine fc_M (fn := Tryz.f17) (C := (tab [(36, c_EqT), (55, c_EqR)] [])) (rs := [4]) mixed (by kernel_rfl) (by kernel_rfl) rfl rfl (by kernel_rfl) (by intro ys h; cases h) ?_
  unfold eTb sameT
  by_cases q : t.1 = u.1
  · simp +contextual (maxSteps := 5000000) only [go_sem, ↓reduceIte, c_EqT, st_EqT, dS_eS, c_EqR, st_EqR, dR_eR, q]
  · simp +contextual (maxSteps := 5000000) only [go_sem, ↓reduceIte, c_EqT, st_EqT, dS_eS, q]
def c_RefS (caps args : List D) : Prop × Out := match caps, args with | [], [.sl 1 a, .sl 1 b] => (a = (a.map dS).map eS ∧ b = (b.map dS).map eS, .ret (.bool (decide (a.map dS = b.map dS)))) | _, _ => (False, .ret .any)
theorem st_RefS : StC Tryz.prog 28 c_RefS := by
  intro caps args; unfold c_RefS; split
  · rename_i a b
    rintro ⟨h1, h2⟩
    have := fc_RefS (a.map dS) (b.map dS)
    rw [← h1, ← h2] at this
    exact this
  · exact fun h => h.elim
theorem fc_RefR (l k : List (List Str)) : FC Tryz.prog 33 [] [.sl 1 (l.map eR), .sl 1 (k.map eR)] (.ret (.bool (decide (l = k)))) := by
  refine fc_M (fn := Tryz.f33) (C := (tab [(28, c_RefS)] [])) (rs := [4]) mixed (by kernel_rfl) (by kernel_rfl) rfl rfl (by kernel_rfl) (by intro ys h; cases h) ?_
  by_cases hlen : l.length = k.length
  · simp +contextual (maxSteps := 5000000) only [go_sem, ↓reduceIte, hlen]
    intro _
    refine M_loopI (fun i : Nat => ⟨[(0, .sl 1 (l.map eR)), (1, .sl 1 (k.map eR)), (5, .int .i64 i)], []⟩) (fun i => l.length - i) (fun i => i ≤ l.length ∧ ∀ j, j < i → l.getD j [] = k.getD j []) 0 ?_ ?_
    · simp +contextual (maxSteps := 5000000) only [go_sem, ↓reduceIte]
      rfl
    · intro i hi
      obtain ⟨hi, ho⟩ := hi
      by_cases hlt : i < k.length
      · have ha := eR_at l i (by omega)
        have hb := eR_at k i hlt
        have hl2 : i < l.length := by omega
        generalize hx : l.getD i [] = x at ha
        generalize hy : k.getD i [] = y at hb
        by_cases q : x = y
        · subst q
          simp +contextual (maxSteps := 5000000) only [go_sem, ↓reduceIte, hlt, hl2, ha, hb, c_RefS, st_RefS, dS_eS, eq_self]
          refine fun _ => ⟨inR64 (by omega) (by omega), fun _ => ⟨i + 1, by simp, by omega, by omega, fun j hj => ?_⟩⟩
          rcases lt_cases hj with h | rfl
          · exact ho j h
          · rw [hx, hy]
        · have hne : ¬ l = k := fun h => q (by rw [← hx, ← hy, h])
          have hd : decide (l = k) = false := decide_eq_false hne
          rw [hd]
          simp +contextual (maxSteps := 5000000) only [go_sem, ↓reduceIte, hlt, hl2, ha, hb, c_RefS, st_RefS, dS_eS, q]
      · have hd : decide (l = k) = true := decide_eq_true (eq_of_at [] hlen (fun j hj => ho j (by omega)))
        rw [hd]
        have hl3 : ¬ i < l.length := by omega
        simp +contextual (maxSteps := 5000000) only [go_sem, ↓reduceIte, hlt, hl3]
  · have hd : decide (l = k) = false := decide_eq_false (fun h => hlen (by rw [h]))
    rw [hd]
    simp +contextual (maxSteps := 5000000) only [go_sem, ↓reduceIte, hlen]
def c_RefR (caps args : List D) : Prop × Out := match caps, args with | [], [.sl 1 a, .sl 1 b] => (a = (a.map dR).map eR ∧ b = (b.map dR).map eR, .ret (.bool (decide (a.map dR = b.map dR)))) | _, _ => (False, .ret .any)
theorem st_RefR : StC Tryz.prog 33 c_RefR := by
  intro caps args; unfold c_RefR; split
  · rename_i a b
    rintro ⟨h1, h2⟩
    have := fc_RefR (a.map dR) (b.map dR)
    rw [← h1, ← h2] at this
    exact this
  · exact fun h => h.elim
theorem fc_rTSame (t u : Tab) : FC Tryz.prog 12 [] [.agg (eTb t), .agg (eTb u)] (.ret (.bool (sameT t u))) := by
  refine fc_M (fn := Tryz.f12) (C := (tab [(28, c_RefS), (33, c_RefR)] [] [5001, 5002])) (rs := [4]) mixed (by kernel_rfl) (by kernel_rfl) rfl rfl (by kernel_rfl) (by intro ys h; cases h) ?_
  unfold eTb
  simp +contextual (maxSteps := 5000000) only [go_sem, ↓reduceIte]
  refine M_join (fun _ : Unit => ⟨[(2, .loc 2 0), (3, .loc 3 0), (5, .bool (decide (t.1 = u.1)))], [(2, .blk (eTb t) false), (3, .blk (eTb u) false)]⟩) (fun _ => True) ?_ ?_
  · simp +contextual (maxSteps := 5000000) only [go_sem, ↓reduceIte, c_RefS, st_RefS, dS_eS, eTb]
    exact ⟨(), trivial⟩
  intro _ _
  unfold eTb
  simp +contextual (maxSteps := 5000000) only [go_sem, ↓reduceIte]
  refine M_join (fun _ : Unit => ⟨[(5, .bool (decide (t.1 = u.1))), (6, .bool (decide (t.2 = u.2)))], []⟩) (fun _ => True) ?_ ?_
  · simp +contextual (maxSteps := 5000000) only [go_sem, ↓reduceIte, c_RefR, st_RefR, dR_eR]
    exact ⟨(), trivial⟩
  intro _ _
  unfold sameT
  simp +contextual (maxSteps := 5000000) only [go_sem, ↓reduceIte]
end Go.Proofs.YtknkjakppikjeaaGreat

set_option linter.unusedSimpArgs false
namespace Go.Proofs.YtknkjakppikjeaaGreat
open Go.Tn
set_option maxHeartbeats 8000000
set_option maxRecDepth 100000
theorem fc_lines (l : List Ln) (hl : l.length < 1000000) (hc : ∀ x ∈ l, x.2.length < 1000000000) : FC Tryz.prog 79 [] [.sl 2 (l.map eL)] (.own 52 2 (l.map eL)) := by
  have hs1 := st_CloneS
  refine fc_M (fn := Tryz.f79) (C := (tab [(23, c_Clone 9 1)] [])) (rs := [2]) mixed (by kernel_rfl) (by kernel_rfl) rfl rfl (by kernel_rfl) (by intro ys h; cases h) ?_
  simp +contextual (maxSteps := 5000000) only [go_sem, ↓reduceIte]
  intro _
  refine M_loopI (fun i : Nat => ⟨[(3, .vec 20 i), (6, .sl 2 (l.map eL)), (7, .int .i64 l.length), (8, .int .i64 i)], [(20, .vec 52 2 ((l.take i).map eL) 0)]⟩) (fun i => l.length - i) (fun i => i ≤ l.length) 0 ?_ ?_
  · simp +contextual (maxSteps := 5000000) only [go_sem, ↓reduceIte]
    rfl
  · intro i hi
    by_cases hlt : i < l.length
    · have hat := eL_at l i hlt
      have hm := hc _ (getD_mem (d := ((0 : Int), ([] : List (List UInt8)))) hlt)
      simp +contextual (maxSteps := 5000000) only [go_sem, ↓reduceIte, eI_at, eI_set, List.length_set, tn_add, tn_add1, tn_sub, tn_sub1, sh1, sh1b, half_cast, hlt, hat, c_Clone, hs1, gS]
      exact ⟨hm, ⟨by omega, by omega⟩, fun _ => ⟨inR64 (by omega) (by omega), fun _ => ⟨i + 1, ⟨⟨rfl, by simp⟩, take_map_succ eL (0, []) l i hlt⟩, by omega, by omega⟩⟩⟩
    · obtain rfl : i = l.length := by omega
      simp +contextual (maxSteps := 5000000) only [go_sem, ↓reduceIte, hlt, Nat.lt_irrefl, List.take_length]
theorem fc_turned (a b : Int) : FC Tryz.prog 114 [] [.agg [.int .i64 a, .int .i64 b]] (.ret (.agg [.int .i64 b, .int .i64 a])) := by
  have ty : tyOf Tryz.prog 114 = ⟨.struct, [.int .i64 0, .int .i64 0], [(0, 1, false), (1, 1, false)], 0, 0, true, 0, 16⟩ := by kernel_rfl
  have hf := tyOf_fact (P := Tryz.prog) (t := 114) (by rw [ty]; intro h; cases h)
  rw [ty] at hf
  refine fcc_of (fn := Tryz.f114) (rt := 114) (r := 2) (i := 2) (C := tab [] []) mixed (by kernel_rfl) (by kernel_rfl) rfl rfl hf (by kernel_rfl) (by intro ys h; cases h) ?_
  simp +contextual (maxSteps := 5000000) only [go_sem, ↓reduceIte, finC, finCB, locR]
end Go.Proofs.YtknkjakppikjeaaGreat

set_option linter.unusedSimpArgs false
namespace Go.Proofs.YtknkjakppikjeaaGreat
open Go.Tn
set_option maxHeartbeats 8000000
set_option maxRecDepth 100000
def sw (p : Int × Int) : Int × Int := (p.2, p.1)
def leB (x y : Int × Int) : Bool := decide (x.2 ≤ y.2)
theorem pre_leB : Ps.Pre leB := ⟨fun a b c => by simp only [leB, decide_eq_true_eq]; omega, fun a b => by simp only [leB, decide_eq_true_eq]; omega⟩
def turnP (l : List (Int × Int)) : List (Int × Int) := Ps.srt leB (l.map sw)
theorem turnP_len (l : List (Int × Int)) : (turnP l).length = l.length := by unfold turnP; rw [Ps.srt_len, List.length_map]
def c_turned (caps args : List D) : Prop × Out := match caps, args with
  | [], [.agg [.int .i64 a, .int .i64 b]] => (True, .ret (.agg [.int .i64 b, .int .i64 a]))
  | _, _ => (False, .ret .any)
theorem st_turned : StC Tryz.prog 114 c_turned := by
  intro caps args; unfold c_turned; split
  · exact fun _ => fc_turned _ _
  · exact fun h => h.elim
def eRv (p : Int × Int) : List D := [.int .i64 p.2, .int .i64 p.1]
theorem eRv_eq (l : List (Int × Int)) : l.map eRv = (l.map sw).map eP := by rw [List.map_map]; rfl
theorem eP_set2 (l : List (Int × Int)) (i : Nat) (a b : Int) : (l.map eP).set i [.int .i64 a, .int .i64 b] = (l.set i (a, b)).map eP := by rw [List.map_set]; rfl
theorem seg_all {α : Type} (f : List α → List α) (l : List α) : Ps.seg f l 0 l.length = f l := by unfold Ps.seg; simp
theorem fc_pTurn (l : List (Int × Int)) (hl : l.length < 1000000000) : FC Tryz.prog 78 [] [.sl 2 (l.map eP)] (.own 45 2 ((turnP l).map eP)) := by
  refine fc_M (fn := Tryz.f78) (C := (tab [(114, c_turned)] [])) (rs := [2]) mixed (by kernel_rfl) (by kernel_rfl) rfl rfl (by kernel_rfl) (by intro ys h; cases h) ?_
  simp +contextual (maxSteps := 5000000) only [go_sem, ↓reduceIte]
  intro _
  refine M_loopI (fun i : Nat => ⟨[(3, .vec 21 i), (11, .sl 2 (l.map eP)), (12, .int .i64 l.length), (13, .int .i64 i)], [(21, .vec 114 2 ((l.take i).map eRv) 0)]⟩) (fun i => l.length - i) (fun i => i ≤ l.length) 0 ?_ ?_
  · simp +contextual (maxSteps := 5000000) only [go_sem, ↓reduceIte]
    rfl
  · intro i hi
    by_cases hlt : i < l.length
    · have hat := eP_at l i hlt
      simp +contextual (maxSteps := 5000000) only [go_sem, ↓reduceIte, eI_at, eI_set, List.length_set, tn_add, tn_add1, tn_sub, tn_sub1, sh1, sh1b, half_cast, hlt, hat, c_turned, st_turned]
      exact ⟨⟨by omega, by omega⟩, fun _ => ⟨inR64 (by omega) (by omega), fun _ => ⟨i + 1, ⟨⟨rfl, by simp⟩, take_map_succ eRv (0, 0) l i hlt⟩, by omega, by omega⟩⟩⟩
    · obtain rfl : i = l.length := by omega
      simp +contextual (maxSteps := 5000000) only [go_sem, ↓reduceIte, hlt, Nat.lt_irrefl, List.take_length, eRv_eq]
      have hk : (l.map sw).length = l.length := List.length_map _
      have et : turnP l = Ps.srt leB (l.map sw) := rfl
      rw [et]
      generalize hkk : l.map sw = k at hk
      rw [← hk]
      clear hi hlt et
      refine M_loopI (fun s : List ((Int × Int) × Nat) × Nat => ⟨[(3, .vec 21 k.length), (24, .int .i64 k.length), (25, .int .i64 s.2)], [(21, .vec 114 2 ((s.1.map (·.1)).map eP) 0)]⟩) (fun s => k.length - s.2) (fun s => Ps.OutI leB k 0 s.1 (max s.2 1) ∧ s.2 ≤ k.length) (k.zipIdx, 0) ?_ ?_
      · simp +contextual (maxSteps := 5000000) only [go_sem, ↓reduceIte, Ps.zip_fst]
        exact ⟨rfl, Ps.out_start k 0⟩
      · intro ⟨t, i⟩ hi
        obtain ⟨i1, i2⟩ := hi
        simp only at i1 i2
        by_cases hlt : i < k.length
        · simp +contextual (maxSteps := 5000000) only [go_sem, ↓reduceIte, hlt]
          have hlen : t.length = k.length := by rw [i1.pm.length_eq]; simp
          refine M_loopI (fun s : List ((Int × Int) × Nat) × Nat => ⟨[(3, .vec 21 k.length), (24, .int .i64 k.length), (25, .int .i64 i), (7, .int .i64 s.2)], [(21, .vec 114 2 ((s.1.map (·.1)).map eP) 0)]⟩) (fun s => s.2)
            (fun s => (i = 0 ∧ s.2 = 0 ∧ s.1 = t) ∨ (0 < i ∧ Ps.InI leB k 0 i s.1 s.2)) (t, i) ?_ ?_
          · simp +contextual (maxSteps := 5000000) only [go_sem, ↓reduceIte]
            by_cases h0 : i = 0
            · exact .inl h0
            · have : max i 1 = i := by omega
              rw [this] at i1
              exact .inr ⟨by omega, Ps.in_start i1 (by omega)⟩
          · intro ⟨u, j⟩ hj
            simp only at hj
            by_cases hj0 : j = 0
            · subst hj0
              have z0 : ¬ ((0 : Int) < ((0 : Nat) : Int)) := by simp
              simp +contextual (maxSteps := 5000000) only [go_sem, ↓reduceIte, eI_at, eI_set, List.length_set, tn_add, tn_add1, tn_sub, tn_sub1, sh1, sh1b, half_cast, hlt, z0]
              have end1 : Ps.OutI leB k 0 u (max (i + 1) 1) := by
                obtain ⟨h0, _, h2⟩ | ⟨h0, hj⟩ := hj
                · subst h0; rw [h2]; exact i1
                · have : max (i + 1) 1 = i + 1 := by omega
                  rw [this]
                  exact Ps.in_end pre_leB hj (by omega) hlt (.inl rfl)
              exact ⟨inR64 (by omega) (by omega), fun _ => ⟨(u, i + 1), ⟨by simp, rfl⟩, by simp only; omega, end1, by simp only; omega⟩⟩
            · obtain ⟨h0, h1, _⟩ | ⟨h0, hj⟩ := hj
              · omega
              have hul := Ps.in_len hj
              have hji := hj.ji
              have z0 : (0 : Int) < (j : Int) := by omega
              obtain ⟨x, hx⟩ : ∃ x, u[j]? = some x := ⟨u[j]'(by omega), List.getElem?_eq_getElem (by omega)⟩
              obtain ⟨y, hy⟩ : ∃ y, u[j - 1]? = some y := ⟨u[j - 1]'(by omega), List.getElem?_eq_getElem (by omega)⟩
              have hat1 := eP_at (u.map (·.1)) j (by simp; omega)
              have hat2 := eP_at (u.map (·.1)) (j - 1) (by simp; omega)
              rw [Ps.tag_at (0, 0) hx] at hat1
              rw [Ps.tag_at (0, 0) hy] at hat2
              have hat3 := eP_at ((u.map (·.1)).set j (y.1.1, y.1.2)) (j - 1) (by simp; omega)
              have lbA : leB y.1 x.1 = decide (y.1.2 ≤ x.1.2) := rfl
              have est : ∀ x' y', u[j]? = some x' → u[j - 1]? = some y' → leB y'.1 x'.1 = decide (y.1.2 ≤ x.1.2) := fun x' y' hx' hy' => by
                rw [hx] at hx'; cases hx'
                rw [hy] at hy'; cases hy'
                rfl
              by_cases q : x.1.2 < y.1.2
              · simp +contextual (maxSteps := 5000000) only [go_sem, ↓reduceIte, eI_at, eI_set, List.length_set, tn_add, tn_add1, tn_sub, tn_sub1, sh1, sh1b, half_cast, hlt, z0, hat1, hat2, hat3, q, eP_set2]
                refine ⟨⟨hul, by omega⟩, fun _ => ⟨inR64 (by omega) (by omega), fun _ => ⟨⟨by omega, by omega⟩, fun _ => ⟨by omega, fun _ => ⟨by omega, fun _ => ⟨by omega, fun _ => ⟨(Ps.swp (((0, 0), 0)) u j (j - 1), j - 1), ⟨by simp only; omega, ?_⟩, by simp only; omega, .inr ⟨h0, Ps.in_step pre_leB _ hj hlt (by omega) fun x' y' hx' hy' => ?_⟩⟩⟩⟩⟩⟩⟩⟩
                · simp only
                  rw [Ps.swp_map]
                  unfold Ps.swp
                  simp only [Ps.tag_at (0, 0) hx, Ps.tag_at (0, 0) hy]
                · rw [est x' y' hx' hy']; simp; omega
              · simp +contextual (maxSteps := 5000000) only [go_sem, ↓reduceIte, eI_at, eI_set, List.length_set, tn_add, tn_add1, tn_sub, tn_sub1, sh1, sh1b, half_cast, hlt, z0, hat1, hat2, q]
                refine ⟨⟨hul, by omega⟩, fun _ => ⟨inR64 (by omega) (by omega), fun _ => ⟨⟨by omega, by omega⟩, fun _ => ⟨by omega, fun _ => ⟨inR64 (by omega) (by omega), fun _ => ⟨(u, i + 1), ⟨by simp, rfl⟩, by simp only; omega, ?_, by simp only; omega⟩⟩⟩⟩⟩⟩
                have : max (i + 1) 1 = i + 1 := by omega
                simp only [this]
                exact Ps.in_end pre_leB hj (by omega) hlt (.inr fun x' y' hx' hy' => by rw [est x' y' hx' hy']; simp; omega)
        · obtain rfl : i = k.length := by omega
          simp +contextual (maxSteps := 5000000) only [go_sem, ↓reduceIte, hlt, Nat.lt_irrefl]
          have ht := Ps.out_end pre_leB i1 (Nat.zero_le _) (Nat.le_refl _) (by omega) (by omega)
          rw [seg_all] at ht
          have hlen : t.length = k.length := by rw [i1.pm.length_eq]; simp
          refine ⟨hlen, fun _ => ?_⟩
          rw [ht]
          have hsl : (Ps.srt leB k).length = k.length := Ps.srt_len _
          generalize Ps.srt leB k = r at hsl
          rw [← hsl]
          rw [← hsl] at hk
          clear ht i1 i2 hlt hlen hkk hsl
          refine M_loopI (fun i : Nat => ⟨[(8, .vec 73 i), (64, .vec 21 r.length), (65, .int .i64 r.length), (66, .int .i64 i)], [(21, .vec 114 2 (r.map eP) 0), (73, .vec 45 2 ((r.take i).map eP) 0)]⟩) (fun i => r.length - i) (fun i => i ≤ r.length) 0 ?_ ?_
          · simp +contextual (maxSteps := 5000000) only [go_sem, ↓reduceIte]
            rfl
          · intro i hi
            by_cases hlt : i < r.length
            · have hat := eP_at r i hlt
              simp +contextual (maxSteps := 5000000) only [go_sem, ↓reduceIte, eI_at, eI_set, List.length_set, tn_add, tn_add1, tn_sub, tn_sub1, sh1, sh1b, half_cast, hlt, hat]
              exact ⟨⟨by omega, by omega⟩, fun _ => ⟨inR64 (by omega) (by omega), fun _ => ⟨i + 1, ⟨⟨rfl, by simp⟩, take_map_succ eP (0, 0) r i hlt⟩, by omega, by omega⟩⟩⟩
            · obtain rfl : i = r.length := by omega
              simp +contextual (maxSteps := 5000000) only [go_sem, ↓reduceIte, hlt, Nat.lt_irrefl, List.take_length]
def c_pTurn (caps args : List D) : Prop × Out := match caps, args with
  | [], [.sl 2 rows] => (rows = (rows.map dP).map eP ∧ rows.length < 1000000000, .own 45 2 ((turnP (rows.map dP)).map eP))
  | _, _ => (False, .ret .any)
theorem st_pTurn : StC Tryz.prog 78 c_pTurn := by
  intro caps args; unfold c_pTurn; split
  · rename_i rows
    rintro ⟨h1, h2⟩
    have := fc_pTurn (rows.map dP) (by simpa using h2)
    rw [← h1] at this
    exact this
  · exact fun h => h.elim
def c_lines (caps args : List D) : Prop × Out := match caps, args with
  | [], [.sl 2 rows] => (rows = (rows.map dL).map eL ∧ rows.length < 1000000 ∧ ∀ x ∈ rows.map dL, x.2.length < 1000000000, .own 52 2 ((rows.map dL).map eL))
  | _, _ => (False, .ret .any)
theorem st_lines : StC Tryz.prog 79 c_lines := by
  intro caps args; unfold c_lines; split
  · rename_i rows
    rintro ⟨h1, h2, h3⟩
    have := fc_lines (rows.map dL) (by simpa using h2) h3
    rw [← h1] at this
    rw [← h1]
    exact this
  · exact fun h => h.elim
end Go.Proofs.YtknkjakppikjeaaGreat

set_option linter.unusedSimpArgs false
namespace Go.Proofs.YtknkjakppikjeaaGreat
open Go.Tn
set_option maxHeartbeats 4000000
set_option maxRecDepth 100000
theorem st6_eta (s : St6) : (⟨s.i, s.j, s.p, s.q, s.o, s.n⟩ : St6) = s := rfl
theorem eD6_set (l : List St6) (i : Nat) (a : St6) : (l.map eD6).set i [.int .i64 a.i, .int .i64 a.j, .int .i64 a.p, .int .i64 a.q, .str a.o, .str a.n] = (l.set i a).map eD6 := by rw [List.map_set]; rfl
theorem fcm_swapRange (l : List St6) (a b k : Nat) (f : D) (n : Nat) (hn : l.length = n) (h1 : a + k ≤ b) (h2 : b + k ≤ n) (h3 : n < 1000000000) :
    FCM Tryz.prog 132 [(true, .vec 1000 n), (false, .int .i64 a), (false, .int .i64 b), (false, .int .i64 k), (false, f)] [(1000, .vec 47 6 (l.map eD6) 0)] [(1000, .vec 47 6 ((Ps.swr l a b k).map eD6) 0)] (.ret (.tup [])) := by
  refine fcm_M (fn := Tryz.f132) (C := (tab [] [])) (rs := []) mixed (by kernel_rfl) (by kernel_rfl) rfl rfl (by kernel_rfl) ?_ ?_
  · simp +contextual (maxSteps := 5000000) only [go_sem, ↓reduceIte]
  simp +contextual (maxSteps := 5000000) only [go_sem, ↓reduceIte]
  refine M_loopI (fun i : Nat => ⟨[(0, .vec 1000 n), (1, .int .i64 a), (2, .int .i64 b), (3, .int .i64 k), (10, .int .i64 i)], [(1000, .vec 47 6 ((Ps.swr l a b i).map eD6) 0)]⟩) (fun i => k - i) (fun i => i ≤ k) 0 ?_ ?_
  · simp +contextual (maxSteps := 5000000) only [go_sem, ↓reduceIte]
    simp [Ps.swr_zero]
  · intro i hi
    have hlen := Ps.swr_len (l := l) (a := a) (b := b) (n := i) (by omega) (by omega)
    simp +contextual (maxSteps := 5000000) only [go_sem, ↓reduceIte, eD6_at, eD6_set, List.length_set, tn_add]
    simp only [aa, inR_iff]
    split
    · rename_i hlt
      and_intros
      all_goals first | omega | skip
      refine ⟨i + 1, ⟨by omega, ?_⟩, by omega, by omega⟩
      rw [← Ps.swr_succ default (by omega) (by omega)]
      rfl
    · rename_i hge
      have : i = k := by omega
      subst this
      rfl

def cm_sr1 (i n : Nat) (a b k : Int) : Option LObj → MS
  | some (.vec e 6 rows 0) => .yes ((e = 47 ∧ rows = (rows.map d6).map eD6) ∧ (rows.length = n ∧ n < 1000000000) ∧ (0 ≤ a ∧ 0 ≤ k ∧ a + k ≤ b ∧ b + k ≤ n)) [i] [(i, .vec e 6 ((Ps.swr (rows.map d6) a.toNat b.toNat k.toNat).map eD6) 0)] (.ret (.tup []))
  | _ => .bad
def cm_sr (ds : List D) (H : Hp) : MS := match ds with | [.vec i n, .int .i64 a, .int .i64 b, .int .i64 k, _] => cm_sr1 i n a b k (H i) | _ => .bad
theorem objs_one {H : Hp} {i : Nat} {o : LObj} (h : H i = some o) : objs H [i] = [(i, o)] := by simp only [objs, h, objs1]
theorem stm_sr : StMC Tryz.prog 132 [0] cm_sr := by
  intro ds H pre mu o1 out h hp
  unfold cm_sr at h
  split at h
  · rename_i i n a b k f
    unfold cm_sr1 at h
    split at h
    · rename_i e rows hi
      cases h
      obtain ⟨⟨rfl, hr⟩, ⟨rfl, h3⟩, ha, hk, h1, h2⟩ := hp
      rw [objs_one hi]
      have := (fcm_swapRange (rows.map d6) a.toNat b.toNat k.toNat f rows.length (by simp) (by omega) (by omega) h3).one i trivial (by simp [plainO])
      rw [← hr, Int.toNat_of_nonneg ha, Int.toNat_of_nonneg (by omega), Int.toNat_of_nonneg hk] at this
      simp only [renF, ren1, renLO, renO, renM, ren, renL, sw_l] at this
      exact this
    · cases h
  · cases h
theorem fcm_rotate (l : List St6) (a m b : Nat) (f : D) (hf : cleanL [f] = true) (n : Nat) (hn : l.length = n) (h1 : a < m) (h2 : m < b) (h4 : b ≤ n) (h3 : n < 1000000000) :
    FCM Tryz.prog 131 [(true, .vec 1000 n), (false, .int .i64 a), (false, .int .i64 m), (false, .int .i64 b), (false, f)] [(1000, .vec 47 6 (l.map eD6) 0)] [(1000, .vec 47 6 ((Ps.rot l a m b).map eD6) 0)] (.ret (.tup [])) := by
  have cf := clr_of hf
  refine fcm_M (fn := Tryz.f131) (C := (tab [] [(132, [0], cm_sr)])) (rs := []) mixed (by kernel_rfl) (by kernel_rfl) rfl rfl (by kernel_rfl) ?_ ?_
  · simp +contextual (maxSteps := 5000000) only [go_sem, ↓reduceIte]
  simp +contextual (maxSteps := 5000000) only [go_sem, ↓reduceIte]
  simp only [aa, inR_iff]
  and_intros
  all_goals first | omega | skip
  refine M_loopI (fun s : List St6 × Nat × Nat => ⟨[(0, .vec 1000 n), (1, .int .i64 a), (2, .int .i64 m), (3, .int .i64 b), (4, f), (10, .int .i64 s.2.1), (11, .int .i64 s.2.2)], [(1000, .vec 47 6 (s.1.map eD6) 0)]⟩) (fun s => s.2.1 + s.2.2)
    (fun s => s.1.length = n ∧ 0 < s.2.1 ∧ 0 < s.2.2 ∧ s.2.1 ≤ m ∧ m + s.2.2 ≤ n ∧ Ps.rot s.1 (m - s.2.1) m (m + s.2.2) = Ps.rot l a m b) (l, m - a, b - m) ?_ ?_
  · simp +contextual (maxSteps := 5000000) only [go_sem, ↓reduceIte, cf.cv6, cf.rf6, cf.nw6, cf.fz6, cf.wkN, cf.wk, cf.inO]
    have e1 : m - (m - a) = a := by omega
    have e2 : m + (b - m) = b := by omega
    rw [e1, e2]
    and_intros
    all_goals first | omega | trivial
  · intro ⟨k, i, j⟩ hi
    obtain ⟨i1, i2, i3, i4, i5, i6⟩ := hi
    simp only at i1 i2 i3 i4 i5 i6
    subst hn
    have q1 : ((m : Int) - (i : Int)).toNat = m - i := by omega
    have q2 : ((m : Int) + (j : Int) - (i : Int)).toNat = m + j - i := by omega
    simp +contextual (maxSteps := 5000000) only [go_sem, ↓reduceIte, eD6_at, eD6_set, List.length_set, tn_add, cm_sr, cm_sr1, stm_sr, d6_eD6, cf.cv6, cf.rf6, cf.nw6, cf.fz6, cf.wkN, cf.wk, cf.inO]
    simp only [aa, inR_iff, q1, q2]
    split
    · split
      · have := Ps.swr_len (l := k) (a := m - i) (b := m) (n := j) (by omega) (by omega)
        and_intros
        all_goals first | omega | skip
        refine ⟨(Ps.swr k (m - i) m j, i - j, j), ⟨⟨⟨by simp only; omega, rfl⟩, rfl⟩, by simp only; omega, by simp only; omega, by simp only; omega, by simp only; omega, by simp only; omega, by simp only; omega, ?_⟩⟩
        simp only
        rw [show m - (i - j) = m - i + j from by omega, Ps.rot_great (by omega) (by omega) (by omega)]
        exact i6
      · have := Ps.swr_len (l := k) (a := m - i) (b := m + j - i) (n := i) (by omega) (by omega)
        and_intros
        all_goals first | omega | skip
        refine ⟨(Ps.swr k (m - i) (m + j - i) i, i, j - i), ⟨⟨⟨rfl, by simp only; omega⟩, rfl⟩, by simp only; omega, by simp only; omega, by simp only; omega, by simp only; omega, by simp only; omega, by simp only; omega, ?_⟩⟩
        simp only
        rw [show m + (j - i) = m + j - i from by omega, Ps.rot_small (by omega) (by omega) (by omega)]
        exact i6
    · rename_i hij
      have hij : i = j := by omega
      subst hij
      and_intros
      all_goals first | omega | skip
      rw [Ps.rot_same (by omega) (by omega), i6]
end Go.Proofs.YtknkjakppikjeaaGreat

set_option linter.unusedSimpArgs false
namespace Go.Proofs.YtknkjakppikjeaaGreat
open Go.Tn
set_option maxHeartbeats 4000000
set_option maxRecDepth 100000
/-- a closure that compares two numbers -/
def c_cl (cs : List D) (cm : St6 → St6 → Int) (l : List St6) (caps args : List D) : Prop × Out :=
  match args with
  | [.agg [.int .i64 a, .int .i64 b, .int .i64 c, .int .i64 d, .str e, .str f], .agg [.int .i64 a2, .int .i64 b2, .int .i64 c2, .int .i64 d2, .str e2, .str f2]] => (caps = cs ∧ (⟨a, b, c, d, e, f⟩ : St6) ∈ l ∧ (⟨a2, b2, c2, d2, e2, f2⟩ : St6) ∈ l, .ret (.int .i64 (cm ⟨a, b, c, d, e, f⟩ ⟨a2, b2, c2, d2, e2, f2⟩)))
  | _ => (False, .ret .any)
theorem st_cl {P : Program} {g : Nat} {cs : List D} {cm : St6 → St6 → Int} {l : List St6} (h : ∀ x ∈ l, ∀ y ∈ l, FC P g cs [.agg (eD6 x), .agg (eD6 y)] (.ret (.int .i64 (cm x y)))) : StC P g (c_cl cs cm l) := by
  intro caps args
  unfold c_cl
  split
  · rintro ⟨rfl, hx, hy⟩; exact h _ hx _ hy
  · exact fun h => h.elim
theorem fcm_insertion (g : Nat) (cs : List D) (hcs : cleanL [.fn g [] cs] = true) (cm : St6 → St6 → Int) (le : St6 → St6 → Bool) (hle : ∀ x y, le x y = decide (0 ≤ cm y x)) (hp : Ps.Pre le) (l : List St6)
    (hc : ∀ x ∈ l, ∀ y ∈ l, FC Tryz.prog g cs [.agg (eD6 x), .agg (eD6 y)] (.ret (.int .i64 (cm x y)))) (a b : Nat) (n : Nat) (hn : l.length = n) (h1 : a ≤ b) (h2 : b ≤ n) (h3 : n < 1000000000) :
    FCM Tryz.prog 124 [(true, .vec 1000 n), (false, .int .i64 a), (false, .int .i64 b), (false, .fn g [] cs)] [(1000, .vec 47 6 (l.map eD6) 0)] [(1000, .vec 47 6 ((Ps.seg (Ps.srt le) l a b).map eD6) 0)] (.ret (.tup [])) := by
  have cl := clrL_of (cl_fn hcs)
  have hst := st_cl hc
  refine fcm_M (fn := Tryz.f124) (C := (tab [(g, c_cl cs cm l)] [])) (rs := []) mixed (by kernel_rfl) (by kernel_rfl) rfl rfl (by kernel_rfl) ?_ ?_
  · simp +contextual (maxSteps := 5000000) only [go_sem, ↓reduceIte]
  simp +contextual (maxSteps := 5000000) only [go_sem, ↓reduceIte]
  refine ⟨⟨by omega, by omega⟩, fun _ => ?_⟩
  refine M_loopI (fun s : List (St6 × Nat) × Nat => ⟨[(0, .vec 1000 n), (1, .int .i64 a), (2, .int .i64 b), (3, .fn g [] cs), (8, .int .i64 s.2)], [(1000, .vec 47 6 ((s.1.map (·.1)).map eD6) 0)]⟩) (fun s => b + 1 - s.2)
    (fun s => Ps.OutI le l a s.1 s.2 ∧ a + 1 ≤ s.2 ∧ (s.2 ≤ b ∨ s.2 = a + 1)) (l.zipIdx, a + 1) ?_ ?_
  · simp +contextual (maxSteps := 5000000) only [go_sem, ↓reduceIte, cl.cv5, cl.rf5, cl.nw5, cl.fz5, cl.wkL, cl.inOL, Ps.zip_fst]
    and_intros
    all_goals first | omega | exact Ps.out_start l a | skip
  · intro ⟨t, i⟩ hi
    obtain ⟨i1, i2, i3⟩ := hi
    simp only at i1 i2 i3
    simp +contextual (maxSteps := 5000000) only [go_sem, ↓reduceIte]
    split
    · rename_i hlt
      refine M_loopI (fun s : List (St6 × Nat) × Nat => ⟨[(0, .vec 1000 n), (1, .int .i64 a), (2, .int .i64 b), (3, .fn g [] cs), (8, .int .i64 i), (9, .int .i64 s.2)], [(1000, .vec 47 6 ((s.1.map (·.1)).map eD6) 0)]⟩) (fun s => s.2)
        (fun s => Ps.InI le l a i s.1 s.2) (t, i) ?_ ?_
      · simp +contextual (maxSteps := 5000000) only [go_sem, ↓reduceIte, cl.cv5, cl.rf5, cl.nw5, cl.fz5, cl.wkL, cl.inOL]
        exact Ps.in_start i1 (by omega)
      · intro ⟨t, j⟩ hj
        simp only at hj
        have hlen := Ps.in_len hj
        have haj := hj.aj
        have hji := hj.ji
        simp +contextual (maxSteps := 5000000) only [go_sem, ↓reduceIte, eD6_at, eD6_set, List.length_set, tn_add, tn_sub1, c_cl, hst, cl.cv6, cl.rf6, cl.nw6, cl.fz6, cl.cv5, cl.rf5, cl.nw5, cl.fz5, cl.wkL, cl.inOL]
        simp only [aa, inR_iff]
        have hi' : i < l.length := by omega
        split
        · rename_i hja
          have g1 : ∃ x, t[j]? = some x := ⟨t[j]'(by omega), List.getElem?_eq_getElem (by omega)⟩
          have g2 : ∃ y, t[j - 1]? = some y := ⟨t[j - 1]'(by omega), List.getElem?_eq_getElem (by omega)⟩
          obtain ⟨x, hx⟩ := g1
          obtain ⟨y, hy⟩ := g2
          have hcm := hle y.1 x.1
          simp only [st6_eta]
          rw [Ps.tag_at default hx, Ps.tag_at default hy]
          refine ⟨⟨by omega, by omega⟩, ⟨by omega, by omega⟩, ⟨by omega, by omega⟩, by omega, ⟨?_, ?_⟩, ?_⟩
          · rw [← Ps.tag_at default hx]; exact Ps.tag_mem hj.pm default (by omega)
          · rw [← Ps.tag_at default hy]; exact Ps.tag_mem hj.pm default (by omega)
          split
          · rename_i hneg
            refine ⟨by omega, by omega, ⟨(Ps.swp (default, 0) t j (j - 1), j - 1), ⟨by simp only; omega, ?_⟩, by simp only; omega, ?_⟩⟩
            · simp only
              rw [Ps.swp_map]
              unfold Ps.swp
              simp only [Ps.tag_at default hx, Ps.tag_at default hy]
            · refine Ps.in_step hp (default, 0) hj hi' hja fun x' y' hx' hy' => ?_
              rw [hx] at hx'; cases hx'
              rw [hy] at hy'; cases hy'
              rw [hcm]; simp; omega
          · rename_i hneg
            refine ⟨⟨by omega, by omega⟩, ⟨(t, i + 1), ⟨by simp only; omega, rfl⟩, by simp only; omega, ?_, by simp only; omega, by simp only; omega⟩⟩
            refine Ps.in_end hp hj (by omega) hi' (.inr fun x' y' hx' hy' => ?_)
            rw [hx] at hx'; cases hx'
            rw [hy] at hy'; cases hy'
            rw [hcm]; simp; omega
        · rename_i hja
          refine ⟨⟨by omega, by omega⟩, ⟨(t, i + 1), ⟨by simp only; omega, rfl⟩, by simp only; omega, ?_, by simp only; omega, by simp only; omega⟩⟩
          exact Ps.in_end hp hj (by omega) hi' (.inl (by omega))
    · rename_i hge
      rw [Ps.out_end hp i1 h1 (by omega) (by omega) i3]
/-- closures that compare, on the members of a list -/
def CmpOn (g : Nat) (cs : List D) (cm : St6 → St6 → Int) (l : List St6) : Prop := (g ≠ 125 ∧ g ≠ 131 ∧ g ≠ 124 ∧ g ≠ 111) ∧ ∀ x ∈ l, ∀ y ∈ l, FC Tryz.prog g cs [.agg (eD6 x), .agg (eD6 y)] (.ret (.int .i64 (cm x y)))
theorem CmpOn.perm {g : Nat} {cs : List D} {cm : St6 → St6 → Int} {l k : List St6} (h : CmpOn g cs cm l) (hp : k.Perm l) : CmpOn g cs cm k := ⟨h.1, fun x hx y hy => h.2 x (hp.mem_iff.1 hx) y (hp.mem_iff.1 hy)⟩
structure CmpLe (cm : St6 → St6 → Int) (le : St6 → St6 → Bool) : Prop where
  e : ∀ x y, le x y = decide (0 ≤ cm y x)
  p : Ps.Pre le
theorem CmpLe.f {cm : St6 → St6 → Int} {le : St6 → St6 → Bool} (h : CmpLe cm le) {x y : St6} : le x y = false ↔ cm y x < 0 := by rw [h.e, decide_eq_false_iff_not]; omega
theorem CmpLe.t {cm : St6 → St6 → Int} {le : St6 → St6 → Bool} (h : CmpLe cm le) {x y : St6} : le x y = true ↔ ¬ cm y x < 0 := by rw [h.e, decide_eq_true_iff]; omega
def cm_is1 (cm : St6 → St6 → Int) (le : St6 → St6 → Bool) (i n : Nat) (a b : Int) (g : Nat) (cs : List D) : Option LObj → MS
  | some (.vec e 6 rows 0) => .yes ((e = 47 ∧ rows = (rows.map d6).map eD6) ∧ (rows.length = n ∧ n < 1000000000) ∧ (0 ≤ a ∧ a ≤ b ∧ b ≤ n) ∧ cleanL [.fn g [] cs] = true ∧ CmpOn g cs cm (rows.map d6)) [i] [(i, .vec e 6 ((Ps.seg (Ps.srt le) (rows.map d6) a.toNat b.toNat).map eD6) 0)] (.ret (.tup []))
  | _ => .bad
def cm_is (cm : St6 → St6 → Int) (le : St6 → St6 → Bool) (ds : List D) (H : Hp) : MS := match ds with | [.vec i n, .int .i64 a, .int .i64 b, .fn g [] cs] => cm_is1 cm le i n a b g cs (H i) | _ => .bad
theorem stm_is {cm : St6 → St6 → Int} {le : St6 → St6 → Bool} (hcl : CmpLe cm le) : StMC Tryz.prog 124 [0] (cm_is cm le) := by
  intro ds H pre mu o1 out h hp
  unfold cm_is at h
  split at h
  · rename_i i n a b g cs
    unfold cm_is1 at h
    split at h
    · rename_i e rows hi
      cases h
      obtain ⟨⟨rfl, hr⟩, ⟨rfl, h3⟩, ⟨ha, h1, h2⟩, hcs, hc⟩ := hp
      rw [objs_one hi]
      have := (fcm_insertion g cs hcs cm le hcl.e hcl.p (rows.map d6) hc.2 a.toNat b.toNat rows.length (by simp) (by omega) (by omega) h3).one i trivial (by simp [plainO])
      rw [← hr, Int.toNat_of_nonneg ha, Int.toNat_of_nonneg (by omega)] at this
      simp only [renF, ren1, renLO, renO, renM, ren, renL, sw_l] at this
      exact this
    · cases h
  · cases h
def cm_ro1 (i n : Nat) (a m b : Int) (f : D) : Option LObj → MS
  | some (.vec e 6 rows 0) => .yes ((e = 47 ∧ rows = (rows.map d6).map eD6) ∧ (rows.length = n ∧ n < 1000000000) ∧ (0 ≤ a ∧ a < m ∧ m < b ∧ b ≤ n) ∧ cleanL [f] = true) [i] [(i, .vec e 6 ((Ps.rot (rows.map d6) a.toNat m.toNat b.toNat).map eD6) 0)] (.ret (.tup []))
  | _ => .bad
def cm_ro (ds : List D) (H : Hp) : MS := match ds with | [.vec i n, .int .i64 a, .int .i64 m, .int .i64 b, f] => cm_ro1 i n a m b f (H i) | _ => .bad
theorem stm_ro : StMC Tryz.prog 131 [0] cm_ro := by
  intro ds H pre mu o1 out h hp
  unfold cm_ro at h
  split at h
  · rename_i i n a m b f
    unfold cm_ro1 at h
    split at h
    · rename_i e rows hi
      cases h
      obtain ⟨⟨rfl, hr⟩, ⟨rfl, h3⟩, ⟨ha, h1, h2, h4⟩, hf⟩ := hp
      rw [objs_one hi]
      have := (fcm_rotate (rows.map d6) a.toNat m.toNat b.toNat f hf rows.length (by simp) (by omega) (by omega) (by omega) h3).one i trivial (by simp [plainO])
      rw [← hr, Int.toNat_of_nonneg ha, Int.toNat_of_nonneg (by omega), Int.toNat_of_nonneg (by omega)] at this
      simp only [renF, ren1, renLO, renO, renM, ren, renL, sw_l] at this
      exact this
    · cases h
  · cases h
end Go.Proofs.YtknkjakppikjeaaGreat

set_option linter.unusedSimpArgs false
namespace Go.Proofs.YtknkjakppikjeaaGreat
open Go.Tn
set_option maxHeartbeats 8000000
set_option maxRecDepth 100000
def cm_sm1 (cm : St6 → St6 → Int) (le : St6 → St6 → Bool) (k : Nat) (i n : Nat) (a m b : Int) (g : Nat) (cs : List D) : Option LObj → MS
  | some (.vec e 6 rows 0) => .yes ((e = 47 ∧ rows = (rows.map d6).map eD6) ∧ (rows.length = n ∧ n < 1000000000) ∧ (0 ≤ a ∧ a < m ∧ m < b ∧ b ≤ n ∧ b - a < k) ∧ (cleanL [.fn g [] cs] = true ∧ CmpOn g cs cm (rows.map d6)) ∧ Ps.Sd le (rows.map d6) a.toNat m.toNat ∧ Ps.Sd le (rows.map d6) m.toNat b.toNat) [i] [(i, .vec e 6 ((Ps.seg (Ps.srt le) (rows.map d6) a.toNat b.toNat).map eD6) 0)] (.ret (.tup []))
  | _ => .bad
def cm_sm (cm : St6 → St6 → Int) (le : St6 → St6 → Bool) (k : Nat) (ds : List D) (H : Hp) : MS := match ds with | [.vec i n, .int .i64 a, .int .i64 m, .int .i64 b, .fn g [] cs] => cm_sm1 cm le k i n a m b g cs (H i) | _ => .bad
theorem fcm_sm (g : Nat) (cs : List D) (hcs : cleanL [.fn g [] cs] = true) (cm : St6 → St6 → Int) (le : St6 → St6 → Bool) (hcl : CmpLe cm le) (kk : Nat) (hst : StMC Tryz.prog 125 [0] (cm_sm cm le kk)) (l : List St6) (hc : CmpOn g cs cm l)
    (a m b : Nat) (n : Nat) (hn : l.length = n) (h1 : a < m) (h2 : m < b) (h4 : b ≤ n) (h3 : n < 1000000000) (hk : b - a ≤ kk) (hA : Ps.Sd le l a m) (hB : Ps.Sd le l m b) :
    FCM Tryz.prog 125 [(true, .vec 1000 n), (false, .int .i64 a), (false, .int .i64 m), (false, .int .i64 b), (false, .fn g [] cs)] [(1000, .vec 47 6 (l.map eD6) 0)] [(1000, .vec 47 6 ((Ps.seg (Ps.srt le) l a b).map eD6) 0)] (.ret (.tup [])) := by
  have cl := clrL_of (cl_fn hcs)
  have hsc := st_cl hc.2
  have ng := hc.1
  have hp := hcl.p
  have hle := hcl.e
  refine fcm_M (fn := Tryz.f125) (C := (tab [(g, c_cl cs cm l)] [(125, [0], cm_sm cm le kk), (131, [0], cm_ro)] [39, 41])) (rs := []) mixed (by kernel_rfl) (by kernel_rfl) rfl rfl (by kernel_rfl) ?_ ?_
  · simp +contextual (maxSteps := 5000000) only [go_sem, ↓reduceIte]
  have gd : ∀ {p : Nat} {x : St6}, l[p]? = some x → l.getD p default = x := fun {p x} h => by rw [List.getD_eq_getElem?_getD, h]; rfl
  have hmem : ∀ {p : Nat}, p < l.length → l.getD p default ∈ l := fun {p} h => by rw [List.getD_eq_getElem?_getD, List.getElem?_eq_getElem h]; exact List.getElem_mem h
  have gs : ∀ {p : Nat}, p < l.length → l[p]? = some (l.getD p default) := fun {p} h => by rw [List.getD_eq_getElem?_getD, List.getElem?_eq_getElem h]; rfl
  simp +contextual (maxSteps := 5000000) only [go_sem, ↓reduceIte, eD6_at, eD6_set, List.length_set, tn_add, tn_add1, tn_sub, tn_sub1, sh1, sh1b, half_cast]
  refine ⟨⟨by omega, by omega⟩, fun _ => ?_⟩
  split
  · rename_i e1
    have e1 : m = a + 1 := by omega
    subst e1
    refine M_loopI (fun s : Nat × Nat => ⟨[(0, .vec 1000 n), (1, .int .i64 a), (2, .int .i64 (a + 1 : Nat)), (3, .int .i64 b), (4, .fn g [] cs), (10, .int .i64 s.1), (11, .int .i64 s.2)], [(1000, .vec 47 6 (l.map eD6) 0)]⟩) (fun s => s.2 - s.1)
      (fun s => a + 1 ≤ s.1 ∧ s.1 ≤ s.2 ∧ s.2 ≤ b ∧ (∀ p, a + 1 ≤ p → p < s.1 → cm (l.getD p default) (l.getD a default) < 0) ∧ ∀ p, s.2 ≤ p → p < b → ¬ cm (l.getD p default) (l.getD a default) < 0) (a + 1, b) ?_ ?_
    · simp +contextual (maxSteps := 5000000) only [go_sem, ↓reduceIte, cl.cv6, cl.rf6, cl.nw6, cl.fz6, cl.cv5, cl.rf5, cl.nw5, cl.fz5, cl.wkL, cl.inOL]
      and_intros
      all_goals first | omega | (intros; omega)
    · intro ⟨i, j⟩ hi
      obtain ⟨i1, i2, i3, i4, i5⟩ := hi
      simp only at i1 i2 i3 i4 i5
      simp +contextual (maxSteps := 5000000) only [go_sem, ↓reduceIte, eD6_at, eD6_set, List.length_set, tn_add, tn_add1, tn_sub, tn_sub1, sh1, sh1b, half_cast, cl.cv6, cl.rf6, cl.nw6, cl.fz6, cl.cv5, cl.rf5, cl.nw5, cl.fz5, cl.wkL, cl.inOL, c_cl, hsc, ng]
      simp only [aa, inR_iff, inR_u64]
      split
      · rename_i hij
        have hh : i ≤ (i + j) / 2 ∧ (i + j) / 2 < j := by omega
        generalize (i + j) / 2 = h at hh ⊢
        and_intros
        all_goals first | omega | exact hmem (by omega) | skip
        split
        · rename_i hneg
          and_intros
          all_goals first | omega | skip
          refine ⟨(h + 1, j), ⟨by simp only; omega, rfl⟩, by simp only; omega, by simp only; omega, by simp only; omega, by simp only; omega, fun p p1 p2 => ?_, i5⟩
          simp only at p2
          by_cases e : p = h
          · rw [e]; exact hneg
          · have h5 := hB p h _ _ (by omega) (by omega) (by omega) (gs (by omega)) (gs (by omega))
            have h6 : le (l.getD a default) (l.getD h default) = false := hcl.f.2 hneg
            cases h7 : le (l.getD a default) (l.getD p default) with
            | true => rw [hp.tr _ _ _ h7 h5] at h6; cases h6
            | false => exact hcl.f.1 h7
        · rename_i hneg
          refine ⟨(i, h), ⟨rfl, rfl⟩, by simp only; omega, i1, by simp only; omega, by simp only; omega, i4, fun p p1 p2 => ?_⟩
          simp only at p1
          by_cases e : p = h
          · rw [e]; exact hneg
          · have h5 := hB h p _ _ (by omega) (by omega) (by omega) (gs (by omega)) (gs (by omega))
            have h6 : le (l.getD a default) (l.getD h default) = true := hcl.t.2 hneg
            have h7 := hp.tr _ _ _ h6 h5
            exact hcl.t.1 h7
      · rename_i hij
        have hij : i = j := by omega
        subst hij
        have fin : Ps.rot l a (a + 1) i = Ps.seg (Ps.srt le) l a b := Ps.front_seg hp i1 i3 (by omega) hB
          (fun p x y p1 p2 hx hy => by have := i4 p p1 p2; rw [gd hx, gd hy] at this; exact hcl.f.2 this)
          (fun p x y p1 p2 hx hy => by have := i5 p p1 p2; rw [gd hx, gd hy] at this; exact hcl.t.2 this)
        refine M_loopI (fun k : Nat => ⟨[(0, .vec 1000 n), (10, .int .i64 i), (13, .int .i64 k)], [(1000, .vec 47 6 ((Ps.rot l a (a + 1) (k + 1)).map eD6) 0)]⟩) (fun k => i - k) (fun k => a ≤ k ∧ k < i) a ?_ ?_
        · simp +contextual (maxSteps := 5000000) only [go_sem, ↓reduceIte, cl.cv6, cl.rf6, cl.nw6, cl.fz6, cl.cv5, cl.rf5, cl.nw5, cl.fz5, cl.wkL, cl.inOL]
          rw [Ps.rot_triv (by omega) (by omega) (by omega) (.inr rfl)]
          exact ⟨rfl, by omega⟩
        · intro k hk
          have hlen := Ps.rot_len (l := l) (a := a) (m := a + 1) (b := k + 1) (by omega) (by omega) (by omega)
          simp +contextual (maxSteps := 5000000) only [go_sem, ↓reduceIte, eD6_at, eD6_set, List.length_set, tn_add, tn_add1, tn_sub, tn_sub1, sh1, sh1b, half_cast, cl.cv6, cl.rf6, cl.nw6, cl.fz6, cl.cv5, cl.rf5, cl.nw5, cl.fz5, cl.wkL, cl.inOL]
          simp only [aa, inR_iff, inR_u64]
          and_intros
          · omega
          · omega
          split
          · rename_i hlt
            and_intros
            all_goals first | omega | skip
            refine ⟨k + 1, ⟨by omega, ?_⟩, by omega, by omega, by omega⟩
            rw [← Ps.rot_up default (by omega) (by omega)]
            rfl
          · rename_i hge
            have : k + 1 = i := by omega
            rw [this, fin]
  · rename_i e1
    refine ⟨⟨by omega, by omega⟩, fun _ => ?_⟩
    split
    · rename_i e2
      have e2 : b = m + 1 := by omega
      subst e2
      refine M_loopI (fun s : Nat × Nat => ⟨[(0, .vec 1000 n), (1, .int .i64 a), (2, .int .i64 m), (3, .int .i64 (m + 1 : Nat)), (4, .fn g [] cs), (14, .int .i64 s.1), (15, .int .i64 s.2)], [(1000, .vec 47 6 (l.map eD6) 0)]⟩) (fun s => s.2 - s.1)
        (fun s => a ≤ s.1 ∧ s.1 ≤ s.2 ∧ s.2 ≤ m ∧ (∀ p, a ≤ p → p < s.1 → ¬ cm (l.getD m default) (l.getD p default) < 0) ∧ ∀ p, s.2 ≤ p → p < m → cm (l.getD m default) (l.getD p default) < 0) (a, m) ?_ ?_
      · simp +contextual (maxSteps := 5000000) only [go_sem, ↓reduceIte, cl.cv6, cl.rf6, cl.nw6, cl.fz6, cl.cv5, cl.rf5, cl.nw5, cl.fz5, cl.wkL, cl.inOL]
        and_intros
        all_goals first | omega | (intros; omega)
      · intro ⟨i, j⟩ hi
        obtain ⟨i1, i2, i3, i4, i5⟩ := hi
        simp only at i1 i2 i3 i4 i5
        simp +contextual (maxSteps := 5000000) only [go_sem, ↓reduceIte, eD6_at, eD6_set, List.length_set, tn_add, tn_add1, tn_sub, tn_sub1, sh1, sh1b, half_cast, cl.cv6, cl.rf6, cl.nw6, cl.fz6, cl.cv5, cl.rf5, cl.nw5, cl.fz5, cl.wkL, cl.inOL, c_cl, hsc, ng]
        simp only [aa, inR_iff, inR_u64]
        split
        · rename_i hij
          have hh : i ≤ (i + j) / 2 ∧ (i + j) / 2 < j := by omega
          generalize (i + j) / 2 = h at hh ⊢
          and_intros
          all_goals first | omega | exact hmem (by omega) | skip
          split
          · rename_i hneg
            and_intros
            all_goals first | omega | skip
            refine ⟨(h + 1, j), ⟨by simp only; omega, rfl⟩, by simp only; omega, by simp only; omega, by simp only; omega, by simp only; omega, fun p p1 p2 => ?_, i5⟩
            simp only at p2
            by_cases e : p = h
            · rw [e]; exact hneg
            · have h5 := hA p h _ _ (by omega) (by omega) (by omega) (gs (by omega)) (gs (by omega))
              have h6 : le (l.getD h default) (l.getD m default) = true := hcl.t.2 hneg
              exact hcl.t.1 (hp.tr _ _ _ h5 h6)
          · rename_i hneg
            have hneg := Classical.not_not.1 hneg
            refine ⟨(i, h), ⟨rfl, rfl⟩, by simp only; omega, i1, by simp only; omega, by simp only; omega, i4, fun p p1 p2 => ?_⟩
            simp only at p1
            by_cases e : p = h
            · rw [e]; exact hneg
            · have h5 := hA h p _ _ (by omega) (by omega) (by omega) (gs (by omega)) (gs (by omega))
              have h6 : le (l.getD h default) (l.getD m default) = false := hcl.f.2 hneg
              cases h7 : le (l.getD p default) (l.getD m default) with
              | true => rw [hp.tr _ _ _ h5 h7] at h6; cases h6
              | false => exact hcl.f.1 h7
        · rename_i hij
          have hij : i = j := by omega
          subst hij
          have fin : Ps.rot l i m (m + 1) = Ps.seg (Ps.srt le) l a (m + 1) := Ps.back_seg hp i1 i3 (by omega) hA
            (fun p x y p1 p2 hx hy => by have := i4 p p1 p2; rw [gd hx, gd hy] at this; exact hcl.t.2 this)
            (fun p x y p1 p2 hx hy => by have := i5 p p1 p2; rw [gd hx, gd hy] at this; exact hcl.f.2 this)
          refine M_loopI (fun k : Nat => ⟨[(0, .vec 1000 n), (14, .int .i64 i), (17, .int .i64 k)], [(1000, .vec 47 6 ((Ps.rot l k m (m + 1)).map eD6) 0)]⟩) (fun k => k) (fun k => i ≤ k ∧ k ≤ m) m ?_ ?_
          · simp +contextual (maxSteps := 5000000) only [go_sem, ↓reduceIte, cl.cv6, cl.rf6, cl.nw6, cl.fz6, cl.cv5, cl.rf5, cl.nw5, cl.fz5, cl.wkL, cl.inOL]
            rw [Ps.rot_triv (by omega) (by omega) (by omega) (.inl rfl)]
            exact ⟨rfl, by omega⟩
          · intro k hk
            have hlen := Ps.rot_len (l := l) (a := k) (m := m) (b := m + 1) (by omega) (by omega) (by omega)
            simp +contextual (maxSteps := 5000000) only [go_sem, ↓reduceIte, eD6_at, eD6_set, List.length_set, tn_add, tn_add1, tn_sub, tn_sub1, sh1, sh1b, half_cast, cl.cv6, cl.rf6, cl.nw6, cl.fz6, cl.cv5, cl.rf5, cl.nw5, cl.fz5, cl.wkL, cl.inOL]
            simp only [aa, inR_iff, inR_u64]
            split
            · rename_i hlt
              and_intros
              all_goals first | omega | skip
              refine ⟨k - 1, ⟨by omega, ?_⟩, by omega, by omega, by omega⟩
              rw [← Ps.rot_down default (by omega) (by omega) (by omega)]
              rfl
            · rename_i hge
              have : k = i := by omega
              rw [this, fin]
    · rename_i e2
      obtain ⟨mid, hmid⟩ : ∃ mid, mid = (a + b) / 2 := ⟨_, rfl⟩
      obtain ⟨lo, hlo⟩ : ∃ lo, lo = if mid < m then mid + m - b else a := ⟨_, rfl⟩
      obtain ⟨hi, hhi⟩ : ∃ hi, hi = if mid < m then mid else m := ⟨_, rfl⟩
      rw [← hmid]
      have hmid2 : 2 * mid ≤ a + b ∧ a + b ≤ 2 * mid + 1 := by omega
      clear hmid
      simp only [aa, inR_iff, inR_u64]
      and_intros
      all_goals first | omega | skip
      split
      all_goals
        rename_i hmm
        first | rw [if_pos hmm] at hlo hhi | rw [if_neg hmm] at hlo hhi
        have hF : a ≤ lo ∧ lo ≤ hi ∧ hi ≤ m ∧ hi ≤ mid ∧ mid + m ≤ lo + b ∧ (lo = a ∨ lo + b = mid + m) ∧ (hi = mid ∨ hi = m) := by omega
        and_intros
        all_goals first | omega | skip
        refine M_loopI (fun s : Nat × Nat => ⟨[(0, .vec 1000 n), (1, .int .i64 a), (2, .int .i64 m), (3, .int .i64 b), (4, .fn g [] cs), (18, .int .i64 mid), (19, .int .i64 (mid + m : Nat)), (20, .int .i64 s.1), (21, .int .i64 s.2), (22, .int .i64 (mid + m - 1 : Nat))], [(1000, .vec 47 6 (l.map eD6) 0)]⟩) (fun s => s.2 - s.1)
          (fun s => lo ≤ s.1 ∧ s.1 ≤ s.2 ∧ s.2 ≤ hi ∧ (s.1 = lo ∨ ¬ cm (l.getD (mid + m - s.1) default) (l.getD (s.1 - 1) default) < 0) ∧ (s.2 = hi ∨ cm (l.getD (mid + m - 1 - s.2) default) (l.getD s.2 default) < 0)) (lo, hi) ?_ ?_
        · simp +contextual (maxSteps := 5000000) only [go_sem, ↓reduceIte, cl.cv6, cl.rf6, cl.nw6, cl.fz6, cl.cv5, cl.rf5, cl.nw5, cl.fz5, cl.wkL, cl.inOL]
          and_intros
          all_goals omega
        · intro ⟨i, j⟩ hi
          obtain ⟨i1, i2, i3, i4, i5⟩ := hi
          simp only at i1 i2 i3 i4 i5
          simp +contextual (maxSteps := 5000000) only [go_sem, ↓reduceIte, eD6_at, eD6_set, List.length_set, tn_add, tn_add1, tn_sub, tn_sub1, sh1, sh1b, half_cast, cl.cv6, cl.rf6, cl.nw6, cl.fz6, cl.cv5, cl.rf5, cl.nw5, cl.fz5, cl.wkL, cl.inOL, c_cl, hsc, ng, cm_sm, cm_sm1, hst, cm_ro, cm_ro1, stm_ro, d6_eD6]
          simp only [aa, inR_iff, inR_u64]
          split
          · rename_i hij
            have hh : i ≤ (i + j) / 2 ∧ (i + j) / 2 < j := by omega
            generalize (i + j) / 2 = h at hh ⊢
            and_intros
            all_goals first | omega | exact hmem (by omega) | skip
            split
            · rename_i hneg
              and_intros
              all_goals first | omega | skip
              refine ⟨(h + 1, j), ⟨by simp only; omega, rfl⟩, by simp only; omega, by simp only; omega, by simp only; omega, by simp only; omega, .inr ?_, i5⟩
              simp only
              rw [show mid + m - (h + 1) = mid + m - 1 - h from by omega, show h + 1 - 1 = h from rfl]
              exact hneg
            · rename_i hneg
              exact ⟨(i, h), ⟨rfl, rfl⟩, by simp only; omega, by simp only; omega, by simp only; omega, by simp only; omega, i4, .inr (Classical.not_not.1 hneg)⟩
          · rename_i hij
            have hij : i = j := by omega
            subst hij
            obtain ⟨e, he⟩ : ∃ e, e = mid + m - i := ⟨_, rfl⟩
            have hE : i + (e - m) = mid ∧ m ≤ e ∧ e ≤ b ∧ a ≤ i ∧ i ≤ m := by omega
            have c1 : i = a ∨ e = b ∨ ∀ x y, l[i - 1]? = some x → l[e]? = some y → le x y = true := by
              rcases i4 with h | h
              · omega
              · rw [← he] at h
                exact .inr (.inr fun x y hx hy => by rw [gd hx, gd hy] at h; exact hcl.t.2 h)
            have c2 : i = m ∨ e = m ∨ ∀ x y, l[i]? = some x → l[e - 1]? = some y → le x y = false := by
              rcases i5 with h | h
              · omega
              · rw [show mid + m - 1 - i = e - 1 from by omega] at h
                exact .inr (.inr fun x y hx hy => by rw [gd hx, gd hy] at h; exact hcl.f.2 h)
            have hj := Ps.sym_join hp hE.2.2.2.1 hE.2.2.2.2 hE.2.1 hE.2.2.1 (by omega) hA hB c1 c2
            rw [hE.1] at hj
            obtain ⟨d1, d2, d3, d4⟩ := Ps.sd_rot_l hE.2.2.2.1 hE.2.2.2.2 hE.2.1 hE.2.2.1 (by omega) hA hB
            rw [hE.1] at d2 d3
            have hl1 := Ps.rot_len hE.2.2.2.2 hE.2.1 (l := l) (by omega)
            have p1 := Ps.rot_perm hE.2.2.2.2 hE.2.1 (l := l) (by omega)
            have htr : i = m ∨ m = e → Ps.rot l i m e = l := fun h => Ps.rot_triv hE.2.2.2.2 hE.2.1 (by omega) h
            clear c1 c2 i4 i5 hF hlo hhi
            have e24 : ((mid + m : Nat) : Int) - (i : Int) = (e : Int) := by omega
            rw [e24]
            refine ⟨by omega, ?_⟩
            generalize hl1e : Ps.rot l i m e = l1 at hj d1 d2 d3 d4 hl1 p1 htr
            have hl2 : (Ps.seg (Ps.srt le) l1 a mid).length = n := by rw [Ps.seg_len Ps.srt_len (by omega) (by omega)]; omega
            have p2 : (Ps.seg (Ps.srt le) l1 a mid).Perm l1 := Ps.seg_perm (by omega)
            have d3' := Ps.sd_seg (f := Ps.srt le) Ps.srt_len (a := a) (b := mid) (by omega) (by omega) d3 (.inr (Nat.le_refl _))
            have d4' := Ps.sd_seg (f := Ps.srt le) Ps.srt_len (a := a) (b := mid) (by omega) (by omega) d4 (.inr (by omega))
            have s1 : ¬ (a < i ∧ i < mid) → Ps.seg (Ps.srt le) l1 a mid = l1 := fun h => Ps.seg_id (by omega) (by
              by_cases c : a < i
              · have : i = mid := by omega
                rw [← this]; exact d1
              · have : i = a := by omega
                rw [← this]; exact d2)
            have s2 : ¬ (mid < e ∧ e < b) → Ps.seg (Ps.srt le) (Ps.seg (Ps.srt le) l1 a mid) mid b = Ps.seg (Ps.srt le) l1 a mid := fun h => Ps.seg_id (by omega) (by
              by_cases c : mid < e
              · have : e = b := by omega
                rw [this] at d3'; exact d3'
              · have : e = mid := by omega
                rw [this] at d4'; exact d4')
            rw [← hj]
            generalize hl2e : Ps.seg (Ps.srt le) l1 a mid = l2 at hj hl2 p2 d3' d4' s1 s2
            refine M_join (fun _ : Unit => ⟨[(0, .vec 1000 n), (1, .int .i64 a), (3, .int .i64 b), (4, .fn g [] cs), (18, .int .i64 mid), (20, .int .i64 i), (24, .int .i64 e)], [(1000, .vec 47 6 (l1.map eD6) 0)]⟩) (fun _ => True) ?_ ?_
            · simp +contextual (maxSteps := 5000000) only [go_sem, ↓reduceIte, eD6_at, eD6_set, List.length_set, tn_add, tn_add1, tn_sub, tn_sub1, sh1, sh1b, half_cast, cl.cv6, cl.rf6, cl.nw6, cl.fz6, cl.cv5, cl.rf5, cl.nw5, cl.fz5, cl.wkL, cl.inOL, cm_ro, cm_ro1, stm_ro, d6_eD6]
              split
              · split
                · exact ⟨⟨⟨hn, h3⟩, by omega, hcs⟩, (), by rw [hl1e]⟩
                · rw [htr (by omega)]; exact ⟨(), rfl⟩
              · rw [htr (by omega)]; exact ⟨(), rfl⟩
            · intro _ _
              refine M_join (fun _ : Unit => ⟨[(0, .vec 1000 n), (3, .int .i64 b), (4, .fn g [] cs), (18, .int .i64 mid), (24, .int .i64 e)], [(1000, .vec 47 6 (l2.map eD6) 0)]⟩) (fun _ => True) ?_ ?_
              · simp +contextual (maxSteps := 5000000) only [go_sem, ↓reduceIte, eD6_at, eD6_set, List.length_set, tn_add, tn_add1, tn_sub, tn_sub1, sh1, sh1b, half_cast, cl.cv6, cl.rf6, cl.nw6, cl.fz6, cl.cv5, cl.rf5, cl.nw5, cl.fz5, cl.wkL, cl.inOL, cm_sm, cm_sm1, hst, d6_eD6]
                split
                · split
                  · exact ⟨⟨⟨by omega, h3⟩, by omega, ⟨hcs, hc.perm p1⟩, d1, d2⟩, (), by rw [hl2e]⟩
                  · rw [s1 (by omega)]; exact ⟨(), rfl⟩
                · rw [s1 (by omega)]; exact ⟨(), rfl⟩
              · intro _ _
                simp +contextual (maxSteps := 5000000) only [go_sem, ↓reduceIte, eD6_at, eD6_set, List.length_set, tn_add, tn_add1, tn_sub, tn_sub1, sh1, sh1b, half_cast, cl.cv6, cl.rf6, cl.nw6, cl.fz6, cl.cv5, cl.rf5, cl.nw5, cl.fz5, cl.wkL, cl.inOL, cm_sm, cm_sm1, hst, d6_eD6]
                split
                · split
                  · exact ⟨⟨hl2, h3⟩, by omega, ⟨hcs, hc.perm (p2.trans p1)⟩, d3', d4'⟩
                  · rw [s2 (by omega)]
                · rw [s2 (by omega)]
end Go.Proofs.YtknkjakppikjeaaGreat

set_option linter.unusedSimpArgs false
namespace Go.Proofs.YtknkjakppikjeaaGreat
open Go.Tn
set_option maxHeartbeats 8000000
set_option maxRecDepth 100000
theorem stm_sm {cm : St6 → St6 → Int} {le : St6 → St6 → Bool} (hcl : CmpLe cm le) : ∀ k, StMC Tryz.prog 125 [0] (cm_sm cm le k)
  | 0 => by
    intro ds H pre mu o1 out h hp
    unfold cm_sm at h
    split at h
    · unfold cm_sm1 at h
      split at h
      · cases h
        obtain ⟨_, _, ⟨ha, h1, h2, h4, hk⟩, _⟩ := hp
        omega
      · cases h
    · cases h
  | k + 1 => by
    intro ds H pre mu o1 out h hp
    unfold cm_sm at h
    split at h
    · rename_i i n a m b g cs
      unfold cm_sm1 at h
      split at h
      · rename_i e rows hi
        cases h
        obtain ⟨⟨rfl, hr⟩, ⟨rfl, h3⟩, ⟨ha, h1, h2, h4, hk⟩, ⟨hcs, hc⟩, hA, hB⟩ := hp
        rw [objs_one hi]
        have := (fcm_sm g cs hcs cm le hcl k (stm_sm hcl k) (rows.map d6) hc a.toNat m.toNat b.toNat rows.length (by simp) (by omega) (by omega) (by omega) h3 (by omega) hA hB).one i trivial (by simp [plainO])
        rw [← hr, Int.toNat_of_nonneg ha, Int.toNat_of_nonneg (by omega), Int.toNat_of_nonneg (by omega)] at this
        simp only [renF, ren1, renLO, renO, renM, ren, renL, sw_l] at this
        exact this
      · cases h
    · cases h
theorem fcm_stable (g : Nat) (cs : List D) (hcs : cleanL [.fn g [] cs] = true) (cm : St6 → St6 → Int) (le : St6 → St6 → Bool) (hcl : CmpLe cm le) (l : List St6) (hc : CmpOn g cs cm l)
    (n : Nat) (hn : l.length = n) (h3 : n < 1000000000) :
    FCM Tryz.prog 111 [(true, .vec 1000 n), (false, .int .i64 n), (false, .fn g [] cs)] [(1000, .vec 47 6 (l.map eD6) 0)] [(1000, .vec 47 6 ((Ps.srt le l).map eD6) 0)] (.ret (.tup [])) := by
  have cl := clrL_of (cl_fn hcs)
  have hp := hcl.p
  have hs1 := stm_is hcl
  have hs2 := stm_sm hcl (n + 1)
  refine fcm_M (fn := Tryz.f111) (C := (tab [] [(125, [0], cm_sm cm le (n + 1)), (124, [0], cm_is cm le)])) (rs := []) mixed (by kernel_rfl) (by kernel_rfl) rfl rfl (by kernel_rfl) ?_ ?_
  · simp +contextual (maxSteps := 5000000) only [go_sem, ↓reduceIte]
  simp +contextual (maxSteps := 5000000) only [go_sem, ↓reduceIte, eD6_at, eD6_set, List.length_set, tn_add, tn_add1, tn_sub, tn_sub1, sh1, sh1b, half_cast]
  refine M_loopI (fun s : List St6 × Nat => ⟨[(0, .vec 1000 n), (1, .int .i64 n), (2, .fn g [] cs), (6, .int .i64 20), (7, .int .i64 s.2), (8, .int .i64 (s.2 + 20 : Nat))], [(1000, .vec 47 6 (s.1.map eD6) 0)]⟩) (fun s => n - s.2)
    (fun s => s.1.length = n ∧ s.1.Perm l ∧ s.2 ≤ n ∧ Ps.Done le l s.1 20 s.2 ∧ ∀ p, s.2 ≤ p → s.1[p]? = l[p]?) (l, 0) ?_ ?_
  · simp +contextual (maxSteps := 5000000) only [go_sem, ↓reduceIte, cl.cv6, cl.rf6, cl.nw6, cl.fz6, cl.cv5, cl.rf5, cl.nw5, cl.fz5, cl.wkL, cl.inOL]
    and_intros
    all_goals first | omega | exact List.Perm.refl _ | exact Ps.Done.nil | (intros; rfl) | skip
  · intro ⟨k, a⟩ hi
    obtain ⟨i1, i2, i3, i4, i5⟩ := hi
    simp only at i1 i2 i3 i4 i5
    simp +contextual (maxSteps := 5000000) only [go_sem, ↓reduceIte, eD6_at, eD6_set, List.length_set, tn_add, tn_add1, tn_sub, tn_sub1, sh1, sh1b, half_cast, cl.cv6, cl.rf6, cl.nw6, cl.fz6, cl.cv5, cl.rf5, cl.nw5, cl.fz5, cl.wkL, cl.inOL, cm_is, cm_is1, hs1, d6_eD6]
    simp only [aa, inR_iff]
    subst hn
    split
    · rename_i hlt
      have hl := Ps.seg_len' (le := le) (l := k) (a := a) (b := a + 20) (by omega) (by omega)
      refine ⟨⟨⟨i1, h3⟩, by omega, hcs, hc.perm i2⟩, ⟨by omega, by omega⟩, ⟨(Ps.seg (Ps.srt le) k a (a + 20), a + 20), ⟨⟨rfl, by simp only; omega⟩, rfl⟩, by simp only; omega, by simp only; omega, (Ps.seg_perm (by omega)).trans i2, hlt, ?_, fun p hp' => ?_⟩⟩
      · exact (i4.out (by omega) (by omega) (Nat.le_refl _)).snoc (by omega) (Ps.W.new (by omega) (by omega) i5)
      · simp only at hp'
        rw [Ps.seg_out Ps.srt_len (by omega) (by omega) (.inr hp')]
        exact i5 p (by omega)
    · rename_i hge
      refine ⟨⟨⟨i1, h3⟩, ⟨i3, Nat.le_refl _⟩, hcs, hc.perm i2⟩, ?_⟩
      have hl := Ps.seg_len' (le := le) (l := k) (a := a) (b := l.length) (by omega) (by omega)
      have hr : Ps.Runs le l (Ps.seg (Ps.srt le) k a l.length) 20 0 := by
        refine (i4.out (by omega) (by omega) (Nat.le_refl _)).runs (by omega) ?_
        by_cases c : a = l.length
        · exact .nil (by omega)
        · refine .cons (by omega) ?_ (.nil (by omega))
          rw [hl, Nat.min_eq_right (by omega), i1]
          exact Ps.W.new (by omega) (by omega) i5
      have hpm : (Ps.seg (Ps.srt le) k a l.length).Perm l := (Ps.seg_perm (by omega)).trans i2
      generalize Ps.seg (Ps.srt le) k a l.length = k2 at hl hr hpm
      clear i1 i2 i3 i4 i5 hge
      refine M_loopI (fun s : List St6 × Nat => ⟨[(0, .vec 1000 l.length), (1, .int .i64 l.length), (2, .fn g [] cs), (6, .int .i64 s.2)], [(1000, .vec 47 6 (s.1.map eD6) 0)]⟩) (fun s => l.length - s.2)
        (fun s => s.1.Perm l ∧ 0 < s.2 ∧ s.2 < 4000000000 ∧ Ps.Runs le l s.1 s.2 0) (k2, 20) ?_ ?_
      · simp +contextual (maxSteps := 5000000) only [go_sem, ↓reduceIte, cl.cv6, cl.rf6, cl.nw6, cl.fz6, cl.cv5, cl.rf5, cl.nw5, cl.fz5, cl.wkL, cl.inOL]
        and_intros
        all_goals first | omega | assumption
      · intro ⟨k, bs⟩ hi
        obtain ⟨i2, i3, i4, i5⟩ := hi
        simp only at i2 i3 i4 i5
        have i1 := i2.length_eq
        simp +contextual (maxSteps := 5000000) only [go_sem, ↓reduceIte, eD6_at, eD6_set, List.length_set, tn_add, tn_add1, tn_sub, tn_sub1, sh1, sh1b, half_cast, cl.cv6, cl.rf6, cl.nw6, cl.fz6, cl.cv5, cl.rf5, cl.nw5, cl.fz5, cl.wkL, cl.inOL, cm_sm, cm_sm1, hs2, d6_eD6]
        simp only [aa, inR_iff]
        split
        · rename_i hbs
          refine ⟨⟨by omega, by omega⟩, ?_⟩
          refine M_loopI (fun s : List St6 × Nat => ⟨[(0, .vec 1000 l.length), (1, .int .i64 l.length), (2, .fn g [] cs), (6, .int .i64 bs), (7, .int .i64 s.2), (8, .int .i64 (s.2 + 2 * bs : Nat))], [(1000, .vec 47 6 (s.1.map eD6) 0)]⟩) (fun s => l.length - s.2)
            (fun s => s.1.Perm l ∧ s.2 ≤ l.length ∧ Ps.Done le l s.1 (2 * bs) s.2 ∧ Ps.Runs le l s.1 bs s.2) (k, 0) ?_ ?_
          · simp +contextual (maxSteps := 5000000) only [go_sem, ↓reduceIte, cl.cv6, cl.rf6, cl.nw6, cl.fz6, cl.cv5, cl.rf5, cl.nw5, cl.fz5, cl.wkL, cl.inOL]
            and_intros
            all_goals first | omega | assumption | exact Ps.Done.nil
          · intro ⟨k, a⟩ hi
            obtain ⟨j2, j3, j4, j5⟩ := hi
            simp only at j2 j3 j4 j5
            have j1 := j2.length_eq
            simp +contextual (maxSteps := 5000000) only [go_sem, ↓reduceIte, eD6_at, eD6_set, List.length_set, tn_add, tn_add1, tn_sub, tn_sub1, sh1, sh1b, half_cast, cl.cv6, cl.rf6, cl.nw6, cl.fz6, cl.cv5, cl.rf5, cl.nw5, cl.fz5, cl.wkL, cl.inOL, cm_sm, cm_sm1, hs2, d6_eD6]
            simp only [aa, inR_iff]
            split
            · rename_i hab
              obtain ⟨q1, q2, q3, q4⟩ := Ps.step_runs hcl.p i3 j4 j5 (by omega)
              refine ⟨⟨by omega, by omega⟩, ⟨⟨j1, h3⟩, ⟨by omega, by omega, by omega⟩, ⟨hcs, hc.perm j2⟩, q1, q2⟩, ⟨by omega, by omega⟩, ⟨by omega, by omega⟩, ⟨(Ps.seg (Ps.srt le) k a (a + 2 * bs), a + 2 * bs), ⟨⟨rfl, by simp only; omega⟩, rfl⟩, by simp only; omega, (Ps.seg_perm (by omega)).trans j2, hab, q3, q4⟩⟩
            · rename_i hab
              refine ⟨⟨by omega, by omega⟩, ?_⟩
              split
              · rename_i hm
                obtain ⟨q1, q2, q3⟩ := Ps.last_runs hcl.p i3 j4 j5 (by omega) (by omega)
                rw [j1] at q2 q3
                exact ⟨⟨⟨j1, h3⟩, ⟨by omega, by omega, by omega⟩, ⟨hcs, hc.perm j2⟩, q1, q2⟩, ⟨by omega, by omega⟩, ⟨(Ps.seg (Ps.srt le) k a l.length, 2 * bs), ⟨by simp only; omega, rfl⟩, by simp only; omega, (Ps.seg_perm (by omega)).trans j2, by simp only; omega, by simp only; omega, q3⟩⟩
              · rename_i hm
                exact ⟨⟨by omega, by omega⟩, ⟨(k, 2 * bs), ⟨by simp only; omega, rfl⟩, by simp only; omega, j2, by simp only; omega, by simp only; omega, Ps.less_runs i3 j4 j5 (show k.length ≤ a + bs by omega)⟩⟩
        · rename_i hbs
          rw [i5.fin i1 (by omega)]
def cm_sb1 (cm : St6 → St6 → Int) (le : St6 → St6 → Bool) (i n : Nat) (m : Int) (g : Nat) (cs : List D) : Option LObj → MS
  | some (.vec e 6 rows 0) => .yes ((e = 47 ∧ rows = (rows.map d6).map eD6) ∧ (rows.length = n ∧ m = n ∧ n < 1000000000) ∧ cleanL [.fn g [] cs] = true ∧ CmpOn g cs cm (rows.map d6)) [i] [(i, .vec e 6 ((Ps.srt le (rows.map d6)).map eD6) 0)] (.ret (.tup []))
  | _ => .bad
def cm_sb (cm : St6 → St6 → Int) (le : St6 → St6 → Bool) (ds : List D) (H : Hp) : MS := match ds with | [.vec i n, .int .i64 m, .fn g [] cs] => cm_sb1 cm le i n m g cs (H i) | _ => .bad
theorem stm_sb {cm : St6 → St6 → Int} {le : St6 → St6 → Bool} (hcl : CmpLe cm le) : StMC Tryz.prog 111 [0] (cm_sb cm le) := by
  intro ds H pre mu o1 out h hp
  unfold cm_sb at h
  split at h
  · rename_i i n m g cs
    unfold cm_sb1 at h
    split at h
    · rename_i e rows hi
      cases h
      obtain ⟨⟨rfl, hr⟩, ⟨rfl, rfl, h3⟩, hcs, hc⟩ := hp
      rw [objs_one hi]
      have := (fcm_stable g cs hcs cm le hcl (rows.map d6) hc rows.length (by simp) h3).one i trivial (by simp [plainO])
      rw [← hr] at this
      simp only [renF, ren1, renLO, renO, renM, ren, renL, sw_l] at this
      exact this
    · cases h
  · cases h
theorem fcm_sortStable (g : Nat) (cs : List D) (hcs : cleanL [.fn g [] cs] = true) (cm : St6 → St6 → Int) (le : St6 → St6 → Bool) (hcl : CmpLe cm le) (l : List St6) (hc : CmpOn g cs cm l)
    (n : Nat) (hn : l.length = n) (h3 : n < 1000000000) :
    FCM Tryz.prog 76 [(true, .vec 1000 n), (false, .fn g [] cs)] [(1000, .vec 47 6 (l.map eD6) 0)] [(1000, .vec 47 6 ((Ps.srt le l).map eD6) 0)] (.ret (.tup [])) := by
  have cl := clrL_of (cl_fn hcs)
  have hs := stm_sb hcl
  refine fcm_M (fn := Tryz.f76) (C := (tab [] [(111, [0], cm_sb cm le)])) (rs := []) mixed (by kernel_rfl) (by kernel_rfl) rfl rfl (by kernel_rfl) ?_ ?_
  · simp +contextual (maxSteps := 5000000) only [go_sem, ↓reduceIte]
  simp +contextual (maxSteps := 5000000) only [go_sem, ↓reduceIte, eD6_at, eD6_set, List.length_set, tn_add, tn_add1, tn_sub, tn_sub1, sh1, sh1b, half_cast, cl.cv6, cl.rf6, cl.nw6, cl.fz6, cl.cv5, cl.rf5, cl.nw5, cl.fz5, cl.wkL, cl.inOL, cm_sb, cm_sb1, hs, d6_eD6]
  exact ⟨hn, fun _ => ⟨h3, hcs, hc⟩⟩
def cm_ss1 (cm : St6 → St6 → Int) (le : St6 → St6 → Bool) (i n : Nat) (g : Nat) (cs : List D) : Option LObj → MS
  | some (.vec e 6 rows 0) => .yes ((e = 47 ∧ rows = (rows.map d6).map eD6) ∧ (rows.length = n ∧ n < 1000000000) ∧ cleanL [.fn g [] cs] = true ∧ CmpOn g cs cm (rows.map d6)) [i] [(i, .vec e 6 ((Ps.srt le (rows.map d6)).map eD6) 0)] (.ret (.tup []))
  | _ => .bad
def cm_ss (cm : St6 → St6 → Int) (le : St6 → St6 → Bool) (ds : List D) (H : Hp) : MS := match ds with | [.vec i n, .fn g [] cs] => cm_ss1 cm le i n g cs (H i) | _ => .bad
theorem stm_ss {cm : St6 → St6 → Int} {le : St6 → St6 → Bool} (hcl : CmpLe cm le) : StMC Tryz.prog 76 [0] (cm_ss cm le) := by
  intro ds H pre mu o1 out h hp
  unfold cm_ss at h
  split at h
  · rename_i i n g cs
    unfold cm_ss1 at h
    split at h
    · rename_i e rows hi
      cases h
      obtain ⟨⟨rfl, hr⟩, ⟨rfl, h3⟩, hcs, hc⟩ := hp
      rw [objs_one hi]
      have := (fcm_sortStable g cs hcs cm le hcl (rows.map d6) hc rows.length (by simp) h3).one i trivial (by simp [plainO])
      rw [← hr] at this
      simp only [renF, ren1, renLO, renO, renM, ren, renL, sw_l] at this
      exact this
    · cases h
  · cases h
end Go.Proofs.YtknkjakppikjeaaGreat

set_option linter.unusedSimpArgs false
namespace Go.Proofs.YtknkjakppikjeaaGreat
open Go.Tn
set_option maxHeartbeats 8000000
set_option maxRecDepth 100000
def turnS (s : St6) : St6 := ⟨s.j, s.i, s.q, s.p, s.n, s.o⟩
def leJ (x y : St6) : Bool := decide (0 ≤ ordF y x)
theorem ordF_lt (x y : St6) : ordF x y < 0 ↔ x.j < y.j ∨ (x.j = y.j ∧ x.q < y.q) := by
  simp only [ordF, orF, cmpI]
  (repeat' split) <;> simp_all <;> omega
theorem leJ_iff (x y : St6) : leJ x y = true ↔ x.j < y.j ∨ (x.j = y.j ∧ x.q ≤ y.q) := by
  have := ordF_lt y x
  simp only [leJ, decide_eq_true_eq]
  omega
theorem pre_leJ : Ps.Pre leJ := ⟨fun a b c => by simp only [leJ_iff]; omega, fun a b => by simp only [leJ_iff]; omega⟩
theorem cmpLe_ord : CmpLe ordF leJ := ⟨fun _ _ => rfl, pre_leJ⟩
def turnSs (l : List St6) : List St6 := Ps.srt leJ (l.map turnS)
theorem turnSs_len (l : List St6) : (turnSs l).length = l.length := by unfold turnSs; rw [Ps.srt_len, List.length_map]
def turnD (d : Dl) : Dl := ⟨d.B, d.A, turnP d.cols, d.nb, d.na, turnP d.rows, d.inss, d.dels, turnSs d.sets, d.gain, d.lost⟩
theorem cmpOn_ord (l : List St6) : CmpOn 77 [] ordF l := ⟨by decide, fun x _ y _ => fc_order x y⟩
def eT6 (s : St6) : List D := eD6 (turnS s)
theorem eT6_eq (l : List St6) : l.map eT6 = (l.map turnS).map eD6 := by rw [List.map_map]; rfl
def eZl : List D := [.nil, .nil, .nil, .int .i64 0, .int .i64 0, .nil, .nil, .nil, .nil, .nil, .nil]
theorem fc_DTurn (d : Dl) (h : okDl d) (hc : ∀ x ∈ d.dels ++ d.inss, x.2.length < 1000000000) : FC Tryz.prog 30 [] [.agg (eDl d)] (.ret (.agg (eDl (turnD d)))) := by
  have hh := h
  obtain ⟨hA, hB, hco, hro, hde, hin, hse, hlo, hga, hce⟩ := h
  have ty : tyOf Tryz.prog 31 = ⟨.struct, [(.slice none 0 0), (.slice none 0 0), (.slice none 0 0), (.int .i64 0), (.int .i64 0), (.slice none 0 0), (.slice none 0 0), (.slice none 0 0), (.slice none 0 0), (.slice none 0 0), (.slice none 0 0)], [(0, 1, false), (1, 1, false), (2, 1, false), (3, 1, false), (4, 1, false), (5, 1, false), (6, 1, false), (7, 1, false), (8, 1, false), (9, 1, false), (10, 1, false)], 0, 0, false, 0, 232⟩ := by kernel_rfl
  have hf := tyOf_fact (P := Tryz.prog) (t := 31) (by rw [ty]; intro h; cases h)
  rw [ty] at hf
  refine fcc_of (fn := Tryz.f30) (rt := 31) (r := 2) (i := 2) (C := tab [(23, c_Clone 9 1), (80, c_Clone 71 3), (78, c_pTurn), (79, c_lines)] [(76, [0], cm_ss ordF leJ)] [5007]) mixed (by kernel_rfl) (by kernel_rfl) rfl rfl hf (by kernel_rfl) (by intro ys h; cases h) ?_
  unfold eDl
  simp +contextual (maxSteps := 5000000) only [go_sem, ↓reduceIte]
  intro _
  have hs1 := stm_ss cmpLe_ord
  refine M_loopI (fun i : Nat => ⟨[(1, .loc 1 0), (2, .loc 2 0), (3, .vec 28 i), (7, .sl 6 (d.sets.map eD6)), (8, .int .i64 d.sets.length), (9, .int .i64 i)], [(1, .blk (eDl d) false), (2, .blk eZl false), (28, .vec 47 6 ((d.sets.take i).map eT6) 0)]⟩) (fun i => d.sets.length - i) (fun i => i ≤ d.sets.length) 0 ?_ ?_
  · simp +contextual (maxSteps := 5000000) only [go_sem, ↓reduceIte, eDl, eZl]
    rfl
  · intro i hi
    by_cases hlt : i < d.sets.length
    · have hat := eD6_at d.sets i hlt
      simp +contextual (maxSteps := 5000000) only [go_sem, ↓reduceIte, eI_at, eI_set, List.length_set, tn_add, tn_add1, tn_sub, tn_sub1, sh1, sh1b, half_cast, hlt, hat, eDl, eZl]
      exact ⟨⟨by omega, by omega⟩, fun _ => ⟨inR64 (by omega) (by omega), fun _ => ⟨i + 1, ⟨⟨rfl, by simp⟩, take_map_succ eT6 default d.sets i hlt⟩, by omega, by omega⟩⟩⟩
    · obtain rfl : i = d.sets.length := by omega
      simp +contextual (maxSteps := 5000000) only [go_sem, ↓reduceIte, hlt, Nat.lt_irrefl, List.take_length, eT6_eq, eDl, eZl]
      refine M_join (fun _ : Unit => ⟨[(1, .loc 1 0), (2, .loc 2 0), (3, .vec 28 d.sets.length)], [(1, .blk (eDl d) false), (2, .blk eZl false), (28, .vec 47 6 ((turnSs d.sets).map eD6) 0)]⟩) (fun _ => True) ?_ ?_
      · simp +contextual (maxSteps := 5000000) only [go_sem, ↓reduceIte, eDl, eZl, cm_ss, cm_ss1, hs1, d6_eD6]
        exact ⟨⟨by omega, rfl, cmpOn_ord _⟩, (), rfl⟩
      · intro _ _
        unfold turnD eDl
        simp +contextual (maxSteps := 5000000) only [go_sem, ↓reduceIte, eZl, c_Clone, c_pTurn, st_pTurn, st_CloneS, st_CloneP, c_lines, st_lines, dP_eP, dL_eL, finC, finCB, locR]
        refine ⟨by omega, by omega, by omega, by omega, ⟨hin, fun x hx => hc x (List.mem_append.2 (.inr hx))⟩, ⟨hde, fun x hx => hc x (List.mem_append.2 (.inl hx))⟩, by omega, by omega, turnSs_len _⟩
end Go.Proofs.YtknkjakppikjeaaGreat

set_option linter.unusedSimpArgs false
namespace Go.Proofs.YtknkjakppikjeaaGreat
open Go.Tn
set_option maxHeartbeats 8000000
set_option maxRecDepth 100000
def c_TC (t : Tab) (caps args : List D) : Prop × Out := match caps, args with | [], [x] => (x = .agg (eTb t), .ret (.int .i64 (tchk t))) | _, _ => (False, .ret .any)
theorem st_TC {t : Tab} (h : okTb t) : StC Tryz.prog 25 (c_TC t) := by
  intro caps args; unfold c_TC; split
  · rintro rfl; exact fc_TCheck t h
  · exact fun h => h.elim
def c_DC (d : Dl) (caps args : List D) : Prop × Out := match caps, args with | [], [x] => (x = .agg (eDl d), .ret (.int .i64 (chkD d))) | _, _ => (False, .ret .any)
theorem st_DC {d : Dl} (h : okDl d) (h1 : d.na < 1000000000) (h2 : d.nb < 1000000000) : StC Tryz.prog 54 (c_DC d) := by
  intro caps args; unfold c_DC; split
  · rintro rfl; exact fc_DCheck d h h1 h2
  · exact fun h => h.elim
def c_Hd (t : Tab) (d : Dl) (caps args : List D) : Prop × Out := match caps, args with | [], [x, y] => (x = .agg (eTb t) ∧ y = .agg (eDl d), .ret (.bool (heldF t d))) | _, _ => (False, .ret .any)
theorem st_Hd {t : Tab} {d : Dl} (h : okDl d) : StC Tryz.prog 14 (c_Hd t d) := by
  intro caps args; unfold c_Hd; split
  · rintro ⟨rfl, rfl⟩; exact fc_Held t d h
  · exact fun h => h.elim
def wrongF (t : Tab) (d : Dl) : Int := if tchk t ≠ 0 then tchk t else if chkD d ≠ 0 then chkD d else if ¬ t.1 = d.A then 14 else if ¬ (t.2.length : Int) = d.na then 15 else if heldF t d = false then 16 else 0
structure okTD (t : Tab) (d : Dl) : Prop where
  tb : okTb t
  dl : okDl d
  na : d.na < 1000000000
  nb : d.nb < 1000000000
  cs : ∀ x ∈ d.dels ++ d.inss, x.2.length < 1000000000
theorem fc_wrong (t : Tab) (d : Dl) (h : okTD t d) : FC Tryz.prog 21 [] [.agg (eTb t), .agg (eDl d)] (.ret (.int .i64 (wrongF t d))) := by
  have s1 := st_TC h.tb
  have s2 := st_DC h.dl h.na h.nb
  have s3 := st_Hd (t := t) h.dl
  refine fc_M (fn := Tryz.f21) (C := (tab [(25, c_TC t), (54, c_DC d), (14, c_Hd t d), (36, c_EqT)] [] [5001, 5004])) (rs := [4]) mixed (by kernel_rfl) (by kernel_rfl) rfl rfl (by kernel_rfl) (by intro ys h; cases h) ?_
  unfold eTb eDl
  simp +contextual (maxSteps := 5000000) only [go_sem, ↓reduceIte]
  refine M_join (fun _ : Unit => ⟨[(2, .loc 2 0), (3, .loc 3 0), (5, .int .i64 (tchk t))], [(2, .blk (eTb t) false), (3, .blk (eDl d) false)]⟩) (fun _ => True) ?_ ?_
  · simp +contextual (maxSteps := 5000000) only [go_sem, ↓reduceIte, c_TC, s1, eTb, eDl]
    exact ⟨(), trivial⟩
  intro _ _
  unfold eTb eDl
  by_cases q1 : tchk t = 0
  · simp +contextual (maxSteps := 5000000) only [go_sem, ↓reduceIte, q1]
    refine M_join (fun _ : Unit => ⟨[(2, .loc 2 0), (3, .loc 3 0), (6, .int .i64 (chkD d))], [(2, .blk (eTb t) false), (3, .blk (eDl d) false)]⟩) (fun _ => True) ?_ ?_
    · simp +contextual (maxSteps := 5000000) only [go_sem, ↓reduceIte, c_DC, s2, eTb, eDl]
      exact ⟨(), trivial⟩
    intro _ _
    have e1 : wrongF t d = if chkD d ≠ 0 then chkD d else if ¬ t.1 = d.A then 14 else if ¬ (t.2.length : Int) = d.na then 15 else if heldF t d = false then 16 else 0 := by unfold wrongF; rw [if_neg (fun h => h q1)]
    rw [e1]
    unfold eTb eDl
    by_cases q2 : chkD d = 0
    · by_cases q3 : t.1 = d.A
      · by_cases q4 : (t.2.length : Int) = d.na
        · simp +contextual (maxSteps := 5000000) only [go_sem, ↓reduceIte, q2, q3, q4, c_EqT, st_EqT, dS_eS, c_Hd, s3, eTb, eDl]
        · simp +contextual (maxSteps := 5000000) only [go_sem, ↓reduceIte, q2, q3, q4, c_EqT, st_EqT, dS_eS]
      · simp +contextual (maxSteps := 5000000) only [go_sem, ↓reduceIte, q2, q3, c_EqT, st_EqT, dS_eS]
    · simp +contextual (maxSteps := 5000000) only [go_sem, ↓reduceIte, q2]
  · have e1 : wrongF t d = tchk t := by unfold wrongF; rw [if_pos q1]
    rw [e1]
    simp +contextual (maxSteps := 5000000) only [go_sem, ↓reduceIte, q1]
end Go.Proofs.YtknkjakppikjeaaGreat

set_option linter.unusedSimpArgs false
namespace Go.Proofs.YtknkjakppikjeaaGreat
open Go.Tn
set_option maxHeartbeats 8000000
set_option maxRecDepth 100000
abbrev MP := List ((Int × Int) × Str)
def gainM (l : List Sp) : MP := l.foldl (fun m x => gup m (x.1, x.2.1) x.2.2) []
def setM (m0 : MP) (l : List St6) : MP := l.foldl (fun m x => gup m (x.j, x.q) x.n) m0
def toldM (d : Dl) : MP := setM (gainM d.gain) d.sets
def fromM (l : List (Int × Int)) : List (Int × Int) := l.foldl (fun m p => mup m p.2 p.1) []
theorem gainM_take {l : List Sp} {i : Nat} (h : i < l.length) : gainM (l.take (i + 1)) = gup (gainM (l.take i)) ((l.getD i (0, 0, [])).1, (l.getD i (0, 0, [])).2.1) (l.getD i (0, 0, [])).2.2 := by
  have e : l.take (i + 1) = l.take i ++ [l.getD i (0, 0, [])] := by
    rw [List.take_add_one, List.getElem?_eq_getElem h, List.getD_eq_getElem?_getD, List.getElem?_eq_getElem h]; rfl
  unfold gainM
  rw [e, List.foldl_append]; rfl
theorem setM_take {m0 : MP} {l : List St6} {i : Nat} (h : i < l.length) : setM m0 (l.take (i + 1)) = gup (setM m0 (l.take i)) ((l.getD i default).j, (l.getD i default).q) (l.getD i default).n := by
  have e : l.take (i + 1) = l.take i ++ [l.getD i default] := by
    rw [List.take_add_one, List.getElem?_eq_getElem h, List.getD_eq_getElem?_getD, List.getElem?_eq_getElem h]; rfl
  unfold setM
  rw [e, List.foldl_append]; rfl
theorem fromM_take {l : List (Int × Int)} {i : Nat} (h : i < l.length) : fromM (l.take (i + 1)) = mup (fromM (l.take i)) (l.getD i (0, 0)).2 (l.getD i (0, 0)).1 := by
  have e : l.take (i + 1) = l.take i ++ [l.getD i (0, 0)] := by
    rw [List.take_add_one, List.getElem?_eq_getElem h, List.getD_eq_getElem?_getD, List.getElem?_eq_getElem h]; rfl
  unfold fromM
  rw [e, List.foldl_append]; rfl
def eMk (t : Tab) (d : Dl) : List D := [.sl 1 (t.1.map eS), .sl 1 (t.2.map eR), .sl 1 (d.A.map eS), .sl 1 (d.B.map eS), .sl 2 (d.cols.map eP), .int .i64 d.na, .int .i64 d.nb, .sl 2 (d.rows.map eP), .sl 2 (d.dels.map eL), .sl 2 (d.inss.map eL), .sl 6 (d.sets.map eD6), .sl 3 (d.lost.map eSp), .sl 3 (d.gain.map eSp), .mp ((toldM d).map kP) ((toldM d).map vP), .mp ((fromM d.cols).map kI) ((fromM d.cols).map vI)]
def eMl (t : Tab) (d : Dl) : List D := [.sl 1 (t.1.map eS), .sl 1 (t.2.map eR), .sl 1 (d.A.map eS), .sl 1 (d.B.map eS), .sl 2 (d.cols.map eP), .int .i64 d.na, .int .i64 d.nb, .sl 2 (d.rows.map eP), .sl 2 (d.dels.map eL), .sl 2 (d.inss.map eL), .sl 6 (d.sets.map eD6), .sl 3 (d.lost.map eSp), .sl 3 (d.gain.map eSp), .lmap 14, .lmap 15]
def eMz : List D := [.nil, .nil, .nil, .nil, .nil, .int .i64 0, .int .i64 0, .nil, .nil, .nil, .nil, .nil, .nil, .val (.map none), .val (.map none)]
theorem fc_made (t : Tab) (d : Dl) (h : okDl d) : FC Tryz.prog 22 [] [.agg (eTb t), .agg (eDl d)] (.ret (.agg (eMk t d))) := by
  obtain ⟨hA, hB, hco, hro, hde, hin, hse, hlo, hga, hce⟩ := h
  have hy : tyOf Tryz.prog 57 = ⟨.struct, [(.slice none 0 0), (.slice none 0 0), (.slice none 0 0), (.slice none 0 0), (.slice none 0 0), (.int .i64 0), (.int .i64 0), (.slice none 0 0), (.slice none 0 0), (.slice none 0 0), (.slice none 0 0), (.slice none 0 0), (.slice none 0 0), (.map none), (.map none)], [(0, 2, true), (2, 11, true), (13, 1, false), (14, 1, false)], 0, 0, false, 0, 296⟩ := by kernel_rfl
  have hf := tyOf_fact (P := Tryz.prog) (t := 57) (by rw [hy]; intro h; cases h)
  rw [hy] at hf
  refine fcc_of (fn := Tryz.f22) (rt := 57) (r := 4) (i := 4) (C := tab [] [] [5001]) mixed (by kernel_rfl) (by kernel_rfl) rfl rfl hf (by kernel_rfl) (by intro ys h; cases h) ?_
  unfold eTb eDl
  simp +contextual (maxSteps := 5000000) only [go_sem, ↓reduceIte]
  refine M_join (fun _ : Unit => ⟨[(3, .loc 3 0), (4, .loc 4 0), (5, .loc 5 0)], [(3, .blk (eDl d) false), (4, .blk eMz false), (5, .blk (eMl t d) false), (14, .mp [] [] false), (15, .mp [] [] false)]⟩) (fun _ => True) ?_ ?_
  · simp +contextual (maxSteps := 5000000) only [go_sem, ↓reduceIte, eDl, eMz, eMl]
    exact ⟨(), trivial⟩
  intro _ _
  unfold eDl
  simp +contextual (maxSteps := 5000000) only [go_sem, ↓reduceIte]
  refine fun _ => M_loopI (fun i : Nat => ⟨[(3, .loc 3 0), (4, .loc 4 0), (5, .loc 5 0), (18, .sl 3 (d.gain.map eSp)), (19, .int .i64 d.gain.length), (20, .int .i64 i)], [(3, .blk (eDl d) false), (4, .blk eMz false), (5, .blk (eMl t d) false), (14, .mp ((gainM (d.gain.take i)).map kP) ((gainM (d.gain.take i)).map vP) false), (15, .mp [] [] false)]⟩) (fun i => d.gain.length - i) (fun i => i ≤ d.gain.length) 0 ?_ ?_
  · simp +contextual (maxSteps := 5000000) only [go_sem, ↓reduceIte, eDl, eMz, eMl, gainM, List.foldl_nil]
    rfl
  intro i hi
  by_cases hlt : i < d.gain.length
  · have hat := eSp_at d.gain i hlt
    have ht := gainM_take hlt
    simp +contextual (maxSteps := 5000000) only [go_sem, ↓reduceIte, hlt, hat, eDl, eMz, eMl]
    exact ⟨inR64 (by omega) (by omega), fun _ => ⟨i + 1, ⟨by simp, by rw [ht], by rw [ht]⟩, by omega, by omega⟩⟩
  obtain rfl : i = d.gain.length := by omega
  simp +contextual (maxSteps := 5000000) only [go_sem, ↓reduceIte, hlt, Nat.lt_irrefl, List.take_length, eDl, eMz, eMl]
  clear hlt hi
  refine fun _ => M_loopI (fun i : Nat => ⟨[(3, .loc 3 0), (4, .loc 4 0), (5, .loc 5 0), (35, .sl 6 (d.sets.map eD6)), (36, .int .i64 d.sets.length), (37, .int .i64 i)], [(3, .blk (eDl d) false), (4, .blk eMz false), (5, .blk (eMl t d) false), (14, .mp ((setM (gainM d.gain) (d.sets.take i)).map kP) ((setM (gainM d.gain) (d.sets.take i)).map vP) false), (15, .mp [] [] false)]⟩) (fun i => d.sets.length - i) (fun i => i ≤ d.sets.length) 0 ?_ ?_
  · simp +contextual (maxSteps := 5000000) only [go_sem, ↓reduceIte, eDl, eMz, eMl, setM, List.foldl_nil]
    rfl
  intro i hi
  by_cases hlt : i < d.sets.length
  · have hat := eD6_at d.sets i hlt
    have ht := setM_take (m0 := gainM d.gain) hlt
    simp +contextual (maxSteps := 5000000) only [go_sem, ↓reduceIte, hlt, hat, eDl, eMz, eMl]
    exact ⟨inR64 (by omega) (by omega), fun _ => ⟨i + 1, ⟨by simp, by rw [ht], by rw [ht]⟩, by omega, by omega⟩⟩
  obtain rfl : i = d.sets.length := by omega
  simp +contextual (maxSteps := 5000000) only [go_sem, ↓reduceIte, hlt, Nat.lt_irrefl, List.take_length, eDl, eMz, eMl]
  clear hlt hi
  have hT : setM (gainM d.gain) d.sets = toldM d := rfl
  rw [hT]
  refine fun _ => M_loopI (fun i : Nat => ⟨[(4, .loc 4 0), (5, .loc 5 0), (52, .sl 2 (d.cols.map eP)), (53, .int .i64 d.cols.length), (54, .int .i64 i)], [(4, .blk eMz false), (5, .blk (eMl t d) false), (14, .mp ((toldM d).map kP) ((toldM d).map vP) false), (15, .mp ((fromM (d.cols.take i)).map kI) ((fromM (d.cols.take i)).map vI) false)]⟩) (fun i => d.cols.length - i) (fun i => i ≤ d.cols.length) 0 ?_ ?_
  · simp +contextual (maxSteps := 5000000) only [go_sem, ↓reduceIte, eDl, eMz, eMl, fromM, List.foldl_nil]
    rfl
  intro i hi
  by_cases hlt : i < d.cols.length
  · have hat := eP_at d.cols i hlt
    have ht := fromM_take hlt
    simp +contextual (maxSteps := 5000000) only [go_sem, ↓reduceIte, hlt, hat, eMz, eMl]
    exact ⟨inR64 (by omega) (by omega), fun _ => ⟨i + 1, ⟨by simp, by rw [ht], by rw [ht]⟩, by omega, by omega⟩⟩
  obtain rfl : i = d.cols.length := by omega
  unfold eMk
  simp +contextual (maxSteps := 5000000) only [go_sem, ↓reduceIte, hlt, Nat.lt_irrefl, List.take_length, eMz, eMl, finC, finCB, locR]
end Go.Proofs.YtknkjakppikjeaaGreat

set_option linter.unusedSimpArgs false
namespace Go.Proofs.YtknkjakppikjeaaGreat
open Go.Tn
set_option maxHeartbeats 8000000
set_option maxRecDepth 100000
/- a new row -/
def hasM (m : MP) (k q : Int) : Bool := m.any fun x => decide (x.1 = (k, q))
def ceF (t : Tab) (m : MP) (fr : List (Int × Int)) (i k : Int) (q : Int) : Str := if hasM m k q = true then glk [] m (k, q) else cellF t i (mlk fr q)
def rowF (t : Tab) (m : MP) (fr : List (Int × Int)) (n : Nat) (i k : Int) : List Str := (List.range n).map fun q : Nat => ceF t m fr i k q
theorem eS_set (l : List Str) (i : Nat) (s : Str) : (l.map eS).set i [.str s] = (l.set i s).map eS := by rw [List.map_set]; rfl
def mixR (R : List Str) (n q : Nat) : List Str := R.take q ++ List.replicate (n - q) []
theorem mixR_set {R : List Str} {n q : Nat} (hR : R.length = n) (h : q < n) : (mixR R n q).set q (R.getD q []) = mixR R n (q + 1) := by
  unfold mixR
  obtain ⟨m, hm⟩ : ∃ m, n - q = m + 1 := ⟨n - q - 1, by omega⟩
  have h2 : n - (q + 1) = m := by omega
  have hl : (R.take q).length = q := by rw [List.length_take]; omega
  rw [hm, h2, List.replicate_succ, List.set_append_right _ _ (by omega), hl, Nat.sub_self, List.set_cons_zero]
  have e : R.take (q + 1) = R.take q ++ [R.getD q []] := by
    rw [List.take_add_one, List.getElem?_eq_getElem (by omega), List.getD_eq_getElem?_getD, List.getElem?_eq_getElem (by omega)]; rfl
  rw [e, List.append_assoc]; rfl
theorem mixR_len {R : List Str} {n q : Nat} (hR : R.length = n) (h : q ≤ n) : (mixR R n q).length = n := by
  unfold mixR
  rw [List.length_append, List.length_take, List.length_replicate]; omega
theorem fc_row (t : Tab) (d : Dl) (h : okDl d) (i k : Int) : FC Tryz.prog 24 [] [.agg (eMk t d), .int .i64 i, .int .i64 k] (.own 9 1 ((rowF t (toldM d) (fromM d.cols) d.B.length i k).map eS)) := by
  have hB := h.B
  have hs := st_Cell t
  refine fc_M (fn := Tryz.f24) (C := (tab [(38, c_Cell t)] [] [5001])) (rs := [6]) mixed (by kernel_rfl) (by kernel_rfl) rfl rfl (by kernel_rfl) (by intro ys h; cases h) ?_
  unfold eMk
  simp +contextual (maxSteps := 5000000) only [go_sem, ↓reduceIte]
  refine M_join (fun _ : Unit => ⟨[(1, .int .i64 i), (2, .int .i64 k), (3, .loc 3 0), (7, .vec 15 d.B.length)], [(3, .blk (eMk t d) false), (15, .vec 9 1 (List.replicate d.B.length [.str []]) 0)]⟩) (fun _ => True) ?_ ?_
  · simp +contextual (maxSteps := 5000000) only [go_sem, ↓reduceIte, eMk]
    exact fun _ => ⟨by omega, fun _ => ⟨(), trivial⟩⟩
  intro _ _
  unfold eMk
  simp +contextual (maxSteps := 5000000) only [go_sem, ↓reduceIte]
  generalize hn : d.B.length = n at hB
  generalize hR : rowF t (toldM d) (fromM d.cols) n i k = R
  have hRl : R.length = n := by rw [← hR]; simp [rowF]
  have hRq : ∀ q, q < n → R.getD q [] = ceF t (toldM d) (fromM d.cols) i k q := fun q hq => by
    rw [← hR, List.getD_eq_getElem?_getD]
    unfold rowF
    rw [List.getElem?_map, List.getElem?_range hq]; rfl
  have hz : List.replicate n [D.str []] = (mixR R n 0).map eS := by
    unfold mixR
    rw [List.map_append, List.map_replicate]; simp [eS]
  rw [hz]
  clear hz hR
  refine M_loopI (fun q : Nat => ⟨[(1, .int .i64 i), (2, .int .i64 k), (3, .loc 3 0), (7, .vec 15 n), (17, .int .i64 n), (18, .int .i64 q)], [(3, .blk (eMk t d) false), (15, .vec 9 1 ((mixR R n q).map eS) 0)]⟩) (fun q => n - q) (fun q => q ≤ n) 0 ?_ ?_
  · simp +contextual (maxSteps := 5000000) only [go_sem, ↓reduceIte, eMk]
    rfl
  intro q hq
  have hml := mixR_len hRl hq
  by_cases hlt : q < n
  · have hset := mixR_set hRl hlt
    rw [hRq q hlt] at hset
    unfold ceF hasM at hset
    have hat := eS_at (mixR R n q) q (by omega)
    cases hb : ((toldM d).any fun x => decide (x.1 = (k, (q : Int)))) with
    | true =>
      rw [hb, if_pos rfl] at hset
      simp +contextual (maxSteps := 5000000) only [go_sem, ↓reduceIte, hlt, eMk, hb, eS_set, hat]
      exact ⟨hml, fun _ => ⟨hq, fun _ => ⟨inR64 (by omega) (by omega), fun _ => ⟨q + 1, ⟨by simp, by rw [hset]⟩, by omega, by omega⟩⟩⟩⟩
    | false =>
      rw [hb, if_neg (by simp)] at hset
      simp +contextual (maxSteps := 5000000) only [go_sem, ↓reduceIte, hlt, eMk, hb, eS_set, c_Cell, hs, eTb, hat]
      exact ⟨hml, fun _ => ⟨hq, fun _ => ⟨inR64 (by omega) (by omega), fun _ => ⟨q + 1, ⟨by simp, by rw [hset]⟩, by omega, by omega⟩⟩⟩⟩
  · obtain rfl : q = n := by omega
    simp +contextual (maxSteps := 5000000) only [go_sem, ↓reduceIte, hlt, Nat.lt_irrefl]
    have e : mixR R q q = R := by unfold mixR; rw [Nat.sub_self, List.take_of_length_le (by omega)]; simp
    rw [e]
    exact ⟨rfl, hRl⟩
end Go.Proofs.YtknkjakppikjeaaGreat
