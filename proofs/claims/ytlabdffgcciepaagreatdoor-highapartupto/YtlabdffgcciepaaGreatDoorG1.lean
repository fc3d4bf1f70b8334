/-
  What the functions compute that the law of this claim reaches. By an AI agent.
-/
import Derived.Test.YtlabdffgcciepaaGreatDoorG0
set_option linter.unusedSimpArgs false
set_option linter.unusedVariables false
set_option linter.unusedSectionVars false
namespace Go.Proofs.YtlabdffgcciepaaGreatDoor
open Go.Tn
set_option maxHeartbeats 8000000
set_option maxRecDepth 100000
def c_need (caps args : List D) : Prop × Out := match caps, args with | [], [.bool b, .int .i64 n] => (True, if b = true then .ret (.tup []) else .pan (.ifc 32 (.int .i64 n))) | _, _ => (False, .ret .any)
theorem fc_need1 (n : Int) : FC Tryz.prog 29 [] [.bool true, .int .i64 n] (.ret (.tup [])) := by
  refine fc_M (fn := Tryz.f29) (C := (tab [] [])) (rs := []) mixed (by kernel_rfl) (by kernel_rfl) rfl rfl (by kernel_rfl) (by intro ys h; cases h) ?_
  simp +contextual (maxSteps := 5000000) only [go_sem, ↓reduceIte]
theorem fc_need0 (n : Int) : FC Tryz.prog 29 [] [.bool false, .int .i64 n] (.pan (.ifc 32 (.int .i64 n))) := by
  refine fc_M (fn := Tryz.f29) (C := (tab [] [])) (rs := []) mixed (by kernel_rfl) (by kernel_rfl) rfl rfl (by kernel_rfl) (by intro ys h; cases h) ?_
  simp +contextual (maxSteps := 5000000) only [go_sem, ↓reduceIte]
theorem st_need : StC Tryz.prog 29 c_need := by
  intro caps args; unfold c_need; split
  · rename_i b n
    intro _
    cases b
    · exact fc_need0 n
    · exact fc_need1 n
  · exact fun h => h.elim
def cntS (l : List (List UInt8)) : List (List UInt8 × Int) := l.foldl (fun m k => gup m k (glk 0 m k + 1)) []
theorem cntS_take {l : List (List UInt8)} {i : Nat} (h : i < l.length) : cntS (l.take (i + 1)) = gup (cntS (l.take i)) (l.getD i []) (glk 0 (cntS (l.take i)) (l.getD i []) + 1) := by
  rw [List.take_add_one, List.getElem?_eq_getElem h, cntS, cntS, List.foldl_append, List.getD_eq_getElem?_getD, List.getElem?_eq_getElem h]; rfl
theorem cntS_bd (k : List UInt8) (l : List (List UInt8)) : ∀ i, i ≤ l.length → 0 ≤ glk 0 (cntS (l.take i)) k ∧ glk 0 (cntS (l.take i)) k ≤ i
  | 0, _ => by simp [cntS, glk]
  | i + 1, h => by
    obtain ⟨h1, h2⟩ := cntS_bd k l i (by omega)
    rw [cntS_take (by omega), glk_gup]
    split
    · rename_i e; rw [← e]; exact ⟨by omega, by omega⟩
    · exact ⟨h1, by omega⟩
def onceF (l : List (List UInt8)) : Bool := decide ((cntS l).length = l.length)
theorem fc_once (l : List (List UInt8)) (hl : l.length < 1000000000) : FC Tryz.prog 30 [] [.sl 1 (l.map eS)] (.ret (.bool (onceF l))) := by
  refine fc_M (fn := Tryz.f30) (C := (tab [] [])) (rs := [2]) mixed (by kernel_rfl) (by kernel_rfl) rfl rfl (by kernel_rfl) (by intro ys h; cases h) ?_
  simp +contextual (maxSteps := 5000000) only [go_sem, ↓reduceIte]
  refine fun _ => M_loopI (fun i : Nat => ⟨[(0, .sl 1 (l.map eS)), (3, .lmap 6), (7, .sl 1 (l.map eS)), (8, .int .i64 l.length), (9, .int .i64 i)], [(6, .mp ((cntS (l.take i)).map kS) ((cntS (l.take i)).map vS) false)]⟩) (fun i => l.length - i) (fun i => i ≤ l.length) 0 ?_ ?_
  · simp +contextual (maxSteps := 5000000) only [go_sem, ↓reduceIte, cntS, List.foldl_nil]
    rfl
  · intro i hi
    by_cases hlt : i < l.length
    · obtain ⟨h1, h2⟩ := cntS_bd (l.getD i []) l i hi
      simp +contextual (maxSteps := 5000000) only [go_sem, ↓reduceIte, eS_at, hlt]
      refine ⟨inR64 (by omega) (by omega), fun _ => ⟨inR64 (by omega) (by omega), fun _ => ⟨i + 1, ⟨by simp, ?_⟩, by omega, by omega⟩⟩⟩
      rw [cntS_take hlt]; exact ⟨rfl, rfl⟩
    · have : l.take i = l := List.take_of_length_le (by omega)
      rw [this]
      simp +contextual (maxSteps := 5000000) only [go_sem, ↓reduceIte, hlt]
      exact fun _ => rfl
def c_once (caps args : List D) : Prop × Out := match caps, args with | [], [.sl 1 rows] => (rows = (rows.map dS).map eS ∧ rows.length < 1000000000, .ret (.bool (onceF (rows.map dS)))) | _, _ => (False, .ret .any)
theorem st_once : StC Tryz.prog 30 c_once := by
  intro caps args; unfold c_once; split
  · rename_i rows
    rintro ⟨h1, h2⟩
    have := fc_once (rows.map dS) (by simpa using h2)
    rw [← h1] at this
    exact this
  · exact fun h => h.elim
structure St6 where
  i : Int
  j : Int
  p : Int
  q : Int
  o : List UInt8
  n : List UInt8
deriving DecidableEq, Inhabited
def eD6 (s : St6) : List D := [.int .i64 s.i, .int .i64 s.j, .int .i64 s.p, .int .i64 s.q, .str s.o, .str s.n]
def orF : List Int → Int
  | [] => 0
  | x :: r => if x = 0 then orF r else x
theorem orF_drop {l : List Int} {i : Nat} (h : i < l.length) : orF (l.drop i) = if l.getD i 0 = 0 then orF (l.drop (i + 1)) else l.getD i 0 := by
  rw [List.drop_eq_getElem_cons h, List.getD_eq_getElem?_getD, List.getElem?_eq_getElem h]; rfl
theorem fc_or (l : List Int) (hl : l.length < 1000000000) : FC Tryz.prog 90 [] [.sl 1 (l.map eI)] (.ret (.int .i64 (orF l))) := by
  refine fc_M (fn := Tryz.f90) (C := (tab [] [])) (rs := [2]) mixed (by kernel_rfl) (by kernel_rfl) rfl rfl (by kernel_rfl) (by intro ys h; cases h) ?_
  simp +contextual (maxSteps := 5000000) only [go_sem, ↓reduceIte]
  refine fun _ => M_loopI (fun i : Nat => ⟨[(3, .int .i64 0), (6, .sl 1 (l.map eI)), (7, .int .i64 l.length), (8, .int .i64 i)], []⟩) (fun i => l.length - i) (fun i => i ≤ l.length ∧ orF (l.drop i) = orF l) 0 ?_ ?_
  · simp +contextual (maxSteps := 5000000) only [go_sem, ↓reduceIte]
    simp
  · intro i hi
    obtain ⟨hi, ho⟩ := hi
    by_cases hlt : i < l.length
    · rw [orF_drop hlt] at ho
      by_cases h0 : l.getD i 0 = 0
      · rw [if_pos h0] at ho
        simp +contextual (maxSteps := 5000000) only [go_sem, ↓reduceIte, eI_at, hlt, h0]
        exact ⟨inR64 (by omega) (by omega), fun _ => ⟨i + 1, by simp, by omega, by omega, ho⟩⟩
      · rw [if_neg h0] at ho
        simp +contextual (maxSteps := 5000000) only [go_sem, ↓reduceIte, eI_at, hlt, h0]
        exact ho
    · rw [List.drop_of_length_le (by omega)] at ho
      simp +contextual (maxSteps := 5000000) only [go_sem, ↓reduceIte, hlt]
      exact ho
def c_or (caps args : List D) : Prop × Out := match caps, args with | [], [.sl 1 [[.int .i64 a], [.int .i64 b]]] => (True, .ret (.int .i64 (orF [a, b]))) | _, _ => (False, .ret .any)
theorem st_or : StC Tryz.prog 90 c_or := by
  intro caps args; unfold c_or; split
  · rename_i a b
    exact fun _ => fc_or [a, b] (by simp)
  · exact fun h => h.elim
def c_cmp (caps args : List D) : Prop × Out := match caps, args with | [], [.int .i64 a, .int .i64 b] => (True, .ret (.int .i64 (cmpI a b))) | _, _ => (False, .ret .any)
theorem st_cmp : StC Tryz.prog 91 c_cmp := by
  intro caps args; unfold c_cmp; split
  · exact fun _ => fc_cmp _ _
  · exact fun h => h.elim
def ordF (a b : St6) : Int := orF [cmpI a.j b.j, cmpI a.q b.q]
theorem fc_order (a b : St6) : FC Tryz.prog 43 [] [.agg (eD6 a), .agg (eD6 b)] (.ret (.int .i64 (ordF a b))) := by
  unfold eD6
  refine fc_M (fn := Tryz.f43) (C := (tab [(91, c_cmp), (90, c_or)] [])) (rs := [4]) mixed (by kernel_rfl) (by kernel_rfl) rfl rfl (by kernel_rfl) (by intro ys h; cases h) ?_
  simp +contextual (maxSteps := 5000000) only [go_sem, ↓reduceIte, c_cmp, st_cmp, c_or, st_or, ordF]
end Go.Proofs.YtlabdffgcciepaaGreatDoor
namespace Go.Proofs.YtlabdffgcciepaaGreatDoor
open Go.Tn
set_option maxHeartbeats 8000000
set_option maxRecDepth 100000
def fidx {α : Type} (q : α → Bool) : List α → Nat → Int
  | [], _ => -1
  | x :: r, k => if q x = true then (k : Int) else fidx q r (k + 1)
theorem fidx_at {α : Type} {q : α → Bool} {d : α} : ∀ {l : List α} {k i : Nat}, i < l.length → q (l.getD i d) = true → (∀ j, j < i → q (l.getD j d) = false) → fidx q l k = (k + i : Nat)
  | [], _, _, h, _, _ => by simp at h
  | x :: l, k, 0, _, h, _ => by simp [fidx] at h ⊢; simp [h]
  | x :: l, k, i + 1, h, h1, h2 => by
    have hy : q x = false := by simpa using h2 0 (by omega)
    simp only [fidx, hy, Bool.false_eq_true, if_false]
    rw [fidx_at (i := i) (by simpa using h) (by simpa using h1) (fun j hj => by simpa using h2 (j + 1) (by omega))]
    omega
theorem fidx_no {α : Type} {q : α → Bool} {d : α} : ∀ {l : List α} {k : Nat}, (∀ j, j < l.length → q (l.getD j d) = false) → fidx q l k = -1
  | [], _, _ => rfl
  | x :: l, k, h => by
    have hy : q x = false := by simpa using h 0 (by simp)
    simp only [fidx, hy, Bool.false_eq_true, if_false]
    exact fidx_no fun j hj => by simpa using h (j + 1) (by simpa using hj)
theorem fidx_nn {α : Type} {q : α → Bool} : ∀ {l : List α} {k : Nat}, (decide (0 ≤ fidx q l k)) = l.any q
  | [], _ => rfl
  | x :: l, k => by
    have e : fidx q (x :: l) k = if q x = true then (k : Int) else fidx q l (k + 1) := rfl
    by_cases hq : q x = true
    · rw [if_pos hq] at e
      rw [List.any_cons, hq, Bool.true_or]; exact decide_eq_true (by rw [e]; omega)
    · rw [if_neg hq] at e
      have hq' : q x = false := by simpa using hq
      rw [e, List.any_cons, hq', Bool.false_or]; exact fidx_nn
theorem fc_IndexI (l : List Int) (x : Int) (hl : l.length < 1000000000) : FC Tryz.prog 111 [] [.sl 1 (l.map eI), .int .i64 x] (.ret (.int .i64 (fidx (fun y => decide (x = y)) l 0))) := by
  refine fc_M (fn := Tryz.f111) (C := (tab [] [])) (rs := [4]) mixed (by kernel_rfl) (by kernel_rfl) rfl rfl (by kernel_rfl) (by intro ys h; cases h) ?_
  simp +contextual (maxSteps := 5000000) only [go_sem, ↓reduceIte]
  refine fun _ => M_loopI (fun i : Nat => ⟨[(0, .sl 1 (l.map eI)), (1, .int .i64 x), (6, .sl 1 (l.map eI)), (7, .int .i64 l.length), (8, .int .i64 i)], []⟩) (fun i => l.length - i) (fun i => i ≤ l.length ∧ ∀ j, j < i → decide (x = l.getD j 0) = false) 0 ?_ ?_
  · simp +contextual (maxSteps := 5000000) only [go_sem, ↓reduceIte]
    rfl
  · intro i hi
    obtain ⟨hi, hn⟩ := hi
    by_cases hlt : i < l.length
    · by_cases hq : x = l.getD i 0
      · simp +contextual (maxSteps := 5000000) only [go_sem, ↓reduceIte, hlt, eI_at, hq]
        rw [← hq, fidx_at (d := 0) hlt (by simpa using hq) hn]; simp
      · simp +contextual (maxSteps := 5000000) only [go_sem, ↓reduceIte, hlt, eI_at, hq]
        refine ⟨inR64 (by omega) (by omega), fun _ => ⟨i + 1, by simp, by omega, by omega, fun j hj => ?_⟩⟩
        rcases lt_cases hj with h | rfl
        · simpa using hn j h
        · simpa using hq
    · simp +contextual (maxSteps := 5000000) only [go_sem, ↓reduceIte, hlt]
      rw [fidx_no (d := 0) (fun j hj => hn j (by omega))]
def c_ixI (caps args : List D) : Prop × Out := match caps, args with | [], [.sl 1 rows, .int .i64 x] => (rows = (rows.map dI).map eI ∧ rows.length < 1000000000, .ret (.int .i64 (fidx (fun y => decide (x = y)) (rows.map dI) 0))) | _, _ => (False, .ret .any)
theorem st_ixI : StC Tryz.prog 111 c_ixI := by
  intro caps args; unfold c_ixI; split
  · rename_i rows x
    rintro ⟨h1, h2⟩
    have := fc_IndexI (rows.map dI) x (by simpa using h2)
    rw [← h1] at this
    exact this
  · exact fun h => h.elim
theorem any_eq {α : Type} [DecidableEq α] (x : α) (l : List α) : (l.any fun y => decide (x = y)) = decide (x ∈ l) := by
  induction l with
  | nil => rfl
  | cons y l ih => rw [List.any_cons, ih]; by_cases h : x = y <;> simp [h]
theorem fc_ContI (l : List Int) (x : Int) (hl : l.length < 1000000000) : FC Tryz.prog 88 [] [.sl 1 (l.map eI), .int .i64 x] (.ret (.bool (decide (x ∈ l)))) := by
  refine fc_M (fn := Tryz.f88) (C := (tab [(111, c_ixI)] [])) (rs := [4]) mixed (by kernel_rfl) (by kernel_rfl) rfl rfl (by kernel_rfl) (by intro ys h; cases h) ?_
  simp +contextual (maxSteps := 5000000) only [go_sem, ↓reduceIte, c_ixI, st_ixI, dI_eI]
  exact ⟨hl, by rw [← any_eq, ← fidx_nn (k := 0)]⟩
def c_contI (caps args : List D) : Prop × Out := match caps, args with | [], [.sl 1 rows, .int .i64 x] => (rows = (rows.map dI).map eI ∧ rows.length < 1000000000, .ret (.bool (decide (x ∈ rows.map dI)))) | _, _ => (False, .ret .any)
theorem st_contI : StC Tryz.prog 88 c_contI := by
  intro caps args; unfold c_contI; split
  · rename_i rows x
    rintro ⟨h1, h2⟩
    have := fc_ContI (rows.map dI) x (by simpa using h2)
    rw [← h1] at this
    exact this
  · exact fun h => h.elim
theorem fc_IndexP (l : List (Int × Int)) (x : Int × Int) (hl : l.length < 1000000000) : FC Tryz.prog 89 [] [.sl 2 (l.map eP), .agg [.int .i64 x.1, .int .i64 x.2]] (.ret (.int .i64 (fidx (fun y => decide (x = y)) l 0))) := by
  refine fc_M (fn := Tryz.f89) (C := (tab [] [])) (rs := [4]) mixed (by kernel_rfl) (by kernel_rfl) rfl rfl (by kernel_rfl) (by intro ys h; cases h) ?_
  simp +contextual (maxSteps := 5000000) only [go_sem, ↓reduceIte]
  refine fun _ => M_loopI (fun i : Nat => ⟨[(0, .sl 2 (l.map eP)), (3, .loc 3 0), (6, .sl 2 (l.map eP)), (7, .int .i64 l.length), (8, .int .i64 i)], [(3, .blk [.int .i64 x.1, .int .i64 x.2] false)]⟩) (fun i => l.length - i) (fun i => i ≤ l.length ∧ ∀ j, j < i → decide (x = l.getD j (0, 0)) = false) 0 ?_ ?_
  · simp +contextual (maxSteps := 5000000) only [go_sem, ↓reduceIte]
    rfl
  · intro i hi
    obtain ⟨hi, hn⟩ := hi
    by_cases hlt : i < l.length
    · by_cases hq : x = l.getD i (0, 0)
      · have h1 : x.1 = (l.getD i (0, 0)).1 := by rw [← hq]
        have h2 : x.2 = (l.getD i (0, 0)).2 := by rw [← hq]
        simp +contextual (maxSteps := 5000000) only [go_sem, ↓reduceIte, hlt, eP_at, h1, h2]
        rw [fidx_at (d := (0, 0)) hlt (by simpa using hq) hn]; simp
      · have h1 : ¬ (x.1 = (l.getD i (0, 0)).1 ∧ x.2 = (l.getD i (0, 0)).2) := fun h => hq (Prod.ext h.1 h.2)
        simp +contextual (maxSteps := 5000000) only [go_sem, ↓reduceIte, hlt, eP_at, h1]
        refine ⟨inR64 (by omega) (by omega), fun _ => ⟨i + 1, by simp, by omega, by omega, fun j hj => ?_⟩⟩
        rcases lt_cases hj with h | rfl
        · simpa using hn j h
        · exact hq
    · simp +contextual (maxSteps := 5000000) only [go_sem, ↓reduceIte, hlt]
      rw [fidx_no (d := (0, 0)) (fun j hj => hn j (by omega))]
def c_ixP (caps args : List D) : Prop × Out := match caps, args with | [], [.sl 2 rows, .agg [.int .i64 x, .int .i64 y]] => (rows = (rows.map dP).map eP ∧ rows.length < 1000000000, .ret (.int .i64 (fidx (fun z => decide ((x, y) = z)) (rows.map dP) 0))) | _, _ => (False, .ret .any)
theorem st_ixP : StC Tryz.prog 89 c_ixP := by
  intro caps args; unfold c_ixP; split
  · rename_i rows x y
    rintro ⟨h1, h2⟩
    have := fc_IndexP (rows.map dP) (x, y) (by simpa using h2)
    rw [← h1] at this
    exact this
  · exact fun h => h.elim
theorem fc_ContP (l : List (Int × Int)) (x : Int × Int) (hl : l.length < 1000000000) : FC Tryz.prog 42 [] [.sl 2 (l.map eP), .agg [.int .i64 x.1, .int .i64 x.2]] (.ret (.bool (decide (x ∈ l)))) := by
  refine fc_M (fn := Tryz.f42) (C := (tab [(89, c_ixP)] [])) (rs := [4]) mixed (by kernel_rfl) (by kernel_rfl) rfl rfl (by kernel_rfl) (by intro ys h; cases h) ?_
  simp +contextual (maxSteps := 5000000) only [go_sem, ↓reduceIte, c_ixP, st_ixP, dP_eP]
  refine ⟨hl, ?_⟩
  rw [fidx_nn, Bool.eq_iff_iff]
  simp [List.any_eq_true]
def c_contP (caps args : List D) : Prop × Out := match caps, args with | [], [.sl 2 rows, .agg [.int .i64 x, .int .i64 y]] => (rows = (rows.map dP).map eP ∧ rows.length < 1000000000, .ret (.bool (decide ((x, y) ∈ rows.map dP)))) | _, _ => (False, .ret .any)
theorem st_contP : StC Tryz.prog 42 c_contP := by
  intro caps args; unfold c_contP; split
  · rename_i rows x y
    rintro ⟨h1, h2⟩
    have := fc_ContP (rows.map dP) (x, y) (by simpa using h2)
    rw [← h1] at this
    exact this
  · exact fun h => h.elim
def wiF (l : List Int) (n : Nat) : List Int := rsL l n
theorem fc_within (l : List Int) (n : Int) (hl : l.length < 1000000000) (hn : n ≤ 1000000000) : FC Tryz.prog 41 [] [.sl 1 (l.map eI), .int .i64 n] (.own 3 1 ((wiF l n.toNat).map eI)) := by
  unfold wiF
  refine fc_M (fn := Tryz.f41) (C := (tab [(88, c_contI)] [])) (rs := [4]) mixed (by kernel_rfl) (by kernel_rfl) rfl rfl (by kernel_rfl) (by intro ys h; cases h) ?_
  simp +contextual (maxSteps := 5000000) only [go_sem, ↓reduceIte]
  refine M_loopI (fun s : Nat => ⟨[(0, .sl 1 (l.map eI)), (5, .vec 18 (rsL l s).length), (7, .int .i64 n), (8, .int .i64 s)], [(18, .vec 3 1 ((rsL l s).map eI) 0)]⟩) (fun i => n.toNat - i) (fun i => i ≤ n.toNat) 0 ?_ ?_
  · simp +contextual (maxSteps := 5000000) only [go_sem, ↓reduceIte, rsL, List.range_zero, List.filter_nil]
    rfl
  · intro i hi
    have hlen := rsL_len l i
    have hs := rsL_succ l i
    by_cases hlt : (i : Int) < n
    · by_cases h0 : (i : Int) ∈ l
      · rw [if_neg (by simpa using h0), List.append_nil] at hs
        simp +contextual (maxSteps := 5000000) only [go_sem, ↓reduceIte, hlt, h0, c_contI, st_contI, dI_eI]
        refine ⟨hl, inR64 (by omega) (by omega), fun _ => ⟨i + 1, ⟨⟨by rw [hs], by simp⟩, by rw [hs]⟩, by omega, by omega⟩⟩
      · rw [if_pos h0] at hs
        simp +contextual (maxSteps := 5000000) only [go_sem, ↓reduceIte, hlt, h0, c_contI, st_contI, dI_eI]
        refine ⟨hl, by omega, fun _ => ⟨inR64 (by omega) (by omega), fun _ => ⟨i + 1, ⟨⟨by rw [hs]; simp, by simp⟩, by rw [hs]; simp [eI]⟩, by omega, by omega⟩⟩⟩
    · simp +contextual (maxSteps := 5000000) only [go_sem, ↓reduceIte, hlt]
      rw [show i = n.toNat by omega]
def c_within (caps args : List D) : Prop × Out := match caps, args with | [], [.sl 1 rows, .int .i64 n] => (rows = (rows.map dI).map eI ∧ rows.length < 1000000000 ∧ n ≤ 1000000000, .own 3 1 ((wiF (rows.map dI) n.toNat).map eI)) | _, _ => (False, .ret .any)
theorem st_within : StC Tryz.prog 41 c_within := by
  intro caps args; unfold c_within; split
  · rename_i rows n
    rintro ⟨h1, h2, h3⟩
    have := fc_within (rows.map dI) n (by simpa using h2) h3
    rw [← h1] at this
    exact this
  · exact fun h => h.elim
end Go.Proofs.YtlabdffgcciepaaGreatDoor
namespace Go.Proofs.YtlabdffgcciepaaGreatDoor
open Go.Tn
set_option maxHeartbeats 8000000
set_option maxRecDepth 100000
abbrev Ln := Int × List (List UInt8)
abbrev Sp := Int × Int × List UInt8
def eL (x : Ln) : List D := [.int .i64 x.1, .sl 1 (x.2.map eS)]
def eSp (x : Sp) : List D := [.int .i64 x.1, .int .i64 x.2.1, .str x.2.2]
theorem eL_at (l : List Ln) (i : Nat) (h : i < l.length) : (l.map eL).getD i [] = [.int .i64 (l.getD i (0, [])).1, .sl 1 ((l.getD i (0, [])).2.map eS)] := at_of eL (0, []) l i h
theorem eSp_at (l : List Sp) (i : Nat) (h : i < l.length) : (l.map eSp).getD i [] = [.int .i64 (l.getD i (0, 0, [])).1, .int .i64 (l.getD i (0, 0, [])).2.1, .str (l.getD i (0, 0, [])).2.2] := at_of eSp (0, 0, []) l i h
def eYs (x : Int × Int) : List D := [.agg [.int .i64 x.1, .int .i64 x.2, .str []]]
theorem yl_gen {α : Type} {e : α → List D} {L : List α} {i : Nat} {d : α} (h : i < L.length) : (∃ r, L.map e = (L.take i).map e ++ e (L.getD i d) :: r) ∧ (L.take i).map e ++ [e (L.getD i d)] = (L.take (i + 1)).map e := by
  rw [List.getD_eq_getElem?_getD, List.getElem?_eq_getElem h, Option.getD_some]
  constructor
  · refine ⟨(L.drop (i + 1)).map e, ?_⟩
    rw [← List.map_cons, ← List.map_append, List.getElem_cons_drop, List.take_append_drop]
  · rw [List.take_add_one, List.getElem?_eq_getElem h, List.map_append]; rfl
def c_Values (caps args : List D) : Prop × Out := match caps, args with | [], [.sl 1 rows] => (True, .ret (.fn 86 [] [.box [.sl 1 rows]])) | _, _ => (False, .ret .any)
theorem st_Values : StC Tryz.prog 37 c_Values := by
  intro caps args; unfold c_Values; split
  · rename_i rows
    intro _
    refine fc_M (fn := Tryz.f37) (C := (tab [] [])) (rs := [2]) mixed (by kernel_rfl) (by kernel_rfl) rfl rfl (by kernel_rfl) (by intro ys h; cases h) ?_
    simp +contextual (maxSteps := 5000000) only [go_sem, ↓reduceIte]
  · exact fun h => h.elim
theorem fc_Values1 (l : List Int) (hl : l.length < 1000000000) : FC Tryz.prog 86 [.box [.sl 1 (l.map eI)]] [] (.seq (l.map eI)) := by
  refine fcy_M (fn := Tryz.f86) (C := (tab [] [])) mixed (by kernel_rfl) (by kernel_rfl) rfl rfl (by kernel_rfl) (by kernel_rfl) ?_
  simp +contextual (maxSteps := 5000000) only [go_sem, ↓reduceIte]
  refine fun _ => M_loopI (fun i : Nat => ⟨[(0, .yld 999), (5, .sl 1 (l.map eI)), (6, .int .i64 l.length), (7, .int .i64 i)], [(999, .yl (l.map eI) ((l.take i).map eI) false)]⟩) (fun i => l.length - i) (fun i => i ≤ l.length) 0 ?_ ?_
  · simp +contextual (maxSteps := 5000000) only [go_sem, ↓reduceIte]
    rfl
  · intro i hi
    by_cases hlt : i < l.length
    · obtain ⟨q1, q2⟩ := yl_gen (e := eI) (d := 0) hlt
      simp +contextual (maxSteps := 5000000) only [go_sem, ↓reduceIte, eI_at, hlt]
      exact ⟨q1, fun b hb => ⟨inR64 (by omega) (by omega), fun _ => ⟨i + 1, ⟨by simp, q2⟩, by omega, by omega⟩⟩⟩
    · simp +contextual (maxSteps := 5000000) only [go_sem, ↓reduceIte, hlt]
      rw [show i = l.length by omega, List.take_length]
def c_Values1 (caps args : List D) : Prop × Out := match caps, args with | [.box [.sl 1 rows]], [] => (rows = (rows.map dI).map eI ∧ rows.length < 1000000000, .seq ((rows.map dI).map eI)) | _, _ => (False, .ret .any)
theorem st_Values1 : StC Tryz.prog 86 c_Values1 := by
  intro caps args; unfold c_Values1; split
  · rename_i rows
    rintro ⟨h1, h2⟩
    have := fc_Values1 (rows.map dI) (by simpa using h2)
    rw [← h1] at this ⊢
    exact this
  · exact fun h => h.elim
def c_cross (caps args : List D) : Prop × Out := match caps, args with | [], [.sl 1 r1, .sl 1 r2] => (True, .ret (.fn 87 [] [.box [.sl 1 r1], .box [.sl 1 r2]])) | _, _ => (False, .ret .any)
theorem st_cross : StC Tryz.prog 40 c_cross := by
  intro caps args; unfold c_cross; split
  · rename_i rows
    intro _
    refine fc_M (fn := Tryz.f40) (C := (tab [] [])) (rs := [4]) mixed (by kernel_rfl) (by kernel_rfl) rfl rfl (by kernel_rfl) (by intro ys h; cases h) ?_
    simp +contextual (maxSteps := 5000000) only [go_sem, ↓reduceIte]
  · exact fun h => h.elim
def crF (a b : List Int) : List (Int × Int) := a.flatMap fun i => b.map fun p => (i, p)
def crD (a b : List Int) (i p : Nat) : List (Int × Int) := crF (a.take i) b ++ (b.take p).map fun q => (a.getD i 0, q)
theorem take_succ_of {l : List Int} {i : Nat} (h : i < l.length) : l.take (i + 1) = l.take i ++ [l.getD i 0] := by
  rw [List.take_add_one, List.getElem?_eq_getElem h, List.getD_eq_getElem?_getD, List.getElem?_eq_getElem h]; rfl
theorem crD_step {a b : List Int} {i p : Nat} (hi : i < a.length) (hp : p < b.length) : (∃ r, (crF a b).map eYs = (crD a b i p).map eYs ++ eYs (a.getD i 0, b.getD p 0) :: r) ∧ (crD a b i p).map eYs ++ [eYs (a.getD i 0, b.getD p 0)] = (crD a b i (p + 1)).map eYs := by
  have hb : b = b.take p ++ b.getD p 0 :: b.drop (p + 1) := by
    rw [List.getD_eq_getElem?_getD, List.getElem?_eq_getElem hp, Option.getD_some, List.getElem_cons_drop, List.take_append_drop]
  have ha : a = a.take i ++ a.getD i 0 :: a.drop (i + 1) := by
    rw [List.getD_eq_getElem?_getD, List.getElem?_eq_getElem hi, Option.getD_some, List.getElem_cons_drop, List.take_append_drop]
  constructor
  · refine ⟨((b.drop (p + 1)).map (fun q => (a.getD i 0, q)) ++ crF (a.drop (i + 1)) b).map eYs, ?_⟩
    rw [← List.map_cons, ← List.map_append]
    congr 1
    have h1 : crF a b = crF (a.take i) b ++ (b.map fun q => (a.getD i 0, q)) ++ crF (a.drop (i + 1)) b := by
      conv => lhs; rw [ha]
      simp [crF]
    have h2 : (b.map fun q => (a.getD i 0, q)) = (b.take p).map (fun q => (a.getD i 0, q)) ++ (a.getD i 0, b.getD p 0) :: (b.drop (p + 1)).map (fun q => (a.getD i 0, q)) := by
      conv => lhs; rw [hb]
      simp
    rw [h1, h2, crD]
    simp
  · unfold crD
    rw [take_succ_of hp, List.map_append (l₁ := b.take p), ← List.append_assoc, List.map_append (l₂ := List.map _ [b.getD p 0])]; rfl
theorem crD_end {a b : List Int} {i : Nat} (hi : i < a.length) : crD a b i b.length = crD a b (i + 1) 0 := by
  unfold crD
  rw [List.take_length, take_succ_of hi]
  simp [crF, List.flatMap_append]
theorem fc_cross1 (a b : List Int) (ha : a.length < 1000000000) (hb : b.length < 1000000000) : FC Tryz.prog 87 [.box [.sl 1 (a.map eI)], .box [.sl 1 (b.map eI)]] [] (.seq ((crF a b).map eYs)) := by
  refine fcy_M (fn := Tryz.f87) (C := (tab [] [])) mixed (by kernel_rfl) (by kernel_rfl) rfl rfl (by kernel_rfl) (by kernel_rfl) ?_
  simp +contextual (maxSteps := 5000000) only [go_sem, ↓reduceIte]
  refine fun _ => M_loopI (fun i : Nat => ⟨[(0, .yld 999), (2, .box [.sl 1 (b.map eI)]), (8, .sl 1 (a.map eI)), (9, .int .i64 a.length), (10, .int .i64 i)], [(999, .yl ((crF a b).map eYs) ((crD a b i 0).map eYs) false)]⟩) (fun i => a.length - i) (fun i => i ≤ a.length) 0 ?_ ?_
  · simp +contextual (maxSteps := 5000000) only [go_sem, ↓reduceIte, crD, crF, List.flatMap_nil]
    rfl
  · intro i hi
    by_cases hlt : i < a.length
    · simp +contextual (maxSteps := 5000000) only [go_sem, ↓reduceIte, eI_at, hlt]
      refine fun _ => M_loopI (fun p : Nat => ⟨[(0, .yld 999), (2, .box [.sl 1 (b.map eI)]), (5, .int .i64 (a.getD i 0)), (8, .sl 1 (a.map eI)), (9, .int .i64 a.length), (10, .int .i64 i), (14, .sl 1 (b.map eI)), (15, .int .i64 b.length), (16, .int .i64 p)], [(999, .yl ((crF a b).map eYs) ((crD a b i p).map eYs) false)]⟩) (fun p => b.length - p) (fun p => p ≤ b.length) 0 ?_ ?_
      · simp +contextual (maxSteps := 5000000) only [go_sem, ↓reduceIte]
        rfl
      · intro p hp
        by_cases hlp : p < b.length
        · obtain ⟨q1, q2⟩ := crD_step hlt hlp
          simp +contextual (maxSteps := 5000000) only [go_sem, ↓reduceIte, eI_at, hlp]
          exact ⟨q1, fun b hb => ⟨inR64 (by omega) (by omega), fun _ => ⟨p + 1, ⟨by simp, q2⟩, by omega, by omega⟩⟩⟩
        · simp +contextual (maxSteps := 5000000) only [go_sem, ↓reduceIte, hlp]
          have he := crD_end (b := b) hlt
          rw [show p = b.length by omega]
          refine ⟨inR64 (by omega) (by omega), fun _ => ⟨i + 1, ⟨by simp, by rw [he]⟩, by omega, by omega⟩⟩
    · simp +contextual (maxSteps := 5000000) only [go_sem, ↓reduceIte, hlt]
      rw [show i = a.length by omega]
      simp [crD, crF]
def c_cross1 (caps args : List D) : Prop × Out := match caps, args with | [.box [.sl 1 r1], .box [.sl 1 r2]], [] => ((r1 = (r1.map dI).map eI ∧ r1.length < 1000000000) ∧ r2 = (r2.map dI).map eI ∧ r2.length < 1000000000, .seq ((crF (r1.map dI) (r2.map dI)).map eYs)) | _, _ => (False, .ret .any)
theorem st_cross1 : StC Tryz.prog 87 c_cross1 := by
  intro caps args; unfold c_cross1; split
  · rename_i r1 r2
    rintro ⟨⟨h1, h2⟩, h3, h4⟩
    have := fc_cross1 (r1.map dI) (r2.map dI) (by simpa using h2) (by simpa using h4)
    rw [← h1, ← h3] at this
    exact this
  · exact fun h => h.elim
def c_whole (caps args : List D) : Prop × Out := match caps, args with | [], [.int .i64 w] => (True, .ret (.fn 35 [] [.box [.int .i64 w]])) | _, _ => (False, .ret .any)
theorem st_whole : StC Tryz.prog 34 c_whole := by
  intro caps args; unfold c_whole; split
  · intro _
    refine fc_M (fn := Tryz.f34) (C := (tab [] [])) (rs := [2]) mixed (by kernel_rfl) (by kernel_rfl) rfl rfl (by kernel_rfl) (by intro ys h; cases h) ?_
    simp +contextual (maxSteps := 5000000) only [go_sem, ↓reduceIte]
  · exact fun h => h.elim
def c_isL (caps args : List D) : Prop × Out := match caps, args with | [.box [.int .i64 w]], [.agg [.int .i64 x, .sl 1 rows], .int .i64 k] => (True, .ret (.bool (decide (x = k ∧ (rows.length : Int) = w)))) | _, _ => (False, .ret .any)
theorem st_isL : StC Tryz.prog 35 c_isL := by
  intro caps args; unfold c_isL; split
  · rename_i w x rows k
    intro _
    refine fc_M (fn := Tryz.f35) (C := (tab [] [])) (rs := [5]) mixed (by kernel_rfl) (by kernel_rfl) rfl rfl (by kernel_rfl) (by intro ys h; cases h) ?_
    by_cases h : x = k
    · simp +contextual (maxSteps := 5000000) only [go_sem, ↓reduceIte, h]
    · simp +contextual (maxSteps := 5000000) only [go_sem, ↓reduceIte, h]
  · exact fun h => h.elim
def c_isS (caps args : List D) : Prop × Out := match caps, args with | [], [.agg [.int .i64 x, .int .i64 y, .str _], .agg [.int .i64 a, .int .i64 b, .str _]] => (True, .ret (.bool (decide (x = a ∧ y = b)))) | _, _ => (False, .ret .any)
theorem st_isS : StC Tryz.prog 38 c_isS := by
  intro caps args; unfold c_isS; split
  · rename_i x y _ a b _
    intro _
    refine fc_M (fn := Tryz.f38) (C := (tab [] [])) (rs := [4]) mixed (by kernel_rfl) (by kernel_rfl) rfl rfl (by kernel_rfl) (by intro ys h; cases h) ?_
    by_cases h : x = a
    · simp +contextual (maxSteps := 5000000) only [go_sem, ↓reduceIte, h]
    · simp +contextual (maxSteps := 5000000) only [go_sem, ↓reduceIte, h]
  · exact fun h => h.elim
end Go.Proofs.YtlabdffgcciepaaGreatDoor
namespace Go.Proofs.YtlabdffgcciepaaGreatDoor
open Go.Tn
set_option maxHeartbeats 8000000
set_option maxRecDepth 100000
theorem z0 : ((0 : Nat) : Int) = 0 := rfl
theorem pz (n : Nat) : ((0 : Int) < ((n + 1 : Nat) : Int)) = True := eq_true (by omega)
def mtF {α β : Type} (q : α → β → Bool) : List α → List β → Bool
  | [], [] => true
  | x :: l, y :: r => q x y && mtF q l r
  | _, _ => false
def mtO (b : Bool) : Out := if b = true then .ret (.tup []) else .pan (.ifc 32 (.int .i64 13))
def isL (w : Int) (x : Ln) (k : Int) : Bool := decide (x.1 = k ∧ (x.2.length : Int) = w)
theorem fc_matchL (l : List Ln) (w : Int) (ks : List Int) (hl : l.length < 1000000000) (hk : ks.length < 1000000000) :
    FC Tryz.prog 36 [] [.sl 2 (l.map eL), .fn 86 [] [.box [.sl 1 (ks.map eI)]], .fn 35 [] [.box [.int .i64 w]]] (mtO (mtF (isL w) l ks)) := by
  have hns : ∀ ys, mtO (mtF (isL w) l ks) ≠ .seq ys := by intro ys; unfold mtO; split <;> intro h <;> cases h
  refine fc_M (fn := Tryz.f36) (C := tab [(86, c_Values1), (35, c_isL), (29, c_need)] [] [9003]) (rs := []) mixed (by kernel_rfl) (by kernel_rfl) rfl rfl (by kernel_rfl) hns ?_
  simp +contextual (maxSteps := 5000000) only [go_sem, ↓reduceIte]
  refine M_range (f := 86) (caps := [.box [.sl 1 (ks.map eI)]]) (ys := ks.map eI) (pre := (c_Values1 [.box [.sl 1 (ks.map eI)]] []).1) ?_ ?_ ?_ (σ := List Ln) [(3, .loc 3 0), (5, .loc 5 0)] (fun j s => [(3, .blk [.sl 2 (s.map eL)] false), (5, .blk [.fn 35 [] [.box [.int .i64 w]]] false)]) (fun j s => j ≤ ks.length ∧ s.length < 1000000000 ∧ mtF (isL w) s (ks.drop j) = mtF (isL w) l ks) l ?_ ?_ ?_ ?_
  · simp +contextual (maxSteps := 5000000) only [go_sem, ↓reduceIte]
  · simp +contextual (maxSteps := 5000000) only [go_sem, ↓reduceIte, c_Values1, dI_eI]
  · simp +contextual (maxSteps := 5000000) only [go_sem, ↓reduceIte, c_Values1, st_Values1, dI_eI]
    exact hk
  · simp +contextual (maxSteps := 5000000) only [go_sem, ↓reduceIte]
    intro y hy
    obtain ⟨x, _, rfl⟩ := List.mem_map.1 hy
    rfl
  · simp +contextual (maxSteps := 5000000) only [go_sem, ↓reduceIte]
    exact hl
  · intro j s hj hlt2
    obtain ⟨hj, hs, hm⟩ := hj
    have hlt3 : j < ks.length := by simpa using hlt2
    have hY : (ks.map eI).getD j [] = [.int .i64 (ks.getD j 0)] := eI_at ks j hlt3
    have hd : ks.drop j = ks.getD j 0 :: ks.drop (j + 1) := by
      rw [List.drop_eq_getElem_cons hlt3, List.getD_eq_getElem?_getD, List.getElem?_eq_getElem hlt3]; rfl
    rw [hd] at hm
    rw [hY]
    cases s with
    | nil =>
      simp +contextual (maxSteps := 5000000) only [go_sem, ↓reduceIte, putPs, c_need, st_need, z0, Int.lt_irrefl, Int.toNat_zero, Int.reduceToNat, Nat.sub_zero, Nat.le_refl]
      refine ⟨?_, ?_⟩
      · show lastA _ = true
        kernel_rfl
      · rw [← hm]; rfl
    | cons x r =>
      simp +contextual (maxSteps := 5000000) only [go_sem, ↓reduceIte, putPs, c_need, st_need, c_isL, st_isL, eL, pz, Int.toNat_zero, Int.reduceToNat, Nat.sub_zero, Nat.le_refl]
      refine ⟨?_, Int.le_refl _, fun _ => ?_⟩
      · show lastA _ = true
        kernel_rfl
      simp only [List.length_cons] at hs
      split
      · rename_i hq
        refine ⟨⟨by omega, by omega⟩, fun _ => ⟨r, List.take_of_length_le (by simp), by omega, by omega, ?_⟩⟩
        rw [← hm]
        have : isL w x (ks.getD j 0) = true := decide_eq_true hq
        simp only [mtF, this, Bool.true_and]
      · rename_i hq
        rw [← hm]
        have : isL w x (ks.getD j 0) = false := decide_eq_false hq
        simp only [mtF, this, mtO, Bool.false_and, Bool.false_eq_true, if_false]
  · intro s hs
    simp +contextual (maxSteps := 5000000) only [go_sem, ↓reduceIte, c_need, st_need]
    intro _
    obtain ⟨_, _, hm⟩ := hs
    rw [List.length_map, List.drop_length] at hm
    split
    · rename_i h0
      have : s = [] := List.eq_nil_of_length_eq_zero (by omega)
      subst this
      rw [← hm]; simp [mtF, mtO, wk, wkL]
    · rename_i h0
      rw [← hm]
      cases s with
      | nil => simp at h0
      | cons x r => simp [mtF, mtO]
def isS (x : Sp) (k : Int × Int) : Bool := decide (x.1 = k.1 ∧ x.2.1 = k.2)
theorem fc_matchS (l : List Sp) (a b : List Int) (hl : l.length < 1000000000) (ha : a.length < 1000000000) (hb : b.length < 1000000000) :
    FC Tryz.prog 39 [] [.sl 3 (l.map eSp), .fn 87 [] [.box [.sl 1 (a.map eI)], .box [.sl 1 (b.map eI)]], .fn 38 [] []] (mtO (mtF isS l (crF a b))) := by
  have hns : ∀ ys, mtO (mtF isS l (crF a b)) ≠ .seq ys := by intro ys; unfold mtO; split <;> intro h <;> cases h
  refine fc_M (fn := Tryz.f39) (C := tab [(87, c_cross1), (38, c_isS), (29, c_need)] [] [9003]) (rs := []) mixed (by kernel_rfl) (by kernel_rfl) rfl rfl (by kernel_rfl) hns ?_
  simp +contextual (maxSteps := 5000000) only [go_sem, ↓reduceIte]
  refine M_range (f := 87) (caps := [.box [.sl 1 (a.map eI)], .box [.sl 1 (b.map eI)]]) (ys := (crF a b).map eYs) (pre := (c_cross1 [.box [.sl 1 (a.map eI)], .box [.sl 1 (b.map eI)]] []).1) ?_ ?_ ?_ (σ := List Sp) [(3, .loc 3 0), (5, .loc 5 0)] (fun j s => [(3, .blk [.sl 3 (s.map eSp)] false), (5, .blk [.fn 38 [] []] false)]) (fun j s => j ≤ (crF a b).length ∧ s.length < 1000000000 ∧ mtF isS s ((crF a b).drop j) = mtF isS l (crF a b)) l ?_ ?_ ?_ ?_
  · simp +contextual (maxSteps := 5000000) only [go_sem, ↓reduceIte]
  · simp +contextual (maxSteps := 5000000) only [go_sem, ↓reduceIte, c_cross1, dI_eI]
  · simp +contextual (maxSteps := 5000000) only [go_sem, ↓reduceIte, c_cross1, st_cross1, dI_eI]
    exact ⟨ha, hb⟩
  · simp +contextual (maxSteps := 5000000) only [go_sem, ↓reduceIte]
    intro y hy
    obtain ⟨x, _, rfl⟩ := List.mem_map.1 hy
    rfl
  · simp +contextual (maxSteps := 5000000) only [go_sem, ↓reduceIte]
    exact hl
  · intro j s hj hlt2
    obtain ⟨hj, hs, hm⟩ := hj
    have hlt3 : j < (crF a b).length := by simpa using hlt2
    have hY : ((crF a b).map eYs).getD j [] = eYs ((crF a b).getD j (0, 0)) := at_of eYs (0, 0) _ j hlt3
    have hd : (crF a b).drop j = (crF a b).getD j (0, 0) :: (crF a b).drop (j + 1) := by
      rw [List.drop_eq_getElem_cons hlt3, List.getD_eq_getElem?_getD, List.getElem?_eq_getElem hlt3]; rfl
    rw [hd] at hm
    rw [hY]
    unfold eYs
    cases s with
    | nil =>
      simp +contextual (maxSteps := 5000000) only [go_sem, ↓reduceIte, putPs, c_need, st_need, z0, Int.lt_irrefl, Int.toNat_zero, Int.reduceToNat, Nat.sub_zero, Nat.le_refl]
      refine ⟨?_, ?_⟩
      · show lastA _ = true
        kernel_rfl
      · rw [← hm]; rfl
    | cons x r =>
      simp +contextual (maxSteps := 5000000) only [go_sem, ↓reduceIte, putPs, c_need, st_need, c_isS, st_isS, eSp, pz, Int.toNat_zero, Int.reduceToNat, Nat.sub_zero, Nat.le_refl]
      refine ⟨?_, Int.le_refl _, fun _ => ?_⟩
      · show lastA _ = true
        kernel_rfl
      simp only [List.length_cons] at hs
      split
      · rename_i hq
        refine ⟨⟨by omega, by omega⟩, fun _ => ⟨r, List.take_of_length_le (by simp), by omega, by omega, ?_⟩⟩
        rw [← hm]
        have : isS x ((crF a b).getD j (0, 0)) = true := decide_eq_true hq
        simp only [mtF, this, Bool.true_and]
      · rename_i hq
        rw [← hm]
        have : isS x ((crF a b).getD j (0, 0)) = false := decide_eq_false hq
        simp only [mtF, this, mtO, Bool.false_and, Bool.false_eq_true, if_false]
  · intro s hs
    simp +contextual (maxSteps := 5000000) only [go_sem, ↓reduceIte, c_need, st_need]
    intro _
    obtain ⟨_, _, hm⟩ := hs
    rw [List.length_map, List.drop_length] at hm
    split
    · rename_i h0
      have : s = [] := List.eq_nil_of_length_eq_zero (by omega)
      subst this
      rw [← hm]; simp [mtF, mtO, wk, wkL]
    · rename_i h0
      rw [← hm]
      cases s with
      | nil => simp at h0
      | cons x r => simp [mtF, mtO]
end Go.Proofs.YtlabdffgcciepaaGreatDoor
namespace Go.Proofs.YtlabdffgcciepaaGreatDoor
open Go.Tn
set_option maxHeartbeats 8000000
set_option maxRecDepth 100000
theorem fc_GrowS (n : Int) (h0 : 0 ≤ n) (hb : n < 1099511627776) : FC Tryz.prog 98 [] [.nil, .int .i64 n] (.own 9 1 []) := by
  refine fc_M (fn := Tryz.f98) (C := (tab [] [])) (rs := [4]) mixed (by kernel_rfl) (by kernel_rfl) rfl rfl (by kernel_rfl) (by intro ys h; cases h) ?_
  have h1 : ¬ n < 0 := by omega
  by_cases h2 : 0 < n
  · simp +contextual (maxSteps := 5000000) only [go_sem, ↓reduceIte, h1, h2, Int.sub_self, Int.sub_zero, Int.toNat_zero, Int.reduceToNat, Nat.sub_zero, Nat.le_refl]
    refine ⟨inR64 (by omega) (by omega), fun _ => ⟨inR64 (by omega) (by omega), fun _ => ⟨by omega, fun _ => ?_⟩⟩⟩
    omega
  · simp +contextual (maxSteps := 5000000) only [go_sem, ↓reduceIte, h1, h2, Int.sub_self, Int.sub_zero, Int.toNat_zero, Int.reduceToNat, Nat.sub_zero, Nat.le_refl]
    exact ⟨inR64 (by omega) (by omega), fun _ => inR64 (by omega) (by omega)⟩
theorem fc_GrowL (n : Int) (h0 : 0 ≤ n) (hb : n < 1099511627776) : FC Tryz.prog 113 [] [.nil, .int .i64 n] (.own 44 2 []) := by
  refine fc_M (fn := Tryz.f113) (C := (tab [] [])) (rs := [4]) mixed (by kernel_rfl) (by kernel_rfl) rfl rfl (by kernel_rfl) (by intro ys h; cases h) ?_
  have h1 : ¬ n < 0 := by omega
  by_cases h2 : 0 < n
  · simp +contextual (maxSteps := 5000000) only [go_sem, ↓reduceIte, h1, h2, Int.sub_self, Int.sub_zero, Int.toNat_zero, Int.reduceToNat, Nat.sub_zero, Nat.le_refl]
    refine ⟨inR64 (by omega) (by omega), fun _ => ⟨inR64 (by omega) (by omega), fun _ => ⟨by omega, fun _ => ?_⟩⟩⟩
    omega
  · simp +contextual (maxSteps := 5000000) only [go_sem, ↓reduceIte, h1, h2, Int.sub_self, Int.sub_zero, Int.toNat_zero, Int.reduceToNat, Nat.sub_zero, Nat.le_refl]
    exact ⟨inR64 (by omega) (by omega), fun _ => inR64 (by omega) (by omega)⟩
theorem fc_GrowP (n : Int) (h0 : 0 ≤ n) (hb : n < 1099511627776) : FC Tryz.prog 114 [] [.nil, .int .i64 n] (.own 77 3 []) := by
  refine fc_M (fn := Tryz.f114) (C := (tab [] [])) (rs := [4]) mixed (by kernel_rfl) (by kernel_rfl) rfl rfl (by kernel_rfl) (by intro ys h; cases h) ?_
  have h1 : ¬ n < 0 := by omega
  by_cases h2 : 0 < n
  · simp +contextual (maxSteps := 5000000) only [go_sem, ↓reduceIte, h1, h2, Int.sub_self, Int.sub_zero, Int.toNat_zero, Int.reduceToNat, Nat.sub_zero, Nat.le_refl]
    refine ⟨inR64 (by omega) (by omega), fun _ => ⟨inR64 (by omega) (by omega), fun _ => ⟨by omega, fun _ => ?_⟩⟩⟩
    omega
  · simp +contextual (maxSteps := 5000000) only [go_sem, ↓reduceIte, h1, h2, Int.sub_self, Int.sub_zero, Int.toNat_zero, Int.reduceToNat, Nat.sub_zero, Nat.le_refl]
    exact ⟨inR64 (by omega) (by omega), fun _ => inR64 (by omega) (by omega)⟩
def c_Grow (e sz : Nat) (caps args : List D) : Prop × Out := match caps, args with | [], [.nil, .int .i64 n] => (0 ≤ n ∧ n < 1099511627776, .own e sz []) | _, _ => (False, .ret .any)
theorem st_GrowS : StC Tryz.prog 98 (c_Grow 9 1) := by
  intro caps args; unfold c_Grow; split
  · exact fun h => fc_GrowS _ h.1 h.2
  · exact fun h => h.elim
theorem st_GrowL : StC Tryz.prog 113 (c_Grow 44 2) := by
  intro caps args; unfold c_Grow; split
  · exact fun h => fc_GrowL _ h.1 h.2
  · exact fun h => h.elim
theorem st_GrowP : StC Tryz.prog 114 (c_Grow 77 3) := by
  intro caps args; unfold c_Grow; split
  · exact fun h => fc_GrowP _ h.1 h.2
  · exact fun h => h.elim
end Go.Proofs.YtlabdffgcciepaaGreatDoor
namespace Go.Proofs.YtlabdffgcciepaaGreatDoor
open Go.Tn
set_option maxHeartbeats 8000000
set_option maxRecDepth 100000
def eSl (z : Nat) (r : List (List D)) : List D := [.sl z r]
theorem eSl_at (z : Nat) (L : List (List (List D))) (i : Nat) (h : i < L.length) : (L.map (eSl z)).getD i [] = [.sl z (L.getD i [])] := at_of (eSl z) [] L i h
theorem cat_succ {L : List (List (List D))} {i : Nat} (h : i < L.length) : (L.take (i + 1)).flatten = (L.take i).flatten ++ L.getD i [] := by
  rw [List.take_add_one, List.flatten_append, List.getElem?_eq_getElem h, List.getD_eq_getElem?_getD, List.getElem?_eq_getElem h]; simp
theorem cat_len {L : List (List (List D))} {i : Nat} (h : i < L.length) : (L.take (i + 1)).flatten.length = (L.take i).flatten.length + (L.getD i []).length := by rw [cat_succ h, List.length_append]
theorem cat_le (L : List (List (List D))) (i : Nat) : (L.take i).flatten.length ≤ L.flatten.length := by
  have := congrArg List.flatten (List.take_append_drop i L)
  rw [List.flatten_append] at this
  rw [← this, List.length_append]; omega
def c_Cat (e z : Nat) (caps args : List D) : Prop × Out := match caps, args with
  | [], [.sl 1 [[.sl z1 a], [.sl z2 b]]] => (z1 = z ∧ z2 = z ∧ (a ++ b).length < 1000000000, .own e z (a ++ b))
  | _, _ => (False, .ret .any)
theorem fc_ConcatS (L : List (List (List D))) (hl : L.length < 1000) (hb : L.flatten.length < 1000000000) :
    FC Tryz.prog 55 [] [.sl 1 (L.map (eSl 1))] (.own 9 1 L.flatten) := by
  refine fc_M (fn := Tryz.f55) (C := (tab [(98, c_Grow 9 1)] [])) (rs := [2]) mixed (by kernel_rfl) (by kernel_rfl) rfl rfl (by kernel_rfl) (by intro ys h; cases h) ?_
  simp +contextual (maxSteps := 5000000) only [go_sem, ↓reduceIte]
  intro _
  refine M_loopI (fun i : Nat => ⟨[(0, .sl 1 (L.map (eSl 1))), (3, .int .i64 (L.take i).flatten.length), (9, .sl 1 (L.map (eSl 1))), (10, .int .i64 L.length), (11, .int .i64 i)], []⟩) (fun i => L.length - i) (fun i => i ≤ L.length) 0 ?_ ?_
  · simp +contextual (maxSteps := 5000000) only [go_sem, ↓reduceIte]
    rfl
  · intro i hi
    by_cases hlt : i < L.length
    · have h2 := cat_len hlt
      have h3 := cat_le L (i + 1)
      have h0 : ¬ (((L.take i).flatten.length : Int) + ((L.getD i []).length : Int) < 0) := by omega
      simp +contextual (maxSteps := 5000000) only [go_sem, ↓reduceIte, hlt, eSl_at, h0]
      refine fun _ => ⟨inR64 (by omega) (by omega), fun _ => ⟨inR64 (by omega) (by omega), fun _ => ⟨i + 1, ⟨by rw [h2]; simp, by simp⟩, by omega, by omega⟩⟩⟩
    · have he : i = L.length := by omega
      subst he
      have hg := st_GrowS
      have h3 := cat_le L L.length
      simp +contextual (maxSteps := 5000000) only [go_sem, ↓reduceIte, hlt, hg, c_Grow, List.take_length]
      refine ⟨by omega, ?_⟩
      intro _
      refine M_loopI (fun i : Nat => ⟨[(0, .sl 1 (L.map (eSl 1))), (6, .vec 24 (L.take i).flatten.length), (25, .sl 1 (L.map (eSl 1))), (26, .int .i64 L.length), (27, .int .i64 i)], [(24, .vec 9 1 (L.take i).flatten 0)]⟩) (fun i => L.length - i) (fun i => i ≤ L.length) 0 ?_ ?_
      · simp +contextual (maxSteps := 5000000) only [go_sem, ↓reduceIte]
        rfl
      · intro i hi
        by_cases hlt : i < L.length
        · have h2 := cat_len hlt
          have h4 := cat_succ hlt
          have h3 := cat_le L (i + 1)
          simp +contextual (maxSteps := 5000000) only [go_sem, ↓reduceIte, hlt, eSl_at]
          exact ⟨by omega, fun _ => ⟨inR64 (by omega) (by omega), fun _ => ⟨i + 1, ⟨⟨by rw [h2], by simp⟩, by rw [h4]⟩, by omega, by omega⟩⟩⟩
        · have he : i = L.length := by omega
          subst he
          simp +contextual (maxSteps := 5000000) only [go_sem, ↓reduceIte, hlt, List.take_length]
theorem st_ConcatS : StC Tryz.prog 55 (c_Cat 9 1) := by
  intro caps args; unfold c_Cat; split
  · rename_i z1 a z2 b
    rintro ⟨rfl, rfl, h⟩
    have := fc_ConcatS [a, b] (by simp) (by simpa using h)
    simpa [eSl] using this
  · exact fun h => h.elim
theorem fc_ConcatL (L : List (List (List D))) (hl : L.length < 1000) (hb : L.flatten.length < 1000000000) :
    FC Tryz.prog 93 [] [.sl 1 (L.map (eSl 2))] (.own 44 2 L.flatten) := by
  refine fc_M (fn := Tryz.f93) (C := (tab [(113, c_Grow 44 2)] [])) (rs := [2]) mixed (by kernel_rfl) (by kernel_rfl) rfl rfl (by kernel_rfl) (by intro ys h; cases h) ?_
  simp +contextual (maxSteps := 5000000) only [go_sem, ↓reduceIte]
  intro _
  refine M_loopI (fun i : Nat => ⟨[(0, .sl 1 (L.map (eSl 2))), (3, .int .i64 (L.take i).flatten.length), (9, .sl 1 (L.map (eSl 2))), (10, .int .i64 L.length), (11, .int .i64 i)], []⟩) (fun i => L.length - i) (fun i => i ≤ L.length) 0 ?_ ?_
  · simp +contextual (maxSteps := 5000000) only [go_sem, ↓reduceIte]
    rfl
  · intro i hi
    by_cases hlt : i < L.length
    · have h2 := cat_len hlt
      have h3 := cat_le L (i + 1)
      have h0 : ¬ (((L.take i).flatten.length : Int) + ((L.getD i []).length : Int) < 0) := by omega
      simp +contextual (maxSteps := 5000000) only [go_sem, ↓reduceIte, hlt, eSl_at, h0]
      refine fun _ => ⟨inR64 (by omega) (by omega), fun _ => ⟨inR64 (by omega) (by omega), fun _ => ⟨i + 1, ⟨by rw [h2]; simp, by simp⟩, by omega, by omega⟩⟩⟩
    · have he : i = L.length := by omega
      subst he
      have hg := st_GrowL
      have h3 := cat_le L L.length
      simp +contextual (maxSteps := 5000000) only [go_sem, ↓reduceIte, hlt, hg, c_Grow, List.take_length]
      refine ⟨by omega, ?_⟩
      intro _
      refine M_loopI (fun i : Nat => ⟨[(0, .sl 1 (L.map (eSl 2))), (6, .vec 24 (L.take i).flatten.length), (25, .sl 1 (L.map (eSl 2))), (26, .int .i64 L.length), (27, .int .i64 i)], [(24, .vec 44 2 (L.take i).flatten 0)]⟩) (fun i => L.length - i) (fun i => i ≤ L.length) 0 ?_ ?_
      · simp +contextual (maxSteps := 5000000) only [go_sem, ↓reduceIte]
        rfl
      · intro i hi
        by_cases hlt : i < L.length
        · have h2 := cat_len hlt
          have h4 := cat_succ hlt
          have h3 := cat_le L (i + 1)
          simp +contextual (maxSteps := 5000000) only [go_sem, ↓reduceIte, hlt, eSl_at]
          exact ⟨by omega, fun _ => ⟨inR64 (by omega) (by omega), fun _ => ⟨i + 1, ⟨⟨by rw [h2], by simp⟩, by rw [h4]⟩, by omega, by omega⟩⟩⟩
        · have he : i = L.length := by omega
          subst he
          simp +contextual (maxSteps := 5000000) only [go_sem, ↓reduceIte, hlt, List.take_length]
theorem st_ConcatL : StC Tryz.prog 93 (c_Cat 44 2) := by
  intro caps args; unfold c_Cat; split
  · rename_i z1 a z2 b
    rintro ⟨rfl, rfl, h⟩
    have := fc_ConcatL [a, b] (by simp) (by simpa using h)
    simpa [eSl] using this
  · exact fun h => h.elim
theorem fc_ConcatP (L : List (List (List D))) (hl : L.length < 1000) (hb : L.flatten.length < 1000000000) :
    FC Tryz.prog 94 [] [.sl 1 (L.map (eSl 3))] (.own 77 3 L.flatten) := by
  refine fc_M (fn := Tryz.f94) (C := (tab [(114, c_Grow 77 3)] [])) (rs := [2]) mixed (by kernel_rfl) (by kernel_rfl) rfl rfl (by kernel_rfl) (by intro ys h; cases h) ?_
  simp +contextual (maxSteps := 5000000) only [go_sem, ↓reduceIte]
  intro _
  refine M_loopI (fun i : Nat => ⟨[(0, .sl 1 (L.map (eSl 3))), (3, .int .i64 (L.take i).flatten.length), (9, .sl 1 (L.map (eSl 3))), (10, .int .i64 L.length), (11, .int .i64 i)], []⟩) (fun i => L.length - i) (fun i => i ≤ L.length) 0 ?_ ?_
  · simp +contextual (maxSteps := 5000000) only [go_sem, ↓reduceIte]
    rfl
  · intro i hi
    by_cases hlt : i < L.length
    · have h2 := cat_len hlt
      have h3 := cat_le L (i + 1)
      have h0 : ¬ (((L.take i).flatten.length : Int) + ((L.getD i []).length : Int) < 0) := by omega
      simp +contextual (maxSteps := 5000000) only [go_sem, ↓reduceIte, hlt, eSl_at, h0]
      refine fun _ => ⟨inR64 (by omega) (by omega), fun _ => ⟨inR64 (by omega) (by omega), fun _ => ⟨i + 1, ⟨by rw [h2]; simp, by simp⟩, by omega, by omega⟩⟩⟩
    · have he : i = L.length := by omega
      subst he
      have hg := st_GrowP
      have h3 := cat_le L L.length
      simp +contextual (maxSteps := 5000000) only [go_sem, ↓reduceIte, hlt, hg, c_Grow, List.take_length]
      refine ⟨by omega, ?_⟩
      intro _
      refine M_loopI (fun i : Nat => ⟨[(0, .sl 1 (L.map (eSl 3))), (6, .vec 24 (L.take i).flatten.length), (25, .sl 1 (L.map (eSl 3))), (26, .int .i64 L.length), (27, .int .i64 i)], [(24, .vec 77 3 (L.take i).flatten 0)]⟩) (fun i => L.length - i) (fun i => i ≤ L.length) 0 ?_ ?_
      · simp +contextual (maxSteps := 5000000) only [go_sem, ↓reduceIte]
        rfl
      · intro i hi
        by_cases hlt : i < L.length
        · have h2 := cat_len hlt
          have h4 := cat_succ hlt
          have h3 := cat_le L (i + 1)
          simp +contextual (maxSteps := 5000000) only [go_sem, ↓reduceIte, hlt, eSl_at]
          exact ⟨by omega, fun _ => ⟨inR64 (by omega) (by omega), fun _ => ⟨i + 1, ⟨⟨by rw [h2], by simp⟩, by rw [h4]⟩, by omega, by omega⟩⟩⟩
        · have he : i = L.length := by omega
          subst he
          simp +contextual (maxSteps := 5000000) only [go_sem, ↓reduceIte, hlt, List.take_length]
theorem st_ConcatP : StC Tryz.prog 94 (c_Cat 77 3) := by
  intro caps args; unfold c_Cat; split
  · rename_i z1 a z2 b
    rintro ⟨rfl, rfl, h⟩
    have := fc_ConcatP [a, b] (by simp) (by simpa using h)
    simpa [eSl] using this
  · exact fun h => h.elim
end Go.Proofs.YtlabdffgcciepaaGreatDoor
namespace Go.Proofs.YtlabdffgcciepaaGreatDoor
open Go.Tn
set_option maxHeartbeats 8000000
set_option maxRecDepth 100000
abbrev Str := List UInt8
structure Dl where
  A : List Str
  B : List Str
  cols : List (Int × Int)
  na : Int
  nb : Int
  rows : List (Int × Int)
  dels : List Ln
  inss : List Ln
  sets : List St6
  lost : List Sp
  gain : List Sp
def eDl (d : Dl) : List D := [.sl 1 (d.A.map eS), .sl 1 (d.B.map eS), .sl 2 (d.cols.map eP), .int .i64 d.na, .int .i64 d.nb, .sl 2 (d.rows.map eP), .sl 2 (d.dels.map eL), .sl 2 (d.inss.map eL), .sl 6 (d.sets.map eD6), .sl 3 (d.lost.map eSp), .sl 3 (d.gain.map eSp)]
theorem eD6_at (l : List St6) (i : Nat) (h : i < l.length) : (l.map eD6).getD i [] = [.int .i64 (l.getD i default).i, .int .i64 (l.getD i default).j, .int .i64 (l.getD i default).p, .int .i64 (l.getD i default).q, .str (l.getD i default).o, .str (l.getD i default).n] := at_of eD6 default l i h
def txL (l : List Ln) : List Str := l.flatMap (·.2)
def txS (l : List St6) : List Str := l.flatMap fun s => [s.o, s.n]
def txP (l : List Sp) : List Str := l.map (·.2.2)
def txF (d : Dl) : List Str := d.A ++ d.B ++ txL (d.dels ++ d.inss) ++ txS d.sets ++ txP (d.lost ++ d.gain)
theorem flat_succ {α : Type} {l : List α} {i : Nat} {d : α} (f : α → List Str) (h : i < l.length) : (l.take (i + 1)).flatMap f = (l.take i).flatMap f ++ f (l.getD i d) := by
  rw [List.take_add_one, List.getElem?_eq_getElem h, List.getD_eq_getElem?_getD, List.getElem?_eq_getElem h, List.flatMap_append]; simp
theorem flat_le {α : Type} (l : List α) (f : α → List Str) (i : Nat) : ((l.take i).flatMap f).length ≤ (l.flatMap f).length := by
  have : l.flatMap f = (l.take i).flatMap f ++ (l.drop i).flatMap f := by rw [← List.flatMap_append, List.take_append_drop]
  rw [this, List.length_append]; omega
theorem txP_succ {l : List Sp} {i : Nat} (h : i < l.length) : txP (l.take (i + 1)) = txP (l.take i) ++ [(l.getD i (0, 0, [])).2.2] := by
  unfold txP
  rw [List.take_add_one, List.getElem?_eq_getElem h, List.getD_eq_getElem?_getD, List.getElem?_eq_getElem h, List.map_append]; rfl
theorem gS (l : List Str) : gndL (l.map eS).flatten = true := gnd_eS l
theorem gSp (l : List Sp) : gndL (l.map eSp).flatten = true := gndR_of eSp (fun _ => rfl) l
theorem txS_len : ∀ l : List St6, (txS l).length = 2 * l.length
  | [] => rfl
  | x :: r => by have := txS_len r; simp only [txS, List.flatMap_cons, List.length_append, List.length_cons, List.length_nil] at this ⊢; omega
structure okDl (d : Dl) : Prop where
  A : d.A.length < 1000000
  B : d.B.length < 1000000
  cols : d.cols.length < 1000000
  rows : d.rows.length < 1000000
  dels : d.dels.length < 1000000
  inss : d.inss.length < 1000000
  sets : d.sets.length < 1000000
  lost : d.lost.length < 1000000
  gain : d.gain.length < 1000000
  cells : (txL (d.dels ++ d.inss)).length < 1000000
theorem fc_texts1 (d : Dl) (h : okDl d) : FC Tryz.prog 92 [.box (eDl d)] [] (.seq ((txF d).map eS)) := by
  obtain ⟨A, B, cols, na, nb, rows, dels, inss, sets, lost, gain⟩ := d
  obtain ⟨hA, hB, _, _, hde, hin, hse, hlo, hga, hce⟩ := h
  simp only at hA hB hde hin hse hlo hga hce
  unfold txF eDl
  simp only
  refine fcy_M (fn := Tryz.f92) (C := (tab [(55, c_Cat 9 1), (93, c_Cat 44 2), (94, c_Cat 77 3)] [] [5001])) mixed (by kernel_rfl) (by kernel_rfl) rfl rfl (by kernel_rfl) (by kernel_rfl) ?_
  have hs1 := st_ConcatS
  have hs2 := st_ConcatL
  have hs3 := st_ConcatP
  have e1 : A.map eS ++ B.map eS = (A ++ B).map eS := by simp
  have e2 : dels.map eL ++ inss.map eL = (dels ++ inss).map eL := by simp
  have e3 : lost.map eSp ++ gain.map eSp = (lost ++ gain).map eSp := by simp
  have n1 : (A ++ B).length < 2000000 := by rw [List.length_append]; omega
  have n2 : (dels ++ inss).length < 2000000 := by rw [List.length_append]; omega
  have n3 : (lost ++ gain).length < 2000000 := by rw [List.length_append]; omega
  simp +contextual (maxSteps := 5000000) only [go_sem, ↓reduceIte, c_Cat, hs1, e1, gS]
  refine ⟨by simp only [List.length_map, List.length_append] at *; omega, ?_⟩
  refine M_join (fun _ : Unit => ⟨[(0, .yld 999), (1, .box [.sl 1 (A.map eS), .sl 1 (B.map eS), .sl 2 (cols.map eP), .int .i64 na, .int .i64 nb, .sl 2 (rows.map eP), .sl 2 (dels.map eL), .sl 2 (inss.map eL), .sl 6 (sets.map eD6), .sl 3 (lost.map eSp), .sl 3 (gain.map eSp)]), (3, .vec 17 (A ++ B).length), (23, .vec 23 (dels ++ inss).length), (24, .int .i64 (dels ++ inss).length), (25, .int .i64 0)],
    [(999, .yl ((A ++ B ++ txL (dels ++ inss) ++ txS sets ++ txP (lost ++ gain)).map eS) [] false), (17, .vec 9 1 ((A ++ B).map eS) 0), (23, .vec 44 2 ((dels ++ inss).map eL) 0)]⟩) (fun _ => True) ?_ ?_
  · cases hg : gndL ((dels ++ inss).map eL).flatten
    · simp +contextual (maxSteps := 5000000) only [go_sem, ↓reduceIte, c_Cat, hs2, e2, hg]
      exact ⟨by omega, ⟨(), trivial⟩⟩
    · simp +contextual (maxSteps := 5000000) only [go_sem, ↓reduceIte, c_Cat, hs2, e2, hg]
      exact ⟨by omega, ⟨(), trivial⟩⟩
  · intro _ _
    generalize hAB : A ++ B = l1 at *
    generalize hDI : dels ++ inss = l2 at *
    generalize hLG : lost ++ gain = l3 at *
    generalize hYS : (l1 ++ txL l2 ++ txS sets ++ txP l3) = ys
    simp +contextual (maxSteps := 5000000) only [go_sem, ↓reduceIte]
    refine M_loopI (fun i : Nat => ⟨[(0, .yld 999), (1, .box [.sl 1 (A.map eS), .sl 1 (B.map eS), .sl 2 (cols.map eP), .int .i64 na, .int .i64 nb, .sl 2 (rows.map eP), .sl 2 (dels.map eL), .sl 2 (inss.map eL), .sl 6 (sets.map eD6), .sl 3 (lost.map eSp), .sl 3 (gain.map eSp)]), (3, .vec 17 (l1 ++ txL (l2.take i)).length), (23, .vec 23 l2.length), (24, .int .i64 l2.length), (25, .int .i64 i)],
      [(999, .yl (ys.map eS) [] false), (17, .vec 9 1 ((l1 ++ txL (l2.take i)).map eS) 0), (23, .vec 44 2 (l2.map eL) 0)]⟩) (fun i => l2.length - i) (fun i => i ≤ l2.length) 0 ?_ ?_
    · simp +contextual (maxSteps := 5000000) only [go_sem, ↓reduceIte, txL, List.flatMap_nil]
      rfl
    · intro i hi
      by_cases hlt : i < l2.length
      · have h2 := flat_succ (d := ((0 : Int), ([] : List Str))) (fun x : Ln => x.2) hlt
        have h3 := flat_le l2 (fun x : Ln => x.2) (i + 1)
        have h4 : (txL l2).length < 1000000 := hce
        unfold txL at *
        rw [h2, List.length_append] at h3
        simp +contextual (maxSteps := 5000000) only [go_sem, ↓reduceIte, eI_at, eI_set, List.length_set, tn_add, tn_add1, tn_sub, tn_sub1, sh1, sh1b, half_cast, hlt, eL_at]
        exact ⟨by omega, fun _ => ⟨inR64 (by omega) (by omega), fun _ => ⟨i + 1, ⟨⟨by rw [h2, List.length_append, Nat.add_assoc], by simp⟩, by rw [h2]; simp⟩, by omega, by omega⟩⟩⟩
      · have he : i = l2.length := by omega
        subst he
        simp +contextual (maxSteps := 5000000) only [go_sem, ↓reduceIte, hlt, List.take_length]
        refine fun _ => M_loopI (fun i : Nat => ⟨[(0, .yld 999), (1, .box [.sl 1 (A.map eS), .sl 1 (B.map eS), .sl 2 (cols.map eP), .int .i64 na, .int .i64 nb, .sl 2 (rows.map eP), .sl 2 (dels.map eL), .sl 2 (inss.map eL), .sl 6 (sets.map eD6), .sl 3 (lost.map eSp), .sl 3 (gain.map eSp)]), (3, .vec 17 (l1 ++ txL l2 ++ txS (sets.take i)).length), (35, .sl 6 (sets.map eD6)), (36, .int .i64 sets.length), (37, .int .i64 i)],
          [(999, .yl (ys.map eS) [] false), (17, .vec 9 1 ((l1 ++ txL l2 ++ txS (sets.take i)).map eS) 0)]⟩) (fun i => sets.length - i) (fun i => i ≤ sets.length) 0 ?_ ?_
        · simp +contextual (maxSteps := 5000000) only [go_sem, ↓reduceIte, txS, List.flatMap_nil]
          rfl
        · intro i hi
          by_cases hlt : i < sets.length
          · have h2 : txS (sets.take (i + 1)) = txS (sets.take i) ++ [(sets.getD i default).o, (sets.getD i default).n] := flat_succ (d := (default : St6)) (fun s : St6 => [s.o, s.n]) hlt
            have h3 := txS_len (sets.take i)
            rw [List.length_take] at h3
            simp +contextual (maxSteps := 5000000) only [go_sem, ↓reduceIte, eI_at, eI_set, List.length_set, tn_add, tn_add1, tn_sub, tn_sub1, sh1, sh1b, half_cast, hlt, eD6_at]
            exact ⟨by omega, fun _ => ⟨inR64 (by omega) (by omega), fun _ => ⟨i + 1, ⟨⟨by rw [h2, List.length_append]; rfl, by simp⟩, by rw [h2]; simp [eS]⟩, by omega, by omega⟩⟩⟩
          · have he : i = sets.length := by omega
            subst he
            have h3 := txS_len sets
            simp +contextual (maxSteps := 5000000) only [go_sem, ↓reduceIte, hlt, List.take_length, c_Cat, hs3, e3, gSp]
            refine ⟨by omega, ?_⟩
            refine M_loopI (fun i : Nat => ⟨[(0, .yld 999), (3, .vec 17 (l1 ++ txL l2 ++ txS sets ++ txP (l3.take i)).length), (54, .vec 54 l3.length), (55, .int .i64 l3.length), (56, .int .i64 i)],
              [(999, .yl (ys.map eS) [] false), (17, .vec 9 1 ((l1 ++ txL l2 ++ txS sets ++ txP (l3.take i)).map eS) 0), (54, .vec 77 3 (l3.map eSp) 0)]⟩) (fun i => l3.length - i) (fun i => i ≤ l3.length) 0 ?_ ?_
            · simp +contextual (maxSteps := 5000000) only [go_sem, ↓reduceIte, txP]
              rfl
            · intro i hi
              by_cases hlt : i < l3.length
              · have h2 := txP_succ hlt
                have h4 : (txP (l3.take i)).length ≤ i := by unfold txP; rw [List.length_map, List.length_take]; omega
                simp +contextual (maxSteps := 5000000) only [go_sem, ↓reduceIte, eI_at, eI_set, List.length_set, tn_add, tn_add1, tn_sub, tn_sub1, sh1, sh1b, half_cast, hlt, eSp_at]
                exact ⟨by omega, fun _ => ⟨inR64 (by omega) (by omega), fun _ => ⟨i + 1, ⟨⟨by rw [h2, List.length_append]; rfl, by simp⟩, by rw [h2]; simp [eS]⟩, by omega, by omega⟩⟩⟩
              · have he : i = l3.length := by omega
                subst he
                simp +contextual (maxSteps := 5000000) only [go_sem, ↓reduceIte, hlt, List.take_length]
                rw [← List.length_append, ← List.length_append, ← List.length_append, hYS]
                have hy : ys.length < 1000000000 := by
                  rw [← hYS]
                  have : (txP l3).length = l3.length := by unfold txP; simp
                  simp only [List.length_append]; omega
                refine M_loopI (fun i : Nat => ⟨[(0, .yld 999), (66, .vec 17 ys.length), (67, .int .i64 ys.length), (68, .int .i64 i)],
                  [(999, .yl (ys.map eS) ((ys.take i).map eS) false), (17, .vec 9 1 (ys.map eS) 0)]⟩) (fun i => ys.length - i) (fun i => i ≤ ys.length) 0 ?_ ?_
                · simp +contextual (maxSteps := 5000000) only [go_sem, ↓reduceIte]
                  rfl
                · intro i hi
                  by_cases hlt : i < ys.length
                  · obtain ⟨q1, q2⟩ := yl_gen (e := eS) (d := []) hlt
                    simp +contextual (maxSteps := 5000000) only [go_sem, ↓reduceIte, eI_at, eI_set, List.length_set, tn_add, tn_add1, tn_sub, tn_sub1, sh1, sh1b, half_cast, eS_at, hlt]
                    exact ⟨q1, fun b hb => ⟨inR64 (by omega) (by omega), fun _ => ⟨i + 1, ⟨by simp, q2⟩, by omega, by omega⟩⟩⟩
                  · simp +contextual (maxSteps := 5000000) only [go_sem, ↓reduceIte, hlt]
                    rw [show i = ys.length by omega, List.take_length]
theorem fc_texts (d : Dl) : FC Tryz.prog 44 [] [.agg (eDl d)] (.ret (.fn 92 [] [.box (eDl d)])) := by
  unfold eDl
  refine fc_M (fn := Tryz.f44) (C := (tab [] [])) (rs := [2]) mixed (by kernel_rfl) (by kernel_rfl) rfl rfl (by kernel_rfl) (by intro ys h; cases h) ?_
  simp +contextual (maxSteps := 5000000) only [go_sem, ↓reduceIte]
end Go.Proofs.YtlabdffgcciepaaGreatDoor
namespace Go.Proofs.YtlabdffgcciepaaGreatDoor
open Go.Tn
set_option maxHeartbeats 8000000
set_option maxRecDepth 100000
theorem tyErrno : (tyOf Tryz.prog 32) = ⟨.int .i64, [.int .i64 0], [], 0, 0, false, 0, 8⟩ := by kernel_rfl
theorem tfErrno : TyFact Tryz.prog 32 ⟨.int .i64, [.int .i64 0], [], 0, 0, false, 0, 8⟩ := by
  have h := tyOf_fact (P := Tryz.prog) (t := 32) (by rw [tyErrno]; intro h; cases h)
  rwa [tyErrno] at h
theorem dg_Check : DfG Tryz.prog 28 32 := by
  have h0 : (Tryz.prog.funcs[28]?) = some Tryz.f28 := by kernel_rfl
  have hs : (Tryz.prog.funcs[28]?).isSome = true := by rw [h0]; rfl
  refine ⟨⟨Tryz.f28, h0, by kernel_rfl, by kernel_rfl⟩, fun ad w => ?_, fun ad x n w hc hz => ?_⟩
  · refine callsDIn_of_wpSIn (fn := Tryz.f28) h0 rfl (fun _ => hs) fun c₀ cs hu => ?_
    apply wpSIn_seq
    apply wpSIn_region
    simp [wpOpsSIn, go_sem, recoverD, hu, Exit.thenS, run_ta_nil tfErrno rfl rfl, Instr.extract, Tryz.f28]
    apply wpSIn_seq
    apply wpSIn_region
    simp [wpOpsSIn, go_sem, Exit.thenS]
    refine wpSIn_cond (t := false) (by simp [Act.eval, Array.replicate]) ?_
    simp only [Bool.false_eq_true, if_false]
    refine wpSIn_of_wpIn rfl (wpIn_skip ?_)
    cases c₀
    simp_all [bodyPostS, results, Tryz.f28]
  · refine callsDIn_of_wpSIn (fn := Tryz.f28) h0 rfl (fun _ => hs) fun c₀ cs hu => ?_
    apply wpSIn_seq
    apply wpSIn_region
    simp [wpOpsSIn, go_sem, recoverD, hu, Exit.thenS, run_ta_yes tfErrno rfl, Instr.extract, Tryz.f28]
    apply wpSIn_seq
    apply wpSIn_region
    simp [wpOpsSIn, go_sem, Exit.thenS]
    refine wpSIn_cond (t := true) (by simp [Act.eval, Array.replicate]) ?_
    simp only [if_true]
    apply wpSIn_region
    simp [wpOpsSIn, go_sem, hc, hz, bodyPostS, results, Tryz.f28]
end Go.Proofs.YtlabdffgcciepaaGreatDoor
namespace Go.Proofs.YtlabdffgcciepaaGreatDoor
open Go.Tn
set_option maxHeartbeats 8000000
set_option maxRecDepth 100000
def dL (r : List D) : Ln := (iOf (r.headD .any), (rowsOf (r.tail.headD .any)).map dS)
def dSp (r : List D) : Sp := (iOf (r.headD .any), iOf (r.tail.headD .any), sOf (r.tail.tail.headD .any))
theorem dL_eL (l : List Ln) : (l.map eL).map dL = l := by
  induction l with
  | nil => rfl
  | cons x l ih =>
    rw [List.map_cons, List.map_cons, ih]
    simp only [dL, eL, List.headD_cons, List.tail_cons, rowsOf, iOf]
    rw [dS_eS]
theorem dSp_eSp (l : List Sp) : (l.map eSp).map dSp = l := by induction l <;> simp_all [eSp, dSp, iOf, sOf]
def c_mL (caps args : List D) : Prop × Out := match caps, args with
  | [], [.sl 2 rows, .fn g [] [.box [.sl 1 ks]], .fn h [] [.box [.int .i64 w]]] => (((g = 86 ∧ h = 35) ∧ rows = (rows.map dL).map eL ∧ ks = (ks.map dI).map eI) ∧ rows.length < 1000000000 ∧ ks.length < 1000000000, mtO (mtF (isL w) (rows.map dL) (ks.map dI)))
  | _, _ => (False, .ret .any)
theorem st_mL : StC Tryz.prog 36 c_mL := by
  intro caps args; unfold c_mL; split
  · rename_i rows g ks h w
    rintro ⟨⟨⟨rfl, rfl⟩, h1, h2⟩, h3, h4⟩
    have := fc_matchL (rows.map dL) w (ks.map dI) (by simpa using h3) (by simpa using h4)
    rw [← h1, ← h2] at this
    exact this
  · exact fun h => h.elim
def c_mS (caps args : List D) : Prop × Out := match caps, args with
  | [], [.sl 3 rows, .fn g [] [.box [.sl 1 a], .box [.sl 1 b]], .fn h [] []] => (((g = 87 ∧ h = 38) ∧ rows = (rows.map dSp).map eSp ∧ a = (a.map dI).map eI ∧ b = (b.map dI).map eI) ∧ rows.length < 1000000000 ∧ a.length < 1000000000 ∧ b.length < 1000000000, mtO (mtF isS (rows.map dSp) (crF (a.map dI) (b.map dI))))
  | _, _ => (False, .ret .any)
theorem st_mS : StC Tryz.prog 39 c_mS := by
  intro caps args; unfold c_mS; split
  · rename_i rows g a b h
    rintro ⟨⟨⟨rfl, rfl⟩, h1, h2, h5⟩, h3, h4, h6⟩
    have := fc_matchS (rows.map dSp) (a.map dI) (b.map dI) (by simpa using h3) (by simpa using h4) (by simpa using h6)
    rw [← h1, ← h2, ← h5] at this
    exact this
  · exact fun h => h.elim
def c_ord (caps args : List D) : Prop × Out := match caps, args with
  | [], [.agg [.int .i64 a, .int .i64 b, .int .i64 c, .int .i64 d, .str e, .str f], .agg [.int .i64 a', .int .i64 b', .int .i64 c', .int .i64 d', .str e', .str f']] => (True, .ret (.int .i64 (ordF ⟨a, b, c, d, e, f⟩ ⟨a', b', c', d', e', f'⟩)))
  | _, _ => (False, .ret .any)
theorem st_ord : StC Tryz.prog 43 c_ord := by
  intro caps args; unfold c_ord; split
  · exact fun _ => fc_order ⟨_, _, _, _, _, _⟩ ⟨_, _, _, _, _, _⟩
  · exact fun h => h.elim
def c_tx (d : Dl) (caps args : List D) : Prop × Out := match caps, args with
  | [], [x] => (x = .agg (eDl d), .ret (.fn 92 [] [.box (eDl d)]))
  | _, _ => (False, .ret .any)
theorem st_tx (d : Dl) : StC Tryz.prog 44 (c_tx d) := by
  intro caps args; unfold c_tx; split
  · rintro rfl; exact fc_texts d
  · exact fun h => h.elim
def c_tx1 (d : Dl) (caps args : List D) : Prop × Out := match caps, args with
  | [.box cs], [] => (cs = eDl d ∧ okDl d, .seq ((txF d).map eS))
  | _, _ => (False, .ret .any)
theorem st_tx1 (d : Dl) : StC Tryz.prog 92 (c_tx1 d) := by
  intro caps args; unfold c_tx1; split
  · rintro ⟨rfl, h⟩; exact fc_texts1 d h
  · exact fun h => h.elim
def setAt6 (d : Dl) (i : Nat) : St6 := d.sets.getD i default
def okS (d : Dl) (i : Nat) : Bool :=
  let x := setAt6 d i
  decide ((x.i, x.j) ∈ d.rows) && decide ((x.p, x.q) ∈ d.cols) && decide (x.o ≠ x.n) && (decide (i = 0) || decide (ordF (setAt6 d (i - 1)) x < 0))
def goneR (d : Dl) : List Int := rsL (d.rows.map (·.1)) d.na.toNat
def newR' (d : Dl) : List Int := rsL (d.rows.map (·.2)) d.nb.toNat
def goneC (d : Dl) : List Int := rsL (d.cols.map (·.1)) d.A.length
def newC (d : Dl) : List Int := rsL (d.cols.map (·.2)) d.B.length
def chkD (d : Dl) : Int :=
  if ¬ (0 < d.A.length ∧ 0 < d.B.length) then 8
  else if ¬ (onceF d.A = true ∧ onceF d.B = true) then 10
  else if ¬ ((d.A.length ≤ 40 ∧ d.B.length ≤ 40) ∧ d.na ≤ 400 ∧ d.nb ≤ 400) then 7
  else if chk d.cols d.A.length d.B.length ≠ 0 then chk d.cols d.A.length d.B.length
  else if chk d.rows d.na d.nb ≠ 0 then chk d.rows d.na d.nb
  else if ¬ (mtF (isL d.A.length) d.dels (goneR d) = true ∧ mtF (isL d.B.length) d.inss (newR' d) = true) then 13
  else if ¬ (mtF isS d.lost (crF (wiF (goneR d) d.na.toNat) (goneC d)) = true ∧ mtF isS d.gain (crF (wiF (newR' d) d.nb.toNat) (newC d)) = true) then 13
  else if ∃ i, i < d.sets.length ∧ okS d i = false then 13
  else if ∃ s ∈ txF d, 1000 < s.length then 7 else 0
theorem gI (l : List Int) : gndL (l.map eI).flatten = true := gnd_eI l
theorem fc_DCheck (d : Dl) (h : okDl d) (hna : d.na < 1000000000) (hnb : d.nb < 1000000000) : FC Tryz.prog 11 [] [.agg (eDl d)] (.ret (.int .i64 (chkD d))) := by
  have hh := h
  obtain ⟨hA, hB, hco, hro, hde, hin, hse, hlo, hga, hce⟩ := h
  refine fcd_of (fn := Tryz.f11) (g := 28) (et := 32) (rt := 32) (r := 2) (tf := 14) (i := 2) (C := tab [(31, c_Check), (32, c_RestA), (33, c_RestB), (30, c_once), (29, c_need), (34, c_whole), (37, c_Values), (36, c_mL), (41, c_within), (40, c_cross), (39, c_mS), (42, c_contP), (43, c_ord), (44, c_tx d), (92, c_tx1 d)] [] [5002, 5003, 5004, 5005, 5011, 5013, 5014, 5016, 5017, 9013, 9014, 9016, 9017, 9022])
    (hd := ⟨[(1, .loc 1 0), (2, .loc 2 0)], [(1, .blk (eDl d) false), (2, .blk [.int .i64 0] false)]⟩) mixed (by kernel_rfl) (by kernel_rfl) rfl rfl tfErrno rfl ⟨rfl, rfl, rfl⟩ ⟨rfl, rfl, rfl⟩ ⟨by decide, by decide⟩ ⟨by kernel_rfl, by kernel_rfl⟩ (by kernel_rfl) dg_Check ⟨rfl, rfl, trivial⟩ ?_ ?_
  · unfold eDl
    simp +contextual (maxSteps := 5000000) only [go_sem, ↓reduceIte]
  · unfold eDl
    simp +contextual (maxSteps := 5000000) only [go_sem, ↓reduceIte]
    refine M_join (fun _ : Unit => ⟨[(1, .loc 1 0), (2, .loc 2 0)], [(1, .blk (eDl d) false), (2, .blk [.int .i64 0] false)]⟩) (fun _ => 0 < d.A.length ∧ 0 < d.B.length) ?_ ?_
    · have e8 : ¬ (0 < d.A.length ∧ 0 < d.B.length) → 8 = chkD d := fun h => by unfold chkD; rw [if_pos h]
      by_cases a : (0 : Int) < d.A.length
      · by_cases b : (0 : Int) < d.B.length
        · simp +contextual (maxSteps := 5000000) only [go_sem, ↓reduceIte, a, b, c_need, st_need, eDl, finD, resB, panB, panE, locR]
          exact fun _ _ => ⟨(), by omega, by omega⟩
        · simp +contextual (maxSteps := 5000000) only [go_sem, ↓reduceIte, a, b, c_need, st_need, eDl, finD, resB, panB, panE, locR]
          exact fun _ _ => e8 (by omega)
      · simp +contextual (maxSteps := 5000000) only [go_sem, ↓reduceIte, a, c_need, st_need, eDl, finD, resB, panB, panE, locR]
        exact fun _ => e8 (by omega)
    · intro _ p1
      unfold eDl
      simp +contextual (maxSteps := 5000000) only [go_sem, ↓reduceIte]
      refine M_join (fun _ : Unit => ⟨[(1, .loc 1 0), (2, .loc 2 0)], [(1, .blk (eDl d) false), (2, .blk [.int .i64 0] false)]⟩) (fun _ => onceF d.A = true ∧ onceF d.B = true) ?_ ?_
      · have e10 : ¬ (onceF d.A = true ∧ onceF d.B = true) → 10 = chkD d := fun h => by unfold chkD; rw [if_neg (fun h => h p1), if_pos h]
        by_cases a : onceF d.A = true
        · by_cases b : onceF d.B = true
          · simp +contextual (maxSteps := 5000000) only [go_sem, ↓reduceIte, a, b, c_need, st_need, eDl, c_once, st_once, dS_eS, finD, resB, panB, panE, locR]
            exact ⟨by omega, by omega, ⟨(), trivial⟩⟩
          · simp +contextual (maxSteps := 5000000) only [go_sem, ↓reduceIte, a, b, c_need, st_need, eDl, c_once, st_once, dS_eS, finD, resB, panB, panE, locR]
            exact ⟨by omega, by omega, e10 (fun h => b h.2)⟩
        · simp +contextual (maxSteps := 5000000) only [go_sem, ↓reduceIte, a, c_need, st_need, eDl, c_once, st_once, dS_eS, finD, resB, panB, panE, locR]
          exact ⟨by omega, e10 (fun h => a h.1)⟩
      · intro _ p2
        unfold eDl
        simp +contextual (maxSteps := 5000000) only [go_sem, ↓reduceIte]
        refine M_join (fun _ : Unit => ⟨[(1, .loc 1 0), (2, .loc 2 0)], [(1, .blk (eDl d) false), (2, .blk [.int .i64 0] false)]⟩) (fun _ => (d.A.length ≤ 40 ∧ d.B.length ≤ 40) ∧ d.na ≤ 400 ∧ d.nb ≤ 400) ?_ ?_
        · have e7 : ¬ ((d.A.length ≤ 40 ∧ d.B.length ≤ 40) ∧ d.na ≤ 400 ∧ d.nb ≤ 400) → 7 = chkD d := fun h => by unfold chkD; rw [if_neg (fun h => h p1), if_neg (fun h => h p2), if_pos h]
          simp +contextual (maxSteps := 5000000) only [go_sem, ↓reduceIte, c_need, st_need, eDl, finD, resB, panB, panE, locR]
          intro _ _
          split
          · split
            · exact ⟨(), by omega⟩
            · exact e7 (by omega)
          · exact e7 (by omega)
        · intro _ p3
          unfold eDl
          simp +contextual (maxSteps := 5000000) only [go_sem, ↓reduceIte]
          refine M_join (fun _ : Unit => ⟨[(1, .loc 1 0), (2, .loc 2 0), (68, .vec 68 2), (69, .int .i64 2), (70, .int .i64 0)], [(1, .blk (eDl d) false), (2, .blk [.int .i64 0] false), (68, .vec 32 1 ([chk d.cols d.A.length d.B.length, chk d.rows d.na d.nb].map eI) 0)]⟩) (fun _ => True) ?_ ?_
          · simp +contextual (maxSteps := 5000000) only [go_sem, ↓reduceIte, eDl, c_Check, st_Check, dP_eP, eI]
            exact ⟨⟨by omega, by omega, by omega⟩, ⟨by omega, by omega, by omega⟩, ⟨(), rfl⟩⟩
          · intro _ _
            unfold eDl
            simp +contextual (maxSteps := 5000000) only [go_sem, ↓reduceIte]
            obtain ⟨cs, hcs⟩ : ∃ cs, cs = [chk d.cols d.A.length d.B.length, chk d.rows d.na d.nb] := ⟨_, rfl⟩
            have hl : cs.length = 2 := by rw [hcs]; rfl
            have ec : ∀ i, i < 2 → (∀ j, j < i → cs.getD j 0 = 0) → cs.getD i 0 ≠ 0 → cs.getD i 0 = chkD d := fun i hi hz hne => by
              unfold chkD
              rw [if_neg (fun h => h p1), if_neg (fun h => h p2), if_neg (fun h => h p3)]
              have hc : i = 0 ∨ i = 1 := by omega
              rcases hc with rfl | rfl
              · simp only [hcs, List.getD_cons_zero] at hne ⊢
                rw [if_pos hne]
              · have z0 := hz 0 (by omega)
                simp only [hcs, List.getD_cons_zero, List.getD_cons_succ] at hne z0 ⊢
                rw [if_neg (fun h => h z0), if_pos hne]
            refine M_loopI (fun i : Nat => ⟨[(1, .loc 1 0), (2, .loc 2 0), (68, .vec 68 2), (69, .int .i64 (2 : Nat)), (70, .int .i64 i)], [(1, .blk (eDl d) false), (2, .blk [.int .i64 0] false), (68, .vec 32 1 (cs.map eI) 0)]⟩)
              (fun i => 2 - i) (fun i => i ≤ 2 ∧ ∀ j, j < i → cs.getD j 0 = 0) 0 ?_ ?_
            · simp +contextual (maxSteps := 5000000) only [go_sem, ↓reduceIte, eI, hcs, eDl]
              exact ⟨rfl, rfl⟩
            · intro i hi
              by_cases hlt : i < 2
              · have hat := eI_at cs i (by omega)
                simp +contextual (maxSteps := 5000000) only [go_sem, ↓reduceIte, hat, hlt, hl, eDl, c_need, st_need, finD, resB, panB, panE, locR]
                obtain ⟨_, hz⟩ := hi
                split
                · rename_i hze
                  refine ⟨inR64 (by omega) (by omega), fun _ => ⟨i + 1, by simp, by omega, by omega, fun j hj => ?_⟩⟩
                  rcases lt_cases hj with h | rfl
                  · exact hz j h
                  · exact hze
                · rename_i hne
                  exact ec i hlt hz hne
              · obtain ⟨_, hz⟩ := hi
                have z0 := hz 0 (by omega)
                have z1 := hz 1 (by omega)
                simp only [hcs, List.getD_cons_zero, List.getD_cons_succ] at z0 z1
                simp +contextual (maxSteps := 5000000) only [go_sem, ↓reduceIte, hlt, hl, eDl, c_RestA, st_RestA, c_RestB, st_RestB, dP_eP, gI]
                refine ⟨⟨by omega, by omega⟩, ⟨by omega, by omega⟩, ?_⟩
                refine M_join (fun _ : Unit => ⟨[(1, .loc 1 0), (2, .loc 2 0), (5, .sl 1 ((goneR d).map eI)), (6, .sl 1 ((newR' d).map eI)), (7, .sl 1 ((goneC d).map eI)), (8, .sl 1 ((newC d).map eI))], [(1, .blk (eDl d) false), (2, .blk [.int .i64 0] false)]⟩) (fun _ => True) ?_ ?_
                · simp +contextual (maxSteps := 5000000) only [go_sem, ↓reduceIte, eDl, c_RestA, st_RestA, c_RestB, st_RestB, dP_eP, gI]
                  exact ⟨⟨by omega, by omega⟩, ⟨by omega, by omega⟩, ⟨(), rfl, rfl, rfl, rfl⟩⟩
                · intro _ _
                  unfold eDl
                  simp +contextual (maxSteps := 5000000) only [go_sem, ↓reduceIte]
                  have base : chkD d = if ¬ (mtF (isL d.A.length) d.dels (goneR d) = true ∧ mtF (isL d.B.length) d.inss (newR' d) = true) then 13
                      else if ¬ (mtF isS d.lost (crF (wiF (goneR d) d.na.toNat) (goneC d)) = true ∧ mtF isS d.gain (crF (wiF (newR' d) d.nb.toNat) (newC d)) = true) then 13
                      else if ∃ i, i < d.sets.length ∧ okS d i = false then 13
                      else if ∃ s ∈ txF d, 1000 < s.length then 7 else 0 := by
                    conv => lhs; unfold chkD
                    rw [if_neg (fun h => h p1), if_neg (fun h => h p2), if_neg (fun h => h p3), if_neg (fun h => h z0), if_neg (fun h => h z1)]
                  have l1 : (goneR d).length < 1000000000 := Nat.lt_of_le_of_lt (rsL_len _ _) (by omega)
                  have l2 : (newR' d).length < 1000000000 := Nat.lt_of_le_of_lt (rsL_len _ _) (by omega)
                  have l3 : (goneC d).length < 1000000000 := Nat.lt_of_le_of_lt (rsL_len _ _) (by omega)
                  have l4 : (newC d).length < 1000000000 := Nat.lt_of_le_of_lt (rsL_len _ _) (by omega)
                  refine M_join (fun _ : Unit => ⟨[(1, .loc 1 0), (2, .loc 2 0), (5, .sl 1 ((goneR d).map eI)), (6, .sl 1 ((newR' d).map eI)), (7, .sl 1 ((goneC d).map eI)), (8, .sl 1 ((newC d).map eI)), (9, .fn 34 [] [])], [(1, .blk (eDl d) false), (2, .blk [.int .i64 0] false)]⟩) (fun _ => mtF (isL d.A.length) d.dels (goneR d) = true) ?_ ?_
                  · have e13 : ¬ mtF (isL d.A.length) d.dels (goneR d) = true → 13 = chkD d := fun h => by rw [base, if_pos (fun h' => h h'.1)]
                    simp +contextual (maxSteps := 5000000) only [go_sem, ↓reduceIte, eDl, c_Values, st_Values, c_whole, st_whole, c_mL, st_mL, dL_eL, dI_eI, mtO, finD, resB, panB, panE, locR]
                    refine ⟨?_, ?_⟩
                    · show lastA _ = true
                      kernel_rfl
                    refine ⟨⟨by omega, l1⟩, ?_⟩
                    split
                    · exact ⟨(), trivial⟩
                    · rename_i h; exact e13 h
                  · intro _ p4
                    unfold eDl
                    simp +contextual (maxSteps := 5000000) only [go_sem, ↓reduceIte]
                    refine M_join (fun _ : Unit => ⟨[(1, .loc 1 0), (2, .loc 2 0), (5, .sl 1 ((goneR d).map eI)), (6, .sl 1 ((newR' d).map eI)), (7, .sl 1 ((goneC d).map eI)), (8, .sl 1 ((newC d).map eI))], [(1, .blk (eDl d) false), (2, .blk [.int .i64 0] false)]⟩) (fun _ => mtF (isL d.B.length) d.inss (newR' d) = true) ?_ ?_
                    · have e13 : ¬ mtF (isL d.B.length) d.inss (newR' d) = true → 13 = chkD d := fun h => by rw [base, if_pos (fun h' => h h'.2)]
                      simp +contextual (maxSteps := 5000000) only [go_sem, ↓reduceIte, eDl, c_Values, st_Values, c_whole, st_whole, c_mL, st_mL, dL_eL, dI_eI, mtO, finD, resB, panB, panE, locR]
                      refine ⟨?_, ?_⟩
                      · show lastA _ = true
                        kernel_rfl
                      refine ⟨⟨by omega, l2⟩, ?_⟩
                      split
                      · exact ⟨(), trivial⟩
                      · rename_i h; exact e13 h
                    · intro _ p5
                      unfold eDl
                      simp +contextual (maxSteps := 5000000) only [go_sem, ↓reduceIte]
                      have base2 : chkD d = if ¬ (mtF isS d.lost (crF (wiF (goneR d) d.na.toNat) (goneC d)) = true ∧ mtF isS d.gain (crF (wiF (newR' d) d.nb.toNat) (newC d)) = true) then 13
                          else if ∃ i, i < d.sets.length ∧ okS d i = false then 13
                          else if ∃ s ∈ txF d, 1000 < s.length then 7 else 0 := by
                        rw [base, if_neg (fun h => h ⟨p4, p5⟩)]
                      have l5 : (wiF (goneR d) d.na.toNat).length < 1000000000 := Nat.lt_of_le_of_lt (rsL_len _ _) (by omega)
                      have l6 : (wiF (newR' d) d.nb.toNat).length < 1000000000 := Nat.lt_of_le_of_lt (rsL_len _ _) (by omega)
                      refine M_join (fun _ : Unit => ⟨[(1, .loc 1 0), (2, .loc 2 0), (5, .sl 1 ((goneR d).map eI)), (6, .sl 1 ((newR' d).map eI)), (7, .sl 1 ((goneC d).map eI)), (8, .sl 1 ((newC d).map eI)), (10, .fn 38 [] [])], [(1, .blk (eDl d) false), (2, .blk [.int .i64 0] false)]⟩) (fun _ => mtF isS d.lost (crF (wiF (goneR d) d.na.toNat) (goneC d)) = true) ?_ ?_
                      · have e13 : ¬ mtF isS d.lost (crF (wiF (goneR d) d.na.toNat) (goneC d)) = true → 13 = chkD d := fun h => by rw [base2, if_pos (fun h' => h h'.1)]
                        simp +contextual (maxSteps := 5000000) only [go_sem, ↓reduceIte, eDl, c_within, st_within, c_cross, st_cross, c_mS, st_mS, dSp_eSp, dI_eI, gI, mtO, finD, resB, panB, panE, locR]
                        refine ⟨?_, ?_⟩
                        · show lastA _ = true
                          kernel_rfl
                        refine ⟨⟨l1, by omega⟩, ⟨by omega, l5, l3⟩, ?_⟩
                        split
                        · exact ⟨(), trivial⟩
                        · rename_i h; exact e13 h
                      · intro _ p6
                        unfold eDl
                        simp +contextual (maxSteps := 5000000) only [go_sem, ↓reduceIte]
                        refine M_join (fun _ : Unit => ⟨[(1, .loc 1 0), (2, .loc 2 0)], [(1, .blk (eDl d) false), (2, .blk [.int .i64 0] false)]⟩) (fun _ => mtF isS d.gain (crF (wiF (newR' d) d.nb.toNat) (newC d)) = true) ?_ ?_
                        · have e13 : ¬ mtF isS d.gain (crF (wiF (newR' d) d.nb.toNat) (newC d)) = true → 13 = chkD d := fun h => by rw [base2, if_pos (fun h' => h h'.2)]
                          simp +contextual (maxSteps := 5000000) only [go_sem, ↓reduceIte, eDl, c_within, st_within, c_cross, st_cross, c_mS, st_mS, dSp_eSp, dI_eI, gI, mtO, finD, resB, panB, panE, locR]
                          refine ⟨?_, ?_⟩
                          · show lastA _ = true
                            kernel_rfl
                          refine ⟨⟨l2, by omega⟩, ⟨by omega, l6, l4⟩, ?_⟩
                          split
                          · exact ⟨(), trivial⟩
                          · rename_i h; exact e13 h
                        · intro _ p7
                          have base3 : chkD d = if ∃ i, i < d.sets.length ∧ okS d i = false then 13
                              else if ∃ s ∈ txF d, 1000 < s.length then 7 else 0 := by
                            rw [base2, if_neg (fun h => h ⟨p6, p7⟩)]
                          unfold eDl
                          simp +contextual (maxSteps := 5000000) only [go_sem, ↓reduceIte]
                          intro _
                          refine M_loopI (fun i : Nat => ⟨[(1, .loc 1 0), (2, .loc 2 0), (142, .sl 6 (d.sets.map eD6)), (143, .int .i64 d.sets.length), (144, .int .i64 i)], [(1, .blk (eDl d) false), (2, .blk [.int .i64 0] false)]⟩) (fun i => d.sets.length - i) (fun i => i ≤ d.sets.length ∧ ∀ j, j < i → okS d j = true) 0 ?_ ?_
                          · simp +contextual (maxSteps := 5000000) only [go_sem, ↓reduceIte, eDl]
                            rfl
                          · intro i hi
                            obtain ⟨hi, hok⟩ := hi
                            by_cases hlt : i < d.sets.length
                            · have hat := eD6_at d.sets i hlt
                              have hat2 := eD6_at d.sets (i - 1) (by omega)
                              have eb : okS d i = false → 13 = chkD d := fun h => by rw [base3, if_pos ⟨i, hlt, h⟩]
                              have eg : okS d i = true → ∀ j, j < i + 1 → okS d j = true := fun h j hj => by
                                rcases lt_cases hj with h' | rfl
                                · exact hok j h'
                                · exact h
                              have oks : okS d i = (decide (((d.sets.getD i default).i, (d.sets.getD i default).j) ∈ d.rows) && decide (((d.sets.getD i default).p, (d.sets.getD i default).q) ∈ d.cols) && decide ((d.sets.getD i default).o ≠ (d.sets.getD i default).n) && (decide (i = 0) || decide (ordF (d.sets.getD (i - 1) default) (d.sets.getD i default) < 0))) := rfl
                              generalize hx : d.sets.getD i default = x at hat oks
                              generalize hy : d.sets.getD (i - 1) default = y at hat2 oks
                              by_cases q1 : (x.i, x.j) ∈ d.rows
                              · by_cases q2 : (x.p, x.q) ∈ d.cols
                                · by_cases q3 : x.o = x.n
                                  · simp +contextual (maxSteps := 5000000) only [go_sem, ↓reduceIte, eI_at, eI_set, List.length_set, tn_add, tn_add1, tn_sub, tn_sub1, sh1, sh1b, half_cast, hat, hlt, eDl, c_contP, st_contP, dP_eP, q1, q2, q3, c_need, st_need, finD, resB, panB, panE, locR]
                                    refine ⟨by omega, by omega, ?_, ?_⟩
                                    · show lastA _ = true
                                      kernel_rfl
                                    exact eb (by rw [oks, q3]; simp)
                                  · by_cases q4 : i = 0
                                    · subst q4
                                      simp +contextual (maxSteps := 5000000) only [go_sem, ↓reduceIte, eI_at, eI_set, List.length_set, tn_add, tn_add1, tn_sub, tn_sub1, sh1, sh1b, half_cast, hat, hlt, eDl, c_contP, st_contP, dP_eP, q1, q2, q3, z0, c_need, st_need, finD, resB, panB, panE, locR, Int.toNat_zero, Int.reduceToNat, Nat.sub_zero, Nat.le_refl]
                                      refine ⟨by omega, by omega, ?_, ?_⟩
                                      · show lastA _ = true
                                        kernel_rfl
                                      rw [if_neg (by simp)]
                                      exact ⟨inR64 (by omega) (by omega), fun _ => ⟨0 + 1, by simp, by omega, by omega, eg (by rw [oks, decide_eq_true q1, decide_eq_true q2]; simp [q3])⟩⟩
                                    · simp +contextual (maxSteps := 5000000) only [go_sem, ↓reduceIte, eI_at, eI_set, List.length_set, tn_add, tn_add1, tn_sub, tn_sub1, sh1, sh1b, half_cast, hat, hat2, hlt, eDl, c_contP, st_contP, dP_eP, q1, q2, q3, q4, c_ord, st_ord, c_need, st_need, finD, resB, panB, panE, locR]
                                      refine ⟨by omega, by omega, ?_, ?_⟩
                                      · show lastA _ = true
                                        kernel_rfl
                                      rw [if_pos (by omega)]
                                      refine ⟨inR64 (by omega) (by omega), fun _ => ⟨⟨by omega, by omega⟩, fun _ => ?_⟩⟩
                                      split
                                      · rename_i q5
                                        have q5' : ordF y x < 0 := q5
                                        exact ⟨inR64 (by omega) (by omega), fun _ => ⟨i + 1, by simp, by omega, by omega, eg (by rw [oks, decide_eq_true q1, decide_eq_true q2, decide_eq_true q5']; simp [q3])⟩⟩
                                      · rename_i q5
                                        have q5' : ¬ ordF y x < 0 := q5
                                        exact eb (by rw [oks, decide_eq_false q5']; simp [q4])
                                · simp +contextual (maxSteps := 5000000) only [go_sem, ↓reduceIte, eI_at, eI_set, List.length_set, tn_add, tn_add1, tn_sub, tn_sub1, sh1, sh1b, half_cast, hat, hlt, eDl, c_contP, st_contP, dP_eP, q1, q2, c_need, st_need, finD, resB, panB, panE, locR]
                                  exact ⟨by omega, by omega, eb (by rw [oks, decide_eq_false q2]; simp)⟩
                              · simp +contextual (maxSteps := 5000000) only [go_sem, ↓reduceIte, eI_at, eI_set, List.length_set, tn_add, tn_add1, tn_sub, tn_sub1, sh1, sh1b, half_cast, hat, hlt, eDl, c_contP, st_contP, dP_eP, q1, c_need, st_need, finD, resB, panB, panE, locR]
                                exact ⟨by omega, eb (by rw [oks, decide_eq_false q1]; simp)⟩
                            · have base4 : chkD d = if ∃ s ∈ txF d, 1000 < s.length then 7 else 0 := by
                                rw [base3, if_neg]
                                rintro ⟨j, hj, h⟩
                                rw [hok j (by omega)] at h; cases h
                              have ht := st_tx d
                              simp +contextual (maxSteps := 5000000) only [go_sem, ↓reduceIte, hlt, eDl, c_tx, ht]
                              have ht1 := st_tx1 d
                              refine M_range (f := 92) (caps := [.box (eDl d)]) (ys := (txF d).map eS) (pre := (c_tx1 d [.box (eDl d)] []).1) ?_ ?_ ?_ (σ := Unit) [(2, .loc 2 0)] (fun j _ => [(2, .blk [.int .i64 0] false)]) (fun j _ => j ≤ (txF d).length ∧ ∀ k, k < j → ((txF d).getD k []).length ≤ 1000) () ?_ ?_ ?_ ?_
                              · simp +contextual (maxSteps := 5000000) only [go_sem, ↓reduceIte, eDl]
                              · simp +contextual (maxSteps := 5000000) only [go_sem, ↓reduceIte, c_tx1, eDl]
                              · simp +contextual (maxSteps := 5000000) only [go_sem, ↓reduceIte, c_tx1, ht1, eDl]
                                exact hh
                              · simp +contextual (maxSteps := 5000000) only [go_sem, ↓reduceIte]
                                intro y hy
                                obtain ⟨x, _, rfl⟩ := List.mem_map.1 hy
                                rfl
                              · simp +contextual (maxSteps := 5000000) only [go_sem, ↓reduceIte]
                              · intro j _ hj hlt2
                                obtain ⟨hj, hm⟩ := hj
                                have hlt3 : j < (txF d).length := by simpa using hlt2
                                have hY : ((txF d).map eS).getD j [] = [.str ((txF d).getD j [])] := eS_at (txF d) j hlt3
                                rw [hY]
                                by_cases q : ((((txF d).getD j []).length : Nat) : Int) ≤ 1000
                                · simp +contextual (maxSteps := 5000000) only [go_sem, ↓reduceIte, putPs, c_need, st_need, q, finD, resB, panB, panE, locR]
                                  refine fun _ => ⟨(), by omega, fun k hk => ?_⟩
                                  rcases lt_cases hk with h | rfl
                                  · exact hm k h
                                  · omega
                                · simp +contextual (maxSteps := 5000000) only [go_sem, ↓reduceIte, putPs, c_need, st_need, q, finD, resB, panB, panE, locR]
                                  refine fun _ => ?_
                                  rw [base4, if_pos ⟨_, getD_mem (d := ([] : Str)) hlt3, by omega⟩]
                              · intro _ hs
                                simp +contextual (maxSteps := 5000000) only [go_sem, ↓reduceIte, finD, resB, panB, panE, locR]
                                obtain ⟨_, hm⟩ := hs
                                rw [base4, if_neg]
                                rintro ⟨x, hx, hlen⟩
                                obtain ⟨k, hk, e⟩ := List.getElem_of_mem hx
                                have := hm k (by simpa using hk)
                                rw [List.getD_eq_getElem?_getD, List.getElem?_eq_getElem hk, Option.getD_some, e] at this
                                omega
end Go.Proofs.YtlabdffgcciepaaGreatDoor
namespace Go.Proofs.YtlabdffgcciepaaGreatDoor
open Go.Tn
set_option maxHeartbeats 8000000
set_option maxRecDepth 100000
end Go.Proofs.YtlabdffgcciepaaGreatDoor
namespace Go.Proofs.YtlabdffgcciepaaGreatDoor
open Go.Tn
set_option maxHeartbeats 8000000
set_option maxRecDepth 100000
def sw (p : Int × Int) : Int × Int := (p.2, p.1)
def leB (x y : Int × Int) : Bool := decide (x.2 ≤ y.2)
theorem pre_leB : Ps.Pre leB := ⟨fun a b c => by simp only [leB, decide_eq_true_eq]; omega, fun a b => by simp only [leB, decide_eq_true_eq]; omega⟩
def turnP (l : List (Int × Int)) : List (Int × Int) := Ps.srt leB (l.map sw)
end Go.Proofs.YtlabdffgcciepaaGreatDoor
namespace Go.Proofs.YtlabdffgcciepaaGreatDoor
open Go.Tn
set_option maxHeartbeats 8000000
set_option maxRecDepth 100000
def befF (a b : St6) : Bool := decide (a.j < b.j) || (decide (a.j = b.j) && decide (a.q < b.q))
def c_bef (caps args : List D) : Prop × Out := match caps, args with
  | [], [.agg [.int .i64 a, .int .i64 b, .int .i64 c, .int .i64 d, .str e, .str f], .agg [.int .i64 a', .int .i64 b', .int .i64 c', .int .i64 d', .str e', .str f']] => (True, .ret (.bool (befF ⟨a, b, c, d, e, f⟩ ⟨a', b', c', d', e', f'⟩)))
  | _, _ => (False, .ret .any)
theorem fc_bef (a b : St6) : FC Tryz.prog 106 [] [.agg (eD6 a), .agg (eD6 b)] (.ret (.bool (befF a b))) := by
  unfold eD6 befF
  refine fc_M (fn := Tryz.f106) (C := (tab [] [])) (rs := [4]) mixed (by kernel_rfl) (by kernel_rfl) rfl rfl (by kernel_rfl) (by intro ys h; cases h) ?_
  by_cases h1 : a.j < b.j
  · simp +contextual (maxSteps := 5000000) only [go_sem, ↓reduceIte, h1]
  · by_cases h2 : a.j = b.j
    · have h3 : ¬ b.j < b.j := by omega
      simp +contextual (maxSteps := 5000000) only [go_sem, ↓reduceIte, h1, h2, h3]
    · simp +contextual (maxSteps := 5000000) only [go_sem, ↓reduceIte, h1, h2]
theorem st_bef : StC Tryz.prog 106 c_bef := by
  intro caps args; unfold c_bef; split
  · exact fun _ => fc_bef ⟨_, _, _, _, _, _⟩ ⟨_, _, _, _, _, _⟩
  · exact fun h => h.elim
def d6 (r : List D) : St6 := match r with | [.int _ a, .int _ b, .int _ c, .int _ d, .str e, .str f] => ⟨a, b, c, d, e, f⟩ | _ => default
theorem d6_eD6 (l : List St6) : (l.map eD6).map d6 = l := by
  induction l with
  | nil => rfl
  | cons x l ih => rw [List.map_cons, List.map_cons, ih]; rfl
end Go.Proofs.YtlabdffgcciepaaGreatDoor
namespace Go.Proofs.YtlabdffgcciepaaGreatDoor
open Go.Tn
set_option maxHeartbeats 4000000
set_option maxRecDepth 100000
theorem objs_one {H : Hp} {i : Nat} {o : LObj} (h : H i = some o) : objs H [i] = [(i, o)] := by simp only [objs, h, objs1]
end Go.Proofs.YtlabdffgcciepaaGreatDoor
namespace Go.Proofs.YtlabdffgcciepaaGreatDoor
open Go.Tn
set_option maxHeartbeats 4000000
set_option maxRecDepth 100000
structure CmpLe (cm : St6 → St6 → Int) (le : St6 → St6 → Bool) : Prop where
  e : ∀ x y, le x y = decide (0 ≤ cm y x)
  p : Ps.Pre le
theorem CmpLe.f {cm : St6 → St6 → Int} {le : St6 → St6 → Bool} (h : CmpLe cm le) {x y : St6} : le x y = false ↔ cm y x < 0 := by rw [h.e, decide_eq_false_iff_not]; omega
theorem CmpLe.t {cm : St6 → St6 → Int} {le : St6 → St6 → Bool} (h : CmpLe cm le) {x y : St6} : le x y = true ↔ ¬ cm y x < 0 := by rw [h.e, decide_eq_true_iff]; omega
end Go.Proofs.YtlabdffgcciepaaGreatDoor
namespace Go.Proofs.YtlabdffgcciepaaGreatDoor
open Go.Tn
set_option maxHeartbeats 8000000
set_option maxRecDepth 100000
end Go.Proofs.YtlabdffgcciepaaGreatDoor
namespace Go.Proofs.YtlabdffgcciepaaGreatDoor
open Go.Tn
set_option maxHeartbeats 8000000
set_option maxRecDepth 100000
end Go.Proofs.YtlabdffgcciepaaGreatDoor
namespace Go.Proofs.YtlabdffgcciepaaGreatDoor
open Go.Tn
set_option maxHeartbeats 8000000
set_option maxRecDepth 100000
def turnS (s : St6) : St6 := ⟨s.j, s.i, s.q, s.p, s.n, s.o⟩
def leJ (x y : St6) : Bool := decide (0 ≤ ordF y x)
theorem ordF_lt (x y : St6) : ordF x y < 0 ↔ x.j < y.j ∨ (x.j = y.j ∧ x.q < y.q) := by
  simp only [ordF, orF, cmpI]
  (repeat' split) <;> simp_all <;> omega
theorem leJ_iff (x y : St6) : leJ x y = true ↔ x.j < y.j ∨ (x.j = y.j ∧ x.q ≤ y.q) := by
  have := ordF_lt y x
  simp only [leJ, decide_eq_true_eq]
  omega
theorem pre_leJ : Ps.Pre leJ := ⟨fun a b c => by simp only [leJ_iff]; omega, fun a b => by simp only [leJ_iff]; omega⟩
def turnSs (l : List St6) : List St6 := Ps.srt leJ (l.map turnS)
def turnD (d : Dl) : Dl := ⟨d.B, d.A, turnP d.cols, d.nb, d.na, turnP d.rows, d.inss, d.dels, turnSs d.sets, d.gain, d.lost⟩
end Go.Proofs.YtlabdffgcciepaaGreatDoor
