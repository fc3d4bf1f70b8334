/-
  What the functions compute that the law of this claim reaches. By an AI agent.
-/
import Derived.Test.YtlabdffgcciepaaGreatDoorG5
set_option linter.unusedSimpArgs false
set_option linter.unusedVariables false
set_option linter.unusedSectionVars false
namespace Go.Proofs.YtlabdffgcciepaaGreatDoor
open Go.Tn
set_option maxHeartbeats 8000000
set_option maxRecDepth 100000
def dtB (r : List Str) : Bool := decide (r.getD 0 [] ≠ [46, 46, 46])
def cnG (L : List (List Str)) : Nat := (L.filter dtB).length
theorem cnG_app (L K : List (List Str)) : cnG (L ++ K) = cnG L + cnG K := by simp [cnG]
theorem cn_take {l : List (List Str)} {i : Nat} (h : i < l.length) : cnG ((l.take (i + 1)).drop 3) = cnG ((l.take i).drop 3) + if 2 < i ∧ (l.getD i []).getD 0 [] ≠ [46, 46, 46] then 1 else 0 := by
  have hs : l.take (i + 1) = l.take i ++ [l.getD i []] := by
    rw [List.take_add_one, List.getElem?_eq_getElem h, List.getD_eq_getElem?_getD, List.getElem?_eq_getElem h]; rfl
  have hl : (l.take i).length = i := by rw [List.length_take]; omega
  rw [hs]
  by_cases c : 2 < i
  · rw [List.drop_append_of_le_length (by omega), cnG_app]
    congr 1
    unfold cnG
    by_cases e : (l.getD i []).getD 0 [] ≠ [46, 46, 46]
    · have : dtB (l.getD i []) = true := decide_eq_true e
      rw [if_pos ⟨c, e⟩, List.filter_cons_of_pos this]; rfl
    · have : ¬ dtB (l.getD i []) = true := fun h => e (of_decide_eq_true h)
      rw [if_neg (fun h => e h.2), List.filter_cons_of_neg this]; rfl
  · rw [if_neg (fun h => c h.1), List.drop_of_length_le (by rw [List.length_append, hl]; show i + 1 ≤ 3; omega), List.drop_of_length_le (by omega)]; rfl
theorem stp_cnt {rec : Int × Int → List Str} {n : Nat} (h : ∀ p, rec p ≠ [] → dtB (rec p) = true) (s : List (List Str) × Bool) (p : Int × Int) : cnG (stpF' rec n s p).1 = cnG s.1 + if rec p ≠ [] then 1 else 0 := by
  unfold stpF'
  by_cases c : rec p ≠ []
  · rw [if_pos c, if_pos c, cnG_app]
    congr 1
    unfold cnG
    rw [List.filter_cons_of_pos (h p c)]; rfl
  · rw [if_neg c, if_neg c]
    split
    · rfl
    · rw [cnG_app]; rfl
theorem rw_cnt {rec : Int × Int → List Str} {n : Nat} (h : ∀ p, rec p ≠ [] → dtB (rec p) = true) : ∀ (L : List (Int × Int)) (s : List (List Str) × Bool), cnG (L.foldl (stpF' rec n) s).1 = cnG s.1 + L.countP (fun p => decide (rec p ≠ []))
  | [], _ => rfl
  | p :: L, s => by
    rw [List.foldl_cons, rw_cnt h L, stp_cnt h, List.countP_cons]
    by_cases c : rec p ≠ []
    · rw [if_pos c, if_pos (decide_eq_true c)]; omega
    · rw [if_neg c, if_neg (fun e => c (of_decide_eq_true e))]; omega
theorem rw_wid {rec : Int × Int → List Str} {n : Nat} (h : ∀ p, rec p ≠ [] → (rec p).length = n + 2) : ∀ (L : List (Int × Int)) (s : List (List Str) × Bool), (∀ r ∈ s.1, r.length = n + 2) → ∀ r ∈ (L.foldl (stpF' rec n) s).1, r.length = n + 2
  | [], _, hs => hs
  | p :: L, s, hs => by
    rw [List.foldl_cons]
    refine rw_wid h L _ fun r hr => ?_
    unfold stpF' at hr
    split at hr
    · rename_i c
      rcases List.mem_append.1 hr with hr | hr
      · exact hs r hr
      · obtain rfl := List.mem_singleton.1 hr; exact h p c
    · split at hr
      · exact hs r hr
      · rcases List.mem_append.1 hr with hr | hr
        · exact hs r hr
        · obtain rfl := List.mem_singleton.1 hr; simp [gapF]
theorem tlM_ne (b : Bool) (l : List St6) (k : Nat) : tlM b l (arF k) ≠ [46, 46, 46] := by
  have ha : ∃ x y, arF k = x :: y ∧ x ≠ 46 := by
    cases k with
    | zero => exact ⟨62, [], rfl, by decide⟩
    | succ k => exact ⟨45, arF k, arF_succ k, by decide⟩
  obtain ⟨x, y, e, hx⟩ := ha
  rw [e]
  unfold tlM
  cases b <;> by_cases c : 0 < l.length <;> simp [c, hx]
theorem recR_h {d : Dl} {p : Int × Int} (h : recR d p ≠ []) : dtB (recR d p) = true ∧ (recR d p).length = (shF d).length + 2 := by
  unfold recR at h ⊢
  split
  · rename_i c
    rw [if_pos c] at h
    unfold rtold at h ⊢
    split
    · rename_i c2; rw [if_pos c2] at h; exact absurd rfl h
    · refine ⟨decide_eq_true ?_, by simp⟩
      simp only [List.getD_cons_zero]
      exact tlM_ne _ _ _
  · split
    · exact ⟨decide_eq_true (by simp), by simp⟩
    · exact ⟨decide_eq_true (by simp), by simp⟩
theorem restA_H {l : List (Int × Int)} {na nb : Int} (g : Good l na nb) : (rsL (l.map (·.1)) na.toNat).length + l.length = na.toNat := by
  have := rsL_cnt (n := na.toNat) g.na (fun x hx => by
    obtain ⟨p, hp, rfl⟩ := List.mem_map.1 hx
    have h := g.inn p hp
    have := g.a0
    exact ⟨h.1, by rw [Int.toNat_of_nonneg this]; exact h.2.1⟩)
  rwa [List.length_map] at this
theorem restB_H {l : List (Int × Int)} {na nb : Int} (g : Good l na nb) : (rsL (l.map (·.2)) nb.toNat).length + l.length = nb.toNat := by
  have := rsL_cnt (n := nb.toNat) g.nb (fun x hx => by
    obtain ⟨p, hp, rfl⟩ := List.mem_map.1 hx
    have h := g.inn p hp
    have := g.b0
    exact ⟨h.2.2.1, by rw [Int.toNat_of_nonneg this]; exact h.2.2.2⟩)
  rwa [List.length_map] at this
theorem shF_cnt {d : Dl} (g : OkD d) : (shF d).length + d.cols.length = d.B.length + d.A.length := by
  have := restA_H g.cols
  rw [Int.toNat_natCast] at this
  unfold shF
  rw [List.length_append, byF_len]
  simp only [gnP, List.length_map]; omega
theorem tk_dp (x : Int) (G : List Int) : (tkA x G).length + (dpA x G).length = G.length := by
  rw [← List.length_append]; unfold tkA dpA; rw [List.takeWhile_append_dropWhile]
abbrev ngB (p : Int × Int) : Bool := decide (p.1 < 0 ∨ p.2 < 0)
theorem gn_cnt : ∀ G : List Int, (gnP G).countP ngB = G.length
  | [] => rfl
  | a :: G => by
    have e : gnP (a :: G) = (a, -1) :: gnP G := rfl
    rw [e, List.countP_cons, gn_cnt G, if_pos (decide_eq_true (.inr (show (-1 : Int) < 0 by decide)))]; rfl
theorem wv_cnt (st : Int × Int → Bool) : ∀ (L : List (Int × Int)) (G : List Int), (wvF st L G).countP ngB = L.countP ngB + G.length
  | [], G => by rw [wvF, gn_cnt]; simp
  | p :: L, G => by
    have := tk_dp p.1 G
    simp only [wvF]
    split
    · rw [List.countP_append, gn_cnt, List.countP_cons, wv_cnt st L, List.countP_cons]; omega
    · rw [List.countP_cons, wv_cnt st L, List.countP_cons]; omega
theorem by_cnt {l : List (Int × Int)} {na nb : Int} (g : Good l na nb) (k : Nat) : (byF l k).countP ngB = (rsL (l.map (·.2)) k).length := by
  unfold byF rsL
  rw [List.countP_map, List.length_map, ← List.countP_eq_length_filter]
  refine List.countP_congr fun b _ => ?_
  simp only [Function.comp, ngB, decide_eq_true_eq]
  rcases bbF_cases b l with ⟨q, hq, h1, h2⟩ | ⟨h1, h2⟩
  · rw [h2]
    have := g.inn q hq
    unfold inB at this
    constructor
    · intro h; omega
    · intro h; exact absurd (List.mem_map.2 ⟨q, hq, h1⟩) h
  · rw [h2]
    constructor
    · intro _ hm
      obtain ⟨q, hq, e⟩ := List.mem_map.1 hm
      exact h1 q hq e
    · intro _; exact .inl (show (-1 : Int) < 0 by decide)
theorem od_cnt {l : List (Int × Int)} {na nb : Int} (g : Good l na nb) : (odF l na nb).countP ngB = (rsL (l.map (·.2)) nb.toNat).length + (rsL (l.map (·.1)) na.toNat).length := by
  rw [od_wv g, wv_cnt, by_cnt g]
structure PutW (d : Dl) (l : List (List Str)) : Prop where
  wid : ∀ r ∈ l, (r.length : Int) = 2 + d.B.length + d.A.length - d.cols.length
  three : 3 ≤ l.length
  h0 : (l.getD 0 []).getD 0 [] = [33]
  h1 : (l.getD 1 []).getD 0 [] = [35]
  h2 : (l.getD 2 []).getD 0 [] = [64, 64]
  hi : cnG (l.drop 3) ≤ d.rows.length + d.dels.length + d.inss.length
  lo : d.dels.length + d.inss.length ≤ cnG (l.drop 3)
theorem put_w {d : Dl} (g : OkD d) : PutW d (hpF d (recR d)) := by
  have hs := shF_cnt g
  have h1 : d.dels.length = (rsL (d.rows.map (·.1)) d.na.toNat).length := mtF_len g.lines.1
  have h2 : d.inss.length = (rsL (d.rows.map (·.2)) d.nb.toNat).length := mtF_len g.lines.2
  have h3 := restB_H g.rows
  have hc := rw_cnt (n := (shF d).length) (fun p hp => (recR_h (d := d) (p := p) hp).1) (odF d.rows d.na d.nb) ([], false)
  have hw := rw_wid (n := (shF d).length) (fun p hp => (recR_h (d := d) (p := p) hp).2) (odF d.rows d.na d.nb) ([], false) (by simp)
  have hlo : (odF d.rows d.na d.nb).countP ngB ≤ (odF d.rows d.na d.nb).countP fun p => decide (recR d p ≠ []) :=
    List.countP_mono_left fun p _ hp => decide_eq_true (recR_len (fun h => by have := of_decide_eq_true hp; omega))
  rw [od_cnt g.rows] at hlo
  have hhi : ((odF d.rows d.na d.nb).countP fun p => decide (recR d p ≠ [])) ≤ (odF d.rows d.na d.nb).length := List.countP_le_length
  rw [odF_len] at hhi
  have e0 : cnG ([] : List (List Str)) = 0 := rfl
  have ed : (hpF d (recR d)).drop 3 = (rwF' (recR d) (shF d).length (odF d.rows d.na d.nb)).1 := rfl
  have ec : cnG ((hpF d (recR d)).drop 3) = (odF d.rows d.na d.nb).countP fun p => decide (recR d p ≠ []) := by rw [ed]; exact hc.trans (by simp [cnG])
  refine ⟨fun r hr => ?_, ?_, rfl, rfl, rfl, by rw [ec]; omega, by rw [ec]; omega⟩
  · have : r.length = (shF d).length + 2 := by
      rcases List.mem_append.1 (show r ∈ hdsF d (shF d) ++ (rwF' (recR d) (shF d).length (odF d.rows d.na d.nb)).1 from hr) with h | h
      · simp only [hdsF, List.mem_cons, List.not_mem_nil, or_false] at h
        rcases h with rfl | rfl | rfl <;> simp
      · exact hw r h
    omega
  · unfold hpF; rw [List.length_append]; show 3 ≤ 3 + _; omega
end Go.Proofs.YtlabdffgcciepaaGreatDoor
namespace Go.Proofs.YtlabdffgcciepaaGreatDoor
open Go.Tn
set_option maxHeartbeats 16000000
set_option maxRecDepth 100000
theorem tz0 : Int.toNat 0 = 0 := rfl
theorem tz1 : Int.toNat 1 = 1 := rfl
theorem tz2 : Int.toNat 2 = 2 := rfl
theorem fc_Wide (d : Dl) (ht : okT d) : FC Tryz.prog 4 [] [.agg (eDl d)] (.ret (.bool true)) := by
  have hd1 := dDl_eDl d
  refine fc_M (fn := Tryz.f4) (C := (tab [(6, c_wk19), (7, c_fewD), (8, c_hPt), (11, c_DChk)] [] [])) (rs := [2]) mixed (by kernel_rfl) (by kernel_rfl) rfl rfl (by kernel_rfl) (by intro ys h; cases h) ?_
  cases hf : fewF d with
  | false =>
    rw [eDl_lit] at hd1 ⊢
    simp +contextual (maxSteps := 5000000) only [go_sem, ↓reduceIte, c_wk19, st_wk19, c_fewD, w_fewD, hd1, ht, hf]
    exact wkL_self (eDl d)
  | true =>
    have ha := (few_ok hf).2.1
    by_cases hz : chkD d = 0
    rotate_left
    · have e0 : rputF d = [] := if_neg hz
      rw [eDl_lit d] at hd1 ha ⊢
      simp +contextual (maxSteps := 5000000) only [go_sem, ↓reduceIte, c_wk19, st_wk19, c_fewD, w_fewD, hd1, ht, hf, ha, c_hPt, st_hPt, c_DChk, w_DChk, e0, List.map_nil, hz]
      exact ⟨wkL_self (eDl d), fun h => absurd rfl h⟩
    have g := (chkD_zero d).1 hz
    have e0 : rputF d = hpF d (recR d) := if_pos hz
    obtain ⟨wid, three, q0, q1, q2, hhi, hlo⟩ := put_w g
    have hb := g.big
    have hsn := shF_cnt g
    rw [← e0] at wid three q0 q1 q2 hhi hlo
    rw [eDl_lit d] at hd1 ha ⊢
    simp +contextual (maxSteps := 5000000) only [go_sem, ↓reduceIte, c_wk19, st_wk19, c_fewD, w_fewD, hd1, ht, hf, ha, c_hPt, st_hPt, hz]
    generalize rputF d = l at *
    refine ⟨wkL_self (eDl d), fun _ => ⟨inR64 (by omega) (by omega), fun _ _ => ⟨inR64 (by omega) (by omega), fun _ _ => ⟨inR64 (by omega) (by omega), fun _ => ?_⟩⟩⟩⟩
    generalize hwd : (2 + ↑d.B.length + ↑d.A.length - ↑d.cols.length : Int) = wd at wid ⊢
    refine M_loopI (fun i : Nat => ⟨[(1, .loc 1 0), (3, .bool true), (5, .sl 1 (l.map eR)), (6, .int .i64 0), (7, .int .i64 wd), (8, .int .i64 (cnG ((l.take i).drop 3) : Nat)), (9, .int .i64 i)], [(1, .blk (eDl d) false)]⟩) (fun i => l.length - i) (fun i => i ≤ l.length) 0 ?_ ?_
    · simp +contextual (maxSteps := 5000000) only [go_sem, ↓reduceIte, eDl]
      exact ⟨rfl, rfl⟩
    intro i hi
    by_cases hlt : i < l.length
    rotate_left
    · obtain rfl : i = l.length := by omega
      rw [List.take_length]
      have r0 := eR_at l 0 (by omega)
      have r1 := eR_at l 1 (by omega)
      have r2 := eR_at l 2 (by omega)
      have n0 : 0 < l.length := by omega
      have n1 : 1 < l.length := by omega
      have n2 : 2 < l.length := by omega
      have n3 : (3 : Int) ≤ l.length := by omega
      have w0 := wid _ (getD_mem (d := ([] : List Str)) n0)
      have w1 := wid _ (getD_mem (d := ([] : List Str)) n1)
      have w2 := wid _ (getD_mem (d := ([] : List Str)) n2)
      generalize l.getD 0 [] = x0 at r0 q0 w0
      generalize l.getD 1 [] = x1 at r1 q1 w1
      generalize l.getD 2 [] = x2 at r2 q2 w2
      match x0, x1, x2, q0, q1, q2 with
      | _ :: y0, _ :: y1, _ :: y2, q0, q1, q2 =>
      simp only [List.getD_cons_zero] at q0 q1 q2
      subst q0 q1 q2
      unfold eDl
      simp +contextual (maxSteps := 5000000) only [go_sem, ↓reduceIte, hlt, tz0, tz1, tz2, List.getD_cons_zero, r0, r1, r2, n0, n1, n2, n3, eS]
      have hc1 : (cnG (l.drop 3) : Int) ≤ d.rows.length + d.dels.length + d.inss.length := by omega
      intro _
      refine ⟨⟨by omega, by omega⟩, fun _ => ⟨by omega, fun _ => ⟨⟨by omega, by omega⟩, fun _ => ⟨by omega, fun _ => ⟨⟨by omega, by omega⟩, fun _ => ⟨by omega, fun _ _ _ => ⟨inR64 (by omega) (by omega), fun _ _ => ⟨inR64 (by omega) (by omega), fun _ => ?_⟩⟩⟩⟩⟩⟩⟩⟩
      rw [if_pos hc1]
      exact ⟨inR64 (by omega) (by omega), fun _ => by omega⟩
    have hat := eR_at l i hlt
    have hcn := cn_take hlt
    have hw := wid _ (getD_mem (d := ([] : List Str)) hlt)
    generalize l.getD i [] = r at hat hcn hw
    match r, hw with
    | [], hw => simp at hw; omega
    | c :: r, hw =>
    simp only [List.getD_cons_zero] at hcn
    have hwr : ((r.length + 1 : Nat) : Int) = wd := by simpa using hw
    have hw0 : 0 < wd := by omega
    have hwr' : (r.length : Int) + 1 = wd := by omega
    by_cases c2 : 2 < i
    · have ci : (2 : Int) < i := by omega
      by_cases ce : c = [46, 46, 46]
      · rw [if_neg (fun h => h.2 ce)] at hcn
        subst ce
        unfold eDl
        simp +contextual (maxSteps := 5000000) only [go_sem, ↓reduceIte, hlt, tz0, List.getD_cons_zero, hw0, hat, hwr, hwr', c2, ci, eS]
        exact fun _ _ => ⟨by omega, fun _ => ⟨inR64 (by omega) (by omega), fun _ => ⟨i + 1, ⟨by omega, by omega⟩, by omega, by omega⟩⟩⟩
      · rw [if_pos ⟨c2, ce⟩] at hcn
        have hcl : cnG ((l.take i).drop 3) ≤ l.length := by
          unfold cnG
          have h1 := List.length_filter_le dtB ((l.take i).drop 3)
          rw [List.length_drop, List.length_take] at h1; omega
        unfold eDl
        simp +contextual (maxSteps := 5000000) only [go_sem, ↓reduceIte, hlt, tz0, List.getD_cons_zero, hw0, hat, hwr, hwr', c2, ci, ce, eS]
        exact fun _ _ => ⟨by omega, fun _ => ⟨inR64 (by omega) (by omega), fun _ => ⟨inR64 (by omega) (by omega), fun _ => ⟨i + 1, ⟨by omega, by omega⟩, by omega, by omega⟩⟩⟩⟩
    · have ci : ¬ (2 : Int) < i := by omega
      rw [if_neg (fun h => c2 h.1)] at hcn
      unfold eDl
      simp +contextual (maxSteps := 5000000) only [go_sem, ↓reduceIte, hlt, tz0, List.getD_cons_zero, hw0, hat, hwr, hwr', c2, ci, eS]
      exact fun _ _ => ⟨inR64 (by omega) (by omega), fun _ => ⟨i + 1, ⟨by omega, by omega⟩, by omega, by omega⟩⟩
end Go.Proofs.YtlabdffgcciepaaGreatDoor
namespace Go.Proofs.YtlabdffgcciepaaGreatDoor
open Go.Tn
set_option maxHeartbeats 8000000
set_option maxRecDepth 100000
theorem u8_dg {i : Nat} (h : i < 10) : (UInt8.ofNat (48 + i)).toNat = 48 + i := by
  rw [UInt8.toNat_ofNat']; omega
theorem dd_dig : ∀ (u : Nat), ∀ c ∈ Lib.decDigits u, 48 ≤ c.toNat ∧ c.toNat ≤ 57 := by
  intro u
  induction u using Nat.strongRecOn with
  | _ u ih =>
    intro c hc
    by_cases h : u < 10
    · rw [Lib.decDigits, dif_pos h] at hc
      obtain rfl := List.mem_singleton.1 hc
      rw [u8_dg h]; omega
    · rw [Lib.decDigits, dif_neg h] at hc
      rcases List.mem_append.1 hc with hc | hc
      · exact ih (u / 10) (by omega) c hc
      · obtain rfl := List.mem_singleton.1 hc
        rw [u8_dg (by omega)]; omega
def vlD (l : List UInt8) : Nat := l.foldl (fun a c => a * 10 + (c.toNat - 48)) 0
theorem dd_val : ∀ u : Nat, vlD (Lib.decDigits u) = u := by
  intro u
  induction u using Nat.strongRecOn with
  | _ u ih =>
    by_cases h : u < 10
    · rw [Lib.decDigits, dif_pos h]
      simp only [vlD, List.foldl_cons, List.foldl_nil]
      rw [u8_dg h]; omega
    · have h1 := ih (u / 10) (by omega)
      rw [Lib.decDigits, dif_neg h]
      unfold vlD at h1 ⊢
      rw [List.foldl_append, h1]
      simp only [List.foldl_cons, List.foldl_nil]
      rw [u8_dg (by omega)]; omega
theorem numF_no (n : Int) : (58 : UInt8) ∉ numF n := by
  unfold numF
  split
  · simp
  · rename_i h
    unfold Lib.itoa
    rw [if_neg h]
    intro hc
    have := (dd_dig _ _ hc).2
    exact absurd this (by decide)
theorem numF_inj {a b : Int} (ha : -1 ≤ a) (hb : -1 ≤ b) (h : numF a = numF b) : a = b := by
  unfold numF Lib.itoa at h
  by_cases ca : a < 0
  · by_cases cb : b < 0
    · omega
    · rw [if_pos ca, if_neg cb, if_neg cb] at h
      have := dd_dig b.toNat 45 (by rw [← h]; simp)
      exact absurd this (by decide)
  · by_cases cb : b < 0
    · rw [if_neg ca, if_neg ca, if_pos cb] at h
      have := dd_dig a.toNat 45 (by rw [h]; simp)
      exact absurd this (by decide)
    · rw [if_neg ca, if_neg ca, if_neg cb, if_neg cb] at h
      have := congrArg vlD h
      rw [dd_val, dd_val] at this
      omega
theorem cut_inj {c : UInt8} : ∀ {x x' y y' : List UInt8}, c ∉ x → c ∉ x' → x ++ c :: y = x' ++ c :: y' → x = x' ∧ y = y'
  | [], [], _, _, _, _, h => ⟨rfl, by simpa using h⟩
  | [], d :: x', _, _, _, h', h => by
    rw [List.nil_append, List.cons_append, List.cons.injEq] at h
    exact absurd (by simp [h.1]) h'
  | d :: x, [], _, _, h', _, h => by
    rw [List.nil_append, List.cons_append, List.cons.injEq] at h
    exact absurd (by simp [h.1]) h'
  | d :: x, e :: x', _, _, h1, h2, h => by
    rw [List.cons_append, List.cons_append, List.cons.injEq] at h
    have := cut_inj (fun h' => h1 (by simp [h'])) (fun h' => h2 (by simp [h'])) h.2
    exact ⟨by rw [h.1, this.1], this.2⟩
theorem plF_inj {p q : Int × Int} (h1 : -1 ≤ p.1) (h2 : -1 ≤ p.2) (h3 : -1 ≤ q.1) (h4 : -1 ≤ q.2) (h : plF p = plF q) : p = q := by
  obtain ⟨e1, e2⟩ := cut_inj (numF_no _) (numF_no _) h
  exact Prod.ext (numF_inj h1 h3 e1) (numF_inj h2 h4 e2)
theorem idx_app {z s : List UInt8} (h : s.isPrefixOf z = true) : ∀ x : List UInt8, 0 ≤ Lib.index (x ++ z) s
  | [] => by
    cases z with
    | nil =>
      cases s with
      | nil => simp [Lib.index]
      | cons _ _ => simp at h
    | cons b l => rw [List.nil_append, Lib.index, if_pos h]; omega
  | b :: x => by
    have ih := idx_app h x
    rw [List.cons_append, Lib.index]
    split
    · omega
    · rw [if_neg (by simp; omega)]; omega
theorem arF_at (k i : Nat) (y : List UInt8) (h : i < k) : (arF k ++ y)[i]? = some 45 := by
  unfold arF
  rw [List.append_assoc, List.getElem?_append_left (by simpa using h), List.getElem?_replicate, if_pos h]
theorem arF_end (k : Nat) (y : List UInt8) : (arF k ++ y)[k]? = some 62 := by
  unfold arF
  rw [List.append_assoc, List.getElem?_append_right (by simp)]; simp
theorem arrow_le {k : Nat} {x x' y y' : List UInt8} (hx : ¬ 0 ≤ Lib.index x' (arF k)) (h : x ++ (arF k ++ y) = x' ++ (arF k ++ y')) (hl : x.length ≤ x'.length) : x = x' ∧ y = y' := by
  obtain ⟨z, rfl⟩ : ∃ z, x' = x ++ z := ⟨x'.drop x.length, by
    have := congrArg (List.take x.length) h
    rw [List.take_left', List.take_append_of_le_length hl] at this
    · conv => lhs; rw [← List.take_append_drop x.length x']
      rw [← this]
    · rfl⟩
  rw [List.append_assoc] at h
  have h := List.append_cancel_left h
  cases z with
  | nil =>
    rw [List.nil_append] at h
    exact ⟨by simp, List.append_cancel_left h⟩
  | cons c z =>
    exfalso
    rcases Nat.lt_or_ge k (c :: z).length with h1 | h1
    · refine hx (idx_app ?_ x)
      rw [List.isPrefixOf_iff_prefix]
      have h2 : arF k <+: (c :: z) ++ (arF k ++ y') := ⟨y, h⟩
      exact List.prefix_of_prefix_length_le h2 (List.prefix_append _ _) (by rw [arF_len]; omega)
    · have e1 := congrArg (fun l : List UInt8 => l[k]?) h
      rw [arF_end, List.getElem?_append_right h1, arF_at _ _ _ (by simp only [List.length_cons] at h1 ⊢; omega)] at e1
      cases e1
theorem arrow_cut {k : Nat} {x x' y y' : List UInt8} (hx : ¬ 0 ≤ Lib.index x (arF k)) (hx' : ¬ 0 ≤ Lib.index x' (arF k)) (h : x ++ arF k ++ y = x' ++ arF k ++ y') : x = x' ∧ y = y' := by
  rw [List.append_assoc, List.append_assoc] at h
  rcases Nat.le_total x.length x'.length with hl | hl
  · exact arrow_le hx' h hl
  · have := arrow_le hx h.symm hl
    exact ⟨this.1.symm, this.2.symm⟩
theorem arrow_in {k : Nat} {x y z : List UInt8} (hz : ¬ 0 ≤ Lib.index z (arF k)) : x ++ arF k ++ y ≠ z := by
  rintro rfl
  refine hz ?_
  rw [List.append_assoc]
  refine idx_app ?_ x
  rw [List.isPrefixOf_iff_prefix]
  exact List.prefix_append _ _
theorem srt_ext {α : Type} {r : α → α → Prop} (irr : ∀ a, ¬ r a a) (asy : ∀ a b, r a b → r b a → False) : ∀ {l k : List α}, l.Pairwise r → k.Pairwise r → (∀ x, x ∈ l ↔ x ∈ k) → l = k
  | [], [], _, _, _ => rfl
  | [], y :: k, _, _, h => absurd ((h y).2 (by simp)) (by simp)
  | x :: l, [], _, _, h => absurd ((h x).1 (by simp)) (by simp)
  | x :: l, y :: k, hl, hk, h => by
    rw [List.pairwise_cons] at hl hk
    have e : x = y := by
      rcases List.mem_cons.1 ((h x).1 (by simp)) with e | hx
      · exact e
      · rcases List.mem_cons.1 ((h y).2 (by simp)) with e | hy
        · exact e.symm
        · exact (asy _ _ (hk.1 x hx) (hl.1 y hy)).elim
    subst e
    rw [srt_ext irr asy hl.2 hk.2 fun z => ?_]
    constructor
    · intro hz
      rcases List.mem_cons.1 ((h z).1 (by simp [hz])) with e | hz'
      · subst e; exact absurd (hl.1 _ hz) (irr _)
      · exact hz'
    · intro hz
      rcases List.mem_cons.1 ((h z).2 (by simp [hz])) with e | hz'
      · subst e; exact absurd (hk.1 _ hz) (irr _)
      · exact hz'
theorem map_ext2 {α β : Type} {f g : α → β} : ∀ {l k : List α}, (∀ x ∈ l, ∀ y ∈ k, f x = g y → x = y) → l.map f = k.map g → l = k ∧ ∀ x ∈ l, f x = g x
  | [], [], _, _ => ⟨rfl, by simp⟩
  | [], _ :: _, _, h => by simp at h
  | _ :: _, [], _, h => by simp at h
  | x :: l, y :: k, hi, h => by
    rw [List.map_cons, List.map_cons, List.cons.injEq] at h
    obtain rfl := hi x (by simp) y (by simp) h.1
    obtain ⟨e1, e2⟩ := map_ext2 (fun a ha b hb => hi a (by simp [ha]) b (by simp [hb])) h.2
    subst e1
    exact ⟨rfl, fun z hz => by
      rcases List.mem_cons.1 hz with rfl | hz
      · exact h.1
      · exact e2 z hz⟩
theorem pair_ext : ∀ {l k : List (Int × Int)}, l.map (·.1) = k.map (·.1) → l.map (·.2) = k.map (·.2) → l = k
  | [], [], _, _ => rfl
  | [], _ :: _, h, _ => by simp at h
  | _ :: _, [], h, _ => by simp at h
  | x :: l, y :: k, h1, h2 => by
    rw [List.map_cons, List.map_cons, List.cons.injEq] at h1 h2
    rw [pair_ext h1.2 h2.2, Prod.ext h1.1 h2.1]
theorem stR_up (l : List (Int × Int)) : ∀ (n : List Int) (k : Nat) (want : Int) (last : Option Int), ((stR k (l.drop k) n want last).map fun j => l.getD j.toNat (0, 0)).Pairwise (fun p q => p.1 < q.1) ∧ (∀ a, last = some a → ∀ p ∈ (stR k (l.drop k) n want last).map fun j => l.getD j.toNat (0, 0), a < p.1) ∧ ((stR k (l.drop k) n want last).map fun j => l.getD j.toNat (0, 0)).Sublist (l.drop k)
  | [], k, want, last => by cases l.drop k <;> simp [stR]
  | m :: n, k, want, last => by
    rcases Nat.lt_or_ge k l.length with hk | hk
    · rw [drop_getD (d := (0, 0)) hk]
      have e : ((k : Int) + 1) = ((k + 1 : Nat) : Int) := by omega
      have et : l.getD (k : Int).toNat (0, 0) = l.getD k (0, 0) := by rw [Int.toNat_natCast]
      simp only [stR]
      split
      · rename_i c
        obtain ⟨h1, h2, h3⟩ := stR_up l n (k + 1) (want - 1) (some (l.getD k (0, 0)).1)
        rw [← e] at h1 h2 h3
        rw [List.map_cons, et]
        refine ⟨List.pairwise_cons.2 ⟨fun p hp => h2 _ rfl p hp, h1⟩, fun a ha p hp => ?_, h3.cons_cons _⟩
        subst ha
        have c3 : a < (l.getD k (0, 0)).1 := by simpa [okLast] using c.2.2
        rcases List.mem_cons.1 hp with rfl | hp
        · exact c3
        · have := h2 _ rfl p hp; omega
      · obtain ⟨h1, h2, h3⟩ := stR_up l n (k + 1) want last
        rw [← e] at h1 h2 h3
        exact ⟨h1, h2, h3.cons _⟩
    · rw [List.drop_of_length_le hk]; simp [stR]
theorem stP_up (l : List (Int × Int)) : (stP l).Pairwise (fun p q => p.1 < q.1) ∧ (stP l).Sublist l := by
  have := stR_up l (lgF l) 0 (mx0 (lgF l)) none
  rw [List.drop_zero] at this
  exact ⟨this.1, this.2.2⟩
end Go.Proofs.YtlabdffgcciepaaGreatDoor
namespace Go.Proofs.YtlabdffgcciepaaGreatDoor
open Go.Tn
set_option maxHeartbeats 8000000
set_option maxRecDepth 100000
theorem mem_wv {st : Int × Int → Bool} {x : Int × Int} : ∀ {L : List (Int × Int)} {G : List Int}, (x ∈ L ∨ ∃ a ∈ G, x = (a, -1)) → x ∈ wvF st L G
  | [], G, h => by
    rcases h with h | ⟨a, ha, rfl⟩
    · simp at h
    · exact List.mem_map.2 ⟨a, ha, rfl⟩
  | p :: r, G, h => by
    simp only [wvF]
    split
    · rw [List.mem_append, List.mem_cons]
      rcases h with h | ⟨a, ha, rfl⟩
      · rcases List.mem_cons.1 h with rfl | h
        · exact .inr (.inl rfl)
        · exact .inr (.inr (mem_wv (.inl h)))
      · have : a ∈ tkA p.1 G ++ dpA p.1 G := by unfold tkA dpA; rw [List.takeWhile_append_dropWhile]; exact ha
        rcases List.mem_append.1 this with h1 | h1
        · exact .inl (List.mem_map.2 ⟨a, h1, rfl⟩)
        · exact .inr (.inr (mem_wv (.inr ⟨a, h1, rfl⟩)))
    · rw [List.mem_cons]
      rcases h with h | h
      · rcases List.mem_cons.1 h with rfl | h
        · exact .inl rfl
        · exact .inr (mem_wv (.inl h))
      · exact .inr (mem_wv (.inr h))
theorem by_mem {l : List (Int × Int)} {na nb : Int} (g : Good l na nb) {q : Int × Int} (h : q ∈ l) : q ∈ byF l nb.toNat := by
  have hb := g.inn q h
  unfold inB at hb
  refine List.mem_map.2 ⟨q.2.toNat, List.mem_range.2 (by omega), ?_⟩
  rw [Int.toNat_of_nonneg (by omega)]
  rcases bbF_cases q.2 l with ⟨r, hr, h1, h2⟩ | ⟨h1, h2⟩
  · rw [h2]; exact inj_at g.nb hr h h1
  · exact absurd rfl (h1 q h)
theorem by_new {l : List (Int × Int)} {nb : Int} {b : Int} (h : b ∈ rsL (l.map (·.2)) nb.toNat) : (-1, b) ∈ byF l nb.toNat := by
  obtain ⟨⟨h0, h1⟩, h2⟩ := mem_rsL.1 h
  refine List.mem_map.2 ⟨b.toNat, List.mem_range.2 (by omega), ?_⟩
  rw [Int.toNat_of_nonneg h0]
  rcases bbF_cases b l with ⟨r, hr, e, _⟩ | ⟨_, e⟩
  · exact absurd (List.mem_map.2 ⟨r, hr, e⟩) h2
  · exact e
theorem od_iff {l : List (Int × Int)} {na nb : Int} (g : Good l na nb) {x : Int × Int} : x ∈ odF l na nb ↔ x ∈ l ∨ (x.1 = -1 ∧ x.2 ∈ rsL (l.map (·.2)) nb.toNat) ∨ (x.2 = -1 ∧ x.1 ∈ rsL (l.map (·.1)) na.toNat) := by
  refine ⟨odF_mem g, fun h => ?_⟩
  rw [od_wv g]
  rcases h with h | ⟨h1, h2⟩ | ⟨h1, h2⟩
  · exact mem_wv (.inl (by_mem g h))
  · have e : x = (-1, x.2) := Prod.ext h1 rfl
    rw [e]; exact mem_wv (.inl (by_new h2))
  · exact mem_wv (.inr ⟨x.1, h2, Prod.ext rfl h1⟩)
theorem sh_iff {d : Dl} (g : OkD d) {q : Int × Int} : q ∈ shF d ↔ q ∈ d.cols ∨ (q.1 = -1 ∧ q.2 ∈ newC d) ∨ (q.2 = -1 ∧ q.1 ∈ goneC d) := by
  unfold shF
  constructor
  · intro h
    rcases List.mem_append.1 h with h | h
    · obtain ⟨b, hb, rfl⟩ := List.mem_map.1 h
      have hb' := List.mem_range.1 hb
      rcases bbF_cases b d.cols with ⟨r, hr, h1, h2⟩ | ⟨h1, h2⟩
      · rw [h2]; exact .inl hr
      · rw [h2]
        refine .inr (.inl ⟨rfl, mem_rsL.2 ⟨⟨Int.natCast_nonneg _, by simp only; omega⟩, fun hm => ?_⟩⟩)
        obtain ⟨r, hr, e⟩ := List.mem_map.1 hm
        exact h1 r hr e
    · obtain ⟨a, ha, rfl⟩ := List.mem_map.1 h
      exact .inr (.inr ⟨rfl, ha⟩)
  · intro h
    rcases h with h | ⟨h1, h2⟩ | ⟨h1, h2⟩
    · have := by_mem g.cols h
      rw [Int.toNat_natCast] at this
      exact List.mem_append.2 (.inl this)
    · have e : q = (-1, q.2) := Prod.ext h1 rfl
      have := by_new (l := d.cols) (nb := d.B.length) (b := q.2) (by rw [Int.toNat_natCast]; exact h2)
      rw [Int.toNat_natCast] at this
      rw [e]; exact List.mem_append.2 (.inl this)
    · exact List.mem_append.2 (.inr (List.mem_map.2 ⟨q.1, h2, (Prod.ext rfl h1 : q = (q.1, -1)).symm⟩))
theorem sh_A {d : Dl} (g : OkD d) (i : Nat) : i < d.A.length ↔ ∃ q ∈ shF d, q.1 = i := by
  constructor
  · intro h
    by_cases c : (i : Int) ∈ d.cols.map (·.1)
    · obtain ⟨q, hq, e⟩ := List.mem_map.1 c
      exact ⟨q, (sh_iff g).2 (.inl hq), e⟩
    · exact ⟨(i, -1), (sh_iff g).2 (.inr (.inr ⟨rfl, mem_rsL.2 ⟨⟨Int.natCast_nonneg _, by simp only; omega⟩, c⟩⟩)), rfl⟩
  · rintro ⟨q, hq, e⟩
    have := shown_in g q hq
    omega
theorem sh_B {d : Dl} (g : OkD d) (j : Nat) : j < d.B.length ↔ ∃ q ∈ shF d, q.2 = j := by
  constructor
  · intro h
    by_cases c : (j : Int) ∈ d.cols.map (·.2)
    · obtain ⟨q, hq, e⟩ := List.mem_map.1 c
      exact ⟨q, (sh_iff g).2 (.inl hq), e⟩
    · exact ⟨(-1, j), (sh_iff g).2 (.inr (.inl ⟨rfl, mem_rsL.2 ⟨⟨Int.natCast_nonneg _, by simp only; omega⟩, c⟩⟩)), rfl⟩
  · rintro ⟨q, hq, e⟩
    have := shown_in g q hq
    omega
theorem sh_cols {d : Dl} (g : OkD d) (q : Int × Int) : q ∈ d.cols ↔ q ∈ shF d ∧ 0 ≤ q.1 ∧ 0 ≤ q.2 := by
  constructor
  · intro h
    have := g.cols.inn q h
    unfold inB at this
    exact ⟨(sh_iff g).2 (.inl h), this.1, this.2.2.1⟩
  · rintro ⟨h, h1, h2⟩
    rcases (sh_iff g).1 h with h | ⟨h3, _⟩ | ⟨h3, _⟩
    · exact h
    · omega
    · omega
theorem lt_ext {m n : Nat} (h : ∀ i, i < m ↔ i < n) : m = n := by
  have h1 := h m
  have h2 := h n
  omega
theorem aw_no {l : List Str} (h : ∀ s ∈ l, s.length < 900000) {s : Str} (hs : s ∈ l) : ¬ 0 ≤ Lib.index s (awF l) := (arN_spec 900000 l 1 h (by omega)).2.2.1 s hs
theorem nm_inj {A B A' B' : List Str} {k : Nat} {q : Int × Int} (h1 : 0 ≤ q.1 → ¬ 0 ≤ Lib.index (A.getD q.1.toNat []) (arF k)) (h2 : 0 ≤ q.2 → ¬ 0 ≤ Lib.index (B.getD q.2.toNat []) (arF k))
    (h3 : 0 ≤ q.1 → ¬ 0 ≤ Lib.index (A'.getD q.1.toNat []) (arF k)) (h4 : 0 ≤ q.2 → ¬ 0 ≤ Lib.index (B'.getD q.2.toNat []) (arF k)) (h : nmF A B (arF k) q = nmF A' B' (arF k) q) :
    (0 ≤ q.1 → A.getD q.1.toNat [] = A'.getD q.1.toNat []) ∧ (0 ≤ q.2 → B.getD q.2.toNat [] = B'.getD q.2.toNat []) := by
  unfold nmF at h
  generalize A.getD q.1.toNat [] = x at *
  generalize B.getD q.2.toNat [] = y at *
  generalize A'.getD q.1.toNat [] = x' at *
  generalize B'.getD q.2.toNat [] = y' at *
  by_cases c1 : q.2 < 0
  · rw [if_pos c1, if_pos c1] at h
    exact ⟨fun _ => h, fun h => by omega⟩
  · rw [if_neg c1, if_neg c1] at h
    by_cases c2 : q.1 < 0
    · rw [if_pos (.inl c2), if_pos (.inl c2)] at h
      exact ⟨fun h => by omega, fun _ => h⟩
    · have g1 := h1 (by omega)
      have g2 := h2 (by omega)
      have g3 := h3 (by omega)
      have g4 := h4 (by omega)
      by_cases e : x = y
      · rw [if_pos (.inr e)] at h
        by_cases e' : x' = y'
        · rw [if_pos (.inr e')] at h
          subst e e' h
          exact ⟨fun _ => rfl, fun _ => rfl⟩
        · rw [if_neg (fun h => h.elim c2 e')] at h
          exact absurd h.symm (arrow_in g2)
      · rw [if_neg (fun h => h.elim c2 e)] at h
        by_cases e' : x' = y'
        · rw [if_pos (.inr e')] at h
          exact absurd h (arrow_in g4)
        · rw [if_neg (fun h => h.elim c2 e')] at h
          obtain ⟨r1, r2⟩ := arrow_cut g1 g3 h
          exact ⟨fun _ => r1, fun _ => r2⟩
theorem rw_dt {rec : Int × Int → List Str} {n : Nat} (h : ∀ p, rec p ≠ [] → dtB (rec p) = true) : ∀ (L : List (Int × Int)) (s : List (List Str) × Bool), (L.foldl (stpF' rec n) s).1.filter dtB = s.1.filter dtB ++ (L.filter fun p => decide (rec p ≠ [])).map rec
  | [], s => by simp
  | p :: L, s => by
    have e : (stpF' rec n s p).1.filter dtB = s.1.filter dtB ++ if rec p ≠ [] then [rec p] else [] := by
      unfold stpF'
      by_cases c : rec p ≠ []
      · rw [if_pos c, if_pos c, List.filter_append, List.filter_cons_of_pos (h p c)]; rfl
      · rw [if_neg c, if_neg c]
        split
        · simp
        · rw [List.filter_append]; rfl
    rw [List.foldl_cons, rw_dt h L, e]
    by_cases c : rec p ≠ []
    · rw [if_pos c, List.filter_cons, if_pos (decide_eq_true c), List.map_cons]; simp
    · rw [if_neg c, List.filter_cons, if_neg (fun e => c (of_decide_eq_true e))]; simp
theorem recR_sh {d : Dl} {p : Int × Int} (h : recR d p ≠ []) : ∃ m cs, recR d p = m :: plF p :: cs := by
  unfold recR at h ⊢
  split
  · rename_i c
    rw [if_pos c] at h
    unfold rtold at h ⊢
    split
    · rename_i c2; rw [if_pos c2] at h; exact absurd rfl h
    · exact ⟨_, _, rfl⟩
  · split <;> exact ⟨_, _, rfl⟩
structure Eqv (a b : Dl) : Prop where
  ga : OkD a
  gb : OkD b
  sh : shF a = shF b
  na : a.na = b.na
  nb : a.nb = b.nb
  V : ∀ p, (p ∈ odF a.rows a.na a.nb ∧ recR a p ≠ []) ↔ (p ∈ odF b.rows b.na b.nb ∧ recR b p ≠ [])
  rc : ∀ p, p ∈ odF a.rows a.na a.nb → recR a p ≠ [] → recR a p = recR b p
  A : a.A = b.A
  B : a.B = b.B
  cols : a.cols = b.cols
theorem Eqv.symm {a b : Dl} (e : Eqv a b) : Eqv b a :=
  ⟨e.gb, e.ga, e.sh.symm, e.na.symm, e.nb.symm, fun p => (e.V p).symm, fun p h1 h2 => (e.rc p ((e.V p).2 ⟨h1, h2⟩).1 ((e.V p).2 ⟨h1, h2⟩).2).symm, e.A.symm, e.B.symm, e.cols.symm⟩
theorem od_ge {d : Dl} (g : OkD d) {p : Int × Int} (h : p ∈ odF d.rows d.na d.nb) : -1 ≤ p.1 ∧ -1 ≤ p.2 := by
  rcases (wov_ok g h).kind with h | h | h <;> omega
theorem eqv_of {a b : Dl} (ga : OkD a) (gb : OkD b) (h : hpF a (recR a) = hpF b (recR b)) : Eqv a b := by
  have h1 : [35] :: plF (a.na, a.nb) :: (shF a).map plF = [35] :: plF (b.na, b.nb) :: (shF b).map plF := congrArg (fun l : List (List Str) => l.getD 1 []) h
  have h2 : [64, 64] :: awF (a.A ++ a.B) :: (shF a).map (nmF a.A a.B (awF (a.A ++ a.B))) = [64, 64] :: awF (b.A ++ b.B) :: (shF b).map (nmF b.A b.B (awF (b.A ++ b.B))) := congrArg (fun l : List (List Str) => l.getD 2 []) h
  have h3 : (rwF' (recR a) (shF a).length (odF a.rows a.na a.nb)).1 = (rwF' (recR b) (shF b).length (odF b.rows b.na b.nb)).1 := congrArg (fun l : List (List Str) => l.drop 3) h
  have hn := (List.cons.inj (List.cons.inj h1).2).1
  have hp := (List.cons.inj (List.cons.inj h1).2).2
  have hw := (List.cons.inj (List.cons.inj h2).2).1
  have hm := (List.cons.inj (List.cons.inj h2).2).2
  clear h1 h2
  have ia := shown_in ga
  have ib := shown_in gb
  have a0 := ga.rows.a0
  have b0 := ga.rows.b0
  have a1 := gb.rows.a0
  have b1 := gb.rows.b0
  have hnn := plF_inj (p := (a.na, a.nb)) (q := (b.na, b.nb)) (by simp only; omega) (by simp only; omega) (by simp only; omega) (by simp only; omega) hn
  have sh : shF a = shF b := (map_ext2 (fun x hx y hy e => plF_inj (by have := ia x hx; omega) (by have := ia x hx; omega) (by have := ib y hy; omega) (by have := ib y hy; omega) e) hp).1
  have lA : a.A.length = b.A.length := lt_ext fun i => (sh_A ga i).trans (by rw [sh]; exact (sh_A gb i).symm)
  have lB : a.B.length = b.B.length := lt_ext fun i => (sh_B ga i).trans (by rw [sh]; exact (sh_B gb i).symm)
  have cols : a.cols = b.cols := srt_ext (r := fun p q => p.2 < q.2) (fun _ => Int.lt_irrefl _) (fun _ _ h1 h2 => by omega) ga.cols.lt gb.cols.lt fun q => (sh_cols ga q).trans (by rw [sh]; exact (sh_cols gb q).symm)
  have hnm : ∀ q ∈ shF a, nmF a.A a.B (awF (a.A ++ a.B)) q = nmF b.A b.B (awF (a.A ++ a.B)) q := by
    rw [← sh, ← hw] at hm
    exact List.map_inj_left.1 hm
  have hno : ∀ q ∈ shF a, (0 ≤ q.1 → a.A.getD q.1.toNat [] = b.A.getD q.1.toNat []) ∧ (0 ≤ q.2 → a.B.getD q.2.toNat [] = b.B.getD q.2.toNat []) := fun q hq => by
    have hi := ia q hq
    refine nm_inj (k := arN (a.A ++ a.B) 1) (fun _ => ?_) (fun _ => ?_) (fun _ => ?_) (fun _ => ?_) (hnm q hq)
    · exact aw_no ga.texts.1 (List.mem_append.2 (.inl (getD_mem (by omega))))
    · exact aw_no ga.texts.1 (List.mem_append.2 (.inr (getD_mem (by omega))))
    · have := aw_no gb.texts.1 (List.mem_append.2 (.inl (getD_mem (d := ([] : Str)) (show q.1.toNat < b.A.length by omega))))
      rw [← hw] at this; exact this
    · have := aw_no gb.texts.1 (List.mem_append.2 (.inr (getD_mem (d := ([] : Str)) (show q.2.toNat < b.B.length by omega))))
      rw [← hw] at this; exact this
  have eA : a.A = b.A := eq_of_at [] lA fun i hi => by
    obtain ⟨q, hq, e⟩ := (sh_A ga i).1 hi
    have := (hno q hq).1 (by omega)
    rwa [e, Int.toNat_natCast] at this
  have eB : a.B = b.B := eq_of_at [] lB fun i hi => by
    obtain ⟨q, hq, e⟩ := (sh_B ga i).1 hi
    have := (hno q hq).2 (by omega)
    rwa [e, Int.toNat_natCast] at this
  have hf := congrArg (List.filter dtB) h3
  unfold rwF' at hf
  rw [rw_dt (fun p hp => (recR_h hp).1), rw_dt (fun p hp => (recR_h hp).1)] at hf
  simp only [List.filter_nil, List.nil_append] at hf
  obtain ⟨v1, v2⟩ := map_ext2 (fun x hx y hy e => by
    obtain ⟨hx1, hx2⟩ := List.mem_filter.1 hx
    obtain ⟨hy1, hy2⟩ := List.mem_filter.1 hy
    obtain ⟨m, cs, ex⟩ := recR_sh (of_decide_eq_true hx2)
    obtain ⟨m', cs', ey⟩ := recR_sh (of_decide_eq_true hy2)
    rw [ex, ey, List.cons.injEq, List.cons.injEq] at e
    exact plF_inj (od_ge ga hx1).1 (od_ge ga hx1).2 (od_ge gb hy1).1 (od_ge gb hy1).2 e.2.1) hf
  refine ⟨ga, gb, sh, (Prod.mk.inj hnn).1, (Prod.mk.inj hnn).2, fun p => ?_, fun p hp hr => v2 p (List.mem_filter.2 ⟨hp, decide_eq_true hr⟩), eA, eB, cols⟩
  have := congrArg (fun l => p ∈ l) v1
  simp only [List.mem_filter, decide_eq_true_eq] at this
  exact iff_of_eq this
end Go.Proofs.YtlabdffgcciepaaGreatDoor
namespace Go.Proofs.YtlabdffgcciepaaGreatDoor
open Go.Tn
set_option maxHeartbeats 8000000
set_option maxRecDepth 100000
theorem rec_ne {d : Dl} {p : Int × Int} (h : p.1 < 0 ∨ p.2 < 0) : recR d p ≠ [] := recR_len (fun h' => by omega)
theorem Eqv.gone1 {a b : Dl} (e : Eqv a b) {i : Int} (h : i ∈ goneR a) : i ∈ goneR b := by
  have h0 := (mem_rsL.1 h).1
  have h1 := (e.V (i, -1)).1 ⟨(od_iff e.ga.rows).2 (.inr (.inr ⟨rfl, h⟩)), rec_ne (.inr (show (-1 : Int) < 0 by decide))⟩
  rcases odF_mem e.gb.rows h1.1 with h2 | ⟨h2, _⟩ | ⟨_, h2⟩
  · have := e.gb.rows.inn _ h2
    unfold inB at this
    simp only at this
    omega
  · simp only at h2; omega
  · exact h2
theorem Eqv.new1 {a b : Dl} (e : Eqv a b) {j : Int} (h : j ∈ newR' a) : j ∈ newR' b := by
  have h0 := (mem_rsL.1 h).1
  have h1 := (e.V (-1, j)).1 ⟨(od_iff e.ga.rows).2 (.inr (.inl ⟨rfl, h⟩)), rec_ne (.inl (show (-1 : Int) < 0 by decide))⟩
  rcases odF_mem e.gb.rows h1.1 with h2 | ⟨_, h2⟩ | ⟨h2, _⟩
  · have := e.gb.rows.inn _ h2
    unfold inB at this
    simp only at this
    omega
  · exact h2
  · simp only at h2; omega
theorem Eqv.gone {a b : Dl} (e : Eqv a b) : goneR a = goneR b := srt_ext (r := (· < ·)) (fun _ => Int.lt_irrefl _) (fun _ _ h1 h2 => by omega) (rsL_up _ _) (rsL_up _ _) fun _ => ⟨e.gone1, e.symm.gone1⟩
theorem Eqv.new {a b : Dl} (e : Eqv a b) : newR' a = newR' b := srt_ext (r := (· < ·)) (fun _ => Int.lt_irrefl _) (fun _ _ h1 h2 => by omega) (rsL_up _ _) (rsL_up _ _) fun _ => ⟨e.new1, e.symm.new1⟩
theorem row1 {d : Dl} (g : OkD d) (i : Int) : i ∈ d.rows.map (·.1) ↔ (0 ≤ i ∧ i < d.na) ∧ i ∉ goneR d := by
  have a0 := g.rows.a0
  constructor
  · intro h
    obtain ⟨p, hp, rfl⟩ := List.mem_map.1 h
    have := g.rows.inn p hp
    unfold inB at this
    exact ⟨⟨this.1, this.2.1⟩, fun h' => (mem_rsL.1 h').2 h⟩
  · rintro ⟨h1, h2⟩
    by_cases c : i ∈ d.rows.map (·.1)
    · exact c
    · exact absurd (mem_rsL.2 ⟨⟨h1.1, by omega⟩, c⟩) h2
theorem row2 {d : Dl} (g : OkD d) (j : Int) : j ∈ d.rows.map (·.2) ↔ (0 ≤ j ∧ j < d.nb) ∧ j ∉ newR' d := by
  have b0 := g.rows.b0
  constructor
  · intro h
    obtain ⟨p, hp, rfl⟩ := List.mem_map.1 h
    have := g.rows.inn p hp
    unfold inB at this
    exact ⟨⟨this.2.2.1, this.2.2.2⟩, fun h' => (mem_rsL.1 h').2 h⟩
  · rintro ⟨h1, h2⟩
    by_cases c : j ∈ d.rows.map (·.2)
    · exact c
    · exact absurd (mem_rsL.2 ⟨⟨h1.1, by omega⟩, c⟩) h2
theorem row_pr {d : Dl} (g : OkD d) {p : Int × Int} (h : p ∈ d.rows) : 0 ≤ p.1 ∧ 0 ≤ p.2 := by
  have := g.rows.inn p h
  unfold inB at this
  exact ⟨this.1, this.2.2.1⟩
def qtF (d : Dl) : List (Int × Int) := d.rows.filter fun p => decide (recR d p = [])
theorem qt1 {d : Dl} (g : OkD d) (i : Int) : i ∈ (qtF d).map (·.1) ↔ ((0 ≤ i ∧ i < d.na) ∧ i ∉ goneR d) ∧ ¬ ∃ p, (p ∈ odF d.rows d.na d.nb ∧ recR d p ≠ []) ∧ p.1 = i := by
  constructor
  · intro h
    obtain ⟨p, hp, rfl⟩ := List.mem_map.1 h
    obtain ⟨hr, hq⟩ := List.mem_filter.1 hp
    have h0 := row_pr g hr
    have hm := (row1 g p.1).1 (List.mem_map.2 ⟨p, hr, rfl⟩)
    refine ⟨hm, ?_⟩
    rintro ⟨q, ⟨hq1, hq2⟩, e⟩
    rcases odF_mem g.rows hq1 with h2 | ⟨h2, _⟩ | ⟨_, h2⟩
    · exact hq2 (by rw [inj_at g.rows.na h2 hr e]; exact of_decide_eq_true hq)
    · omega
    · rw [e] at h2; exact hm.2 h2
  · rintro ⟨h1, h2⟩
    obtain ⟨p, hp, e⟩ := List.mem_map.1 ((row1 g i).2 h1)
    refine List.mem_map.2 ⟨p, List.mem_filter.2 ⟨hp, ?_⟩, e⟩
    by_cases c : recR d p = []
    · exact decide_eq_true c
    · exact absurd ⟨p, ⟨(od_iff g.rows).2 (.inl hp), c⟩, e⟩ h2
theorem qt2 {d : Dl} (g : OkD d) (j : Int) : j ∈ (qtF d).map (·.2) ↔ ((0 ≤ j ∧ j < d.nb) ∧ j ∉ newR' d) ∧ ¬ ∃ p, (p ∈ odF d.rows d.na d.nb ∧ recR d p ≠ []) ∧ p.2 = j := by
  constructor
  · intro h
    obtain ⟨p, hp, rfl⟩ := List.mem_map.1 h
    obtain ⟨hr, hq⟩ := List.mem_filter.1 hp
    have h0 := row_pr g hr
    have hm := (row2 g p.2).1 (List.mem_map.2 ⟨p, hr, rfl⟩)
    refine ⟨hm, ?_⟩
    rintro ⟨q, ⟨hq1, hq2⟩, e⟩
    rcases odF_mem g.rows hq1 with h2 | ⟨_, h2⟩ | ⟨h2, _⟩
    · exact hq2 (by rw [inj_at g.rows.nb h2 hr e]; exact of_decide_eq_true hq)
    · rw [e] at h2; exact hm.2 h2
    · omega
  · rintro ⟨h1, h2⟩
    obtain ⟨p, hp, e⟩ := List.mem_map.1 ((row2 g j).2 h1)
    refine List.mem_map.2 ⟨p, List.mem_filter.2 ⟨hp, ?_⟩, e⟩
    by_cases c : recR d p = []
    · exact decide_eq_true c
    · exact absurd ⟨p, ⟨(od_iff g.rows).2 (.inl hp), c⟩, e⟩ h2
theorem rec_q {d : Dl} (g : OkD d) {p : Int × Int} (hp : p ∈ d.rows) (h : recR d p = []) : p ∈ stP d.rows ∧ (stF6 d.sets p).length = 0 ∧ d.cols.length = d.A.length ∧ d.cols.length = d.B.length := by
  unfold recR rtold at h
  rw [if_pos (row_pr g hp)] at h
  split at h
  · rename_i c
    unfold quF at c
    simp only [Bool.and_eq_true, decide_eq_true_eq] at c
    exact ⟨c.1, c.2.1, c.2.2.1, c.2.2.2⟩
  · cases h
theorem qt_up {d : Dl} (g : OkD d) : ((qtF d).map (·.1)).Pairwise (· < ·) ∧ ((qtF d).map (·.2)).Pairwise (· < ·) := by
  have hl := g.rows.lt
  have hs := (stP_up d.rows).1
  have hi := (hl.sublist (stP_up d.rows).2)
  have hq : (qtF d).Pairwise (fun p q => p.2 < q.2) := hl.filter _
  constructor
  · rw [List.pairwise_map]
    refine List.Pairwise.imp_of_mem (fun {p q} hp hq h => ?_) hq
    have m1 := List.mem_filter.1 hp
    have m2 := List.mem_filter.1 hq
    have s1 := (rec_q g m1.1 (of_decide_eq_true m1.2)).1
    have s2 := (rec_q g m2.1 (of_decide_eq_true m2.2)).1
    have key : ∀ {l : List (Int × Int)}, l.Pairwise (fun p q => p.1 < q.1) → l.Pairwise (fun p q => p.2 < q.2) → ∀ p ∈ l, ∀ q ∈ l, p.2 < q.2 → p.1 < q.1 := by
      intro l h1 h2 p hp q hq h
      obtain ⟨i, hi, rfl⟩ := List.getElem_of_mem hp
      obtain ⟨j, hj, rfl⟩ := List.getElem_of_mem hq
      rcases Nat.lt_trichotomy i j with c | c | c
      · exact List.pairwise_iff_getElem.1 h1 i j hi hj c
      · subst c; omega
      · have := List.pairwise_iff_getElem.1 h2 j i hj hi c
        omega
    exact key hs hi p s1 q s2 h
  · rw [List.pairwise_map]; exact hq
theorem Eqv.qt {a b : Dl} (e : Eqv a b) : qtF a = qtF b := by
  have ua := qt_up e.ga
  have ub := qt_up e.gb
  have hV : ∀ (f : Int × Int → Int) (i : Int), (∃ p, (p ∈ odF a.rows a.na a.nb ∧ recR a p ≠ []) ∧ f p = i) ↔ ∃ p, (p ∈ odF b.rows b.na b.nb ∧ recR b p ≠ []) ∧ f p = i := fun f i => exists_congr fun p => and_congr_left fun _ => e.V p
  refine pair_ext (srt_ext (r := (· < ·)) (fun _ => Int.lt_irrefl _) (fun _ _ h1 h2 => by omega) ua.1 ub.1 fun i => ?_) (srt_ext (r := (· < ·)) (fun _ => Int.lt_irrefl _) (fun _ _ h1 h2 => by omega) ua.2 ub.2 fun j => ?_)
  · rw [qt1 e.ga, qt1 e.gb, hV (·.1) i, e.gone, e.na]
  · rw [qt2 e.ga, qt2 e.gb, hV (·.2) j, e.new, e.nb]
theorem Eqv.rows1 {a b : Dl} (e : Eqv a b) {p : Int × Int} (h : p ∈ a.rows) : p ∈ b.rows := by
  have h0 := row_pr e.ga h
  by_cases c : recR a p = []
  · have : p ∈ qtF a := List.mem_filter.2 ⟨h, decide_eq_true c⟩
    rw [e.qt] at this
    exact (List.mem_filter.1 this).1
  · have h1 := (e.V p).1 ⟨(od_iff e.ga.rows).2 (.inl h), c⟩
    rcases odF_mem e.gb.rows h1.1 with h2 | ⟨h2, _⟩ | ⟨h2, _⟩
    · exact h2
    · omega
    · omega
theorem Eqv.rows {a b : Dl} (e : Eqv a b) : a.rows = b.rows := srt_ext (r := fun p q => p.2 < q.2) (fun _ => Int.lt_irrefl _) (fun _ _ h1 h2 => by omega) e.ga.rows.lt e.gb.rows.lt fun _ => ⟨e.rows1, e.symm.rows1⟩
theorem lnR_of {l : List Ln} (h : (l.map (·.1)).Nodup) {x : Ln} (hx : x ∈ l) : lnR l x.1 = x.2 := by
  unfold lnR
  cases hf : l.find? fun y => decide (y.1 = x.1) with
  | none =>
    have := List.find?_eq_none.1 hf x hx
    simp at this
  | some y =>
    have h1 := List.mem_of_find?_eq_some hf
    have h2 : y.1 = x.1 := by simpa using List.find?_some hf
    rw [inj_at h h1 hx h2]
theorem ln_ext {l k : List Ln} (hn : (l.map (·.1)).Nodup) (he : l.map (·.1) = k.map (·.1)) (h : ∀ i ∈ l.map (·.1), lnR l i = lnR k i) : l = k := by
  have hk : (k.map (·.1)).Nodup := by rw [← he]; exact hn
  refine List.ext_getElem (by simpa using congrArg List.length he) fun i h1 h2 => ?_
  have e1 : l[i].1 = k[i].1 := by
    have := congrArg (fun m : List Int => m[i]?) he
    simpa [List.getElem?_map, List.getElem?_eq_getElem h1, List.getElem?_eq_getElem h2] using this
  refine Prod.ext e1 ?_
  rw [← lnR_of hn (List.getElem_mem h1), ← lnR_of hk (List.getElem_mem h2), ← e1]
  exact h _ (List.mem_map.2 ⟨_, List.getElem_mem h1, rfl⟩)
theorem Eqv.dels {a b : Dl} (e : Eqv a b) : a.dels = b.dels := by
  have ma := e.ga.delsNH
  have mb := e.gb.delsNH
  refine ln_ext ma.1 (by rw [ma.2, mb.2, e.gone]) fun i hi => ?_
  rw [ma.2] at hi
  have h0 := (mem_rsL.1 hi).1
  have hr := e.rc (i, -1) ((od_iff e.ga.rows).2 (.inr (.inr ⟨rfl, hi⟩))) (rec_ne (.inr (show (-1 : Int) < 0 by decide)))
  have c1 : ¬ (0 ≤ i ∧ (0 : Int) ≤ -1) := by omega
  have c2 : ¬ i < 0 := by omega
  have ea : recR a (i, -1) = [45, 45, 45] :: plF (i, -1) :: (shF a).map (goC (lnR a.dels i)) := by unfold recR; rw [if_neg c1, if_neg c2]
  have eb : recR b (i, -1) = [45, 45, 45] :: plF (i, -1) :: (shF b).map (goC (lnR b.dels i)) := by unfold recR; rw [if_neg c1, if_neg c2]
  rw [ea, eb, ← e.sh] at hr
  have hc := List.map_inj_left.1 (List.cons.inj (List.cons.inj hr).2).2
  have la := lnR_len e.ga.lines.1 hi
  have lb := lnR_len e.gb.lines.1 (e.gone1 hi)
  rw [← e.A] at lb
  refine eq_of_at [] (by omega) fun k hk => ?_
  obtain ⟨q, hq, eq⟩ := (sh_A e.ga k).1 (by omega)
  have := hc q hq
  unfold goC at this
  rw [if_pos (by omega), if_pos (by omega), eq, Int.toNat_natCast] at this
  exact this
theorem Eqv.inss {a b : Dl} (e : Eqv a b) : a.inss = b.inss := by
  have ma := e.ga.inssNH
  have mb := e.gb.inssNH
  refine ln_ext ma.1 (by rw [ma.2, mb.2, e.new]) fun j hj => ?_
  rw [ma.2] at hj
  have h0 := (mem_rsL.1 hj).1
  have hr := e.rc (-1, j) ((od_iff e.ga.rows).2 (.inr (.inl ⟨rfl, hj⟩))) (rec_ne (.inl (show (-1 : Int) < 0 by decide)))
  have c1 : ¬ ((0 : Int) ≤ -1 ∧ 0 ≤ j) := by omega
  have c2 : (-1 : Int) < 0 := by decide
  have ea : recR a (-1, j) = [43, 43, 43] :: plF (-1, j) :: (shF a).map (frC (lnR a.inss j)) := by unfold recR; rw [if_neg c1, if_pos c2]
  have eb : recR b (-1, j) = [43, 43, 43] :: plF (-1, j) :: (shF b).map (frC (lnR b.inss j)) := by unfold recR; rw [if_neg c1, if_pos c2]
  rw [ea, eb, ← e.sh] at hr
  have hc := List.map_inj_left.1 (List.cons.inj (List.cons.inj hr).2).2
  have la := lnR_len e.ga.lines.2 hj
  have lb := lnR_len e.gb.lines.2 (e.new1 hj)
  rw [← e.B] at lb
  refine eq_of_at [] (by omega) fun k hk => ?_
  obtain ⟨q, hq, eq⟩ := (sh_B e.ga k).1 (by omega)
  have := hc q hq
  unfold frC at this
  rw [if_pos (by omega), if_pos (by omega), eq, Int.toNat_natCast] at this
  exact this
end Go.Proofs.YtlabdffgcciepaaGreatDoor
namespace Go.Proofs.YtlabdffgcciepaaGreatDoor
open Go.Tn
set_option maxHeartbeats 8000000
set_option maxRecDepth 100000
theorem rec_pr {d : Dl} (g : OkD d) {p : Int × Int} (hp : p ∈ d.rows) (h : recR d p ≠ []) : recR d p = (if pmF d p (awF (txS (stF6 d.sets p))) = [] then [43] else pmF d p (awF (txS (stF6 d.sets p)))) :: plF p :: (shF d).map (pcF d (awF (txS (stF6 d.sets p))) p) := by
  have e : recR d p = prF d p := by unfold recR; rw [if_pos (row_pr g hp), ← pr_eq g]
  rw [e] at h ⊢
  unfold prF at h ⊢
  split
  · rename_i c
    rw [if_pos c] at h
    split
    · rename_i c2; rw [if_pos c2] at h; exact absurd rfl h
    · rfl
  · rfl
theorem lost_keys {d : Dl} (g : OkD d) : d.lost.map (fun x : Sp => (x.1, x.2.1)) = crF (wiF (goneR d) d.na.toNat) (goneC d) := mtF_mapH (fun x y h => by simp only [isS, decide_eq_true_eq] at h; rw [h.1, h.2]) g.spots.1
theorem gain_keys {d : Dl} (g : OkD d) : d.gain.map (fun x : Sp => (x.1, x.2.1)) = crF (wiF (newR' d) d.nb.toNat) (newC d) := mtF_mapH (fun x y h => by simp only [isS, decide_eq_true_eq] at h; rw [h.1, h.2]) g.spots.2
theorem spR_of {l : List Sp} (h : (l.map (fun x : Sp => (x.1, x.2.1))).Nodup) {x : Sp} (hx : x ∈ l) : spR l x.1 x.2.1 = x.2.2 := by
  unfold spR
  cases hf : l.find? fun y => decide (y.1 = x.1 ∧ y.2.1 = x.2.1) with
  | none =>
    have := List.find?_eq_none.1 hf x hx
    simp at this
  | some y =>
    have h1 := List.mem_of_find?_eq_some hf
    have h2 : y.1 = x.1 ∧ y.2.1 = x.2.1 := by simpa using List.find?_some hf
    rw [inj_at h h1 hx (by rw [h2.1, h2.2])]
theorem sp_ext {l k : List Sp} (hn : (l.map (fun x : Sp => (x.1, x.2.1))).Nodup) (he : l.map (fun x : Sp => (x.1, x.2.1)) = k.map (fun x : Sp => (x.1, x.2.1))) (h : ∀ x ∈ l.map (fun x : Sp => (x.1, x.2.1)), spR l x.1 x.2 = spR k x.1 x.2) : l = k := by
  have hk : (k.map (fun x : Sp => (x.1, x.2.1))).Nodup := by rw [← he]; exact hn
  refine List.ext_getElem (by simpa using congrArg List.length he) fun i h1 h2 => ?_
  have e1 : (l[i].1, l[i].2.1) = (k[i].1, k[i].2.1) := by
    have := congrArg (fun m : List (Int × Int) => m[i]?) he
    simpa [List.getElem?_map, List.getElem?_eq_getElem h1, List.getElem?_eq_getElem h2] using this
  obtain ⟨e2, e3⟩ := Prod.mk.inj e1
  have := h _ (List.mem_map.2 ⟨_, List.getElem_mem h1, rfl⟩)
  simp only at this
  rw [spR_of hn (List.getElem_mem h1), e2, e3, spR_of hk (List.getElem_mem h2)] at this
  exact Prod.ext e2 (Prod.ext e3 this)
theorem Eqv.cell {a b : Dl} (e : Eqv a b) {p : Int × Int} (hp : p ∈ a.rows) (h : recR a p ≠ []) :
    (if pmF a p (awF (txS (stF6 a.sets p))) = [] then [43] else pmF a p (awF (txS (stF6 a.sets p)))) = (if pmF b p (awF (txS (stF6 b.sets p))) = [] then [43] else pmF b p (awF (txS (stF6 b.sets p)))) ∧
    ∀ q ∈ shF a, pcF a (awF (txS (stF6 a.sets p))) p q = pcF b (awF (txS (stF6 b.sets p))) p q := by
  have hr := e.rc p ((od_iff e.ga.rows).2 (.inl hp)) h
  have h' : recR b p ≠ [] := by rw [← hr]; exact h
  rw [rec_pr e.ga hp h, rec_pr e.gb (e.rows1 hp) h', ← e.sh] at hr
  exact ⟨(List.cons.inj hr).1, List.map_inj_left.1 (List.cons.inj (List.cons.inj hr).2).2⟩
theorem Eqv.lost {a b : Dl} (e : Eqv a b) : a.lost = b.lost := by
  have ec : goneC a = goneC b := by unfold goneC; rw [e.cols, e.A]
  refine sp_ext e.ga.lostNH (by rw [lost_keys e.ga, lost_keys e.gb, e.gone, e.na, ec]) fun x hx => ?_
  rw [lost_keys e.ga] at hx
  obtain ⟨hx1, hx2⟩ := mem_crFH.1 hx
  have a0 := e.ga.rows.a0
  obtain ⟨hx3, hx4⟩ := mem_rsL.1 (show x.1 ∈ rsL (goneR a) a.na.toNat from hx1)
  obtain ⟨p, hp, ep⟩ := List.mem_map.1 ((row1 e.ga x.1).2 ⟨⟨hx3.1, by omega⟩, hx4⟩)
  have hq : (x.2, -1) ∈ shF a := (sh_iff e.ga).2 (.inr (.inr ⟨rfl, hx2⟩))
  have hne : recR a p ≠ [] := fun h => by
    have h1 := (rec_q e.ga hp h).2.2.1
    have h2 := restA_H e.ga.cols
    rw [Int.toNat_natCast] at h2
    have h3 := List.length_pos_of_mem hx2
    unfold goneC at h3
    omega
  have hc := (e.cell hp hne).2 _ hq
  have h0 := (mem_rsL.1 hx2).1
  have e1 : ∀ (d : Dl) (w : Str), pcF d w p (x.2, -1) = glk [] (spM d.lost) (p.1, x.2) := fun d w => by
    unfold pcF
    rw [if_neg (show ¬ x.2 < 0 by omega), if_pos (show (-1 : Int) < 0 by decide)]
  rw [e1, e1, spM_lk e.ga.lostNH, spM_lk e.gb.lostNH, ep] at hc
  exact hc
theorem Eqv.gain {a b : Dl} (e : Eqv a b) : a.gain = b.gain := by
  have ec : newC a = newC b := by unfold newC; rw [e.cols, e.B]
  refine sp_ext e.ga.gainNH (by rw [gain_keys e.ga, gain_keys e.gb, e.new, e.nb, ec]) fun x hx => ?_
  rw [gain_keys e.ga] at hx
  obtain ⟨hx1, hx2⟩ := mem_crFH.1 hx
  have b0 := e.ga.rows.b0
  obtain ⟨hx3, hx4⟩ := mem_rsL.1 (show x.1 ∈ rsL (newR' a) a.nb.toNat from hx1)
  obtain ⟨p, hp, ep⟩ := List.mem_map.1 ((row2 e.ga x.1).2 ⟨⟨hx3.1, by omega⟩, hx4⟩)
  have hq : (-1, x.2) ∈ shF a := (sh_iff e.ga).2 (.inr (.inl ⟨rfl, hx2⟩))
  have hne : recR a p ≠ [] := fun h => by
    have h1 := (rec_q e.ga hp h).2.2.2
    have h2 := restB_H e.ga.cols
    rw [Int.toNat_natCast] at h2
    have h3 := List.length_pos_of_mem hx2
    unfold newC at h3
    omega
  have hc := (e.cell hp hne).2 _ hq
  have e1 : ∀ (d : Dl) (w : Str), pcF d w p (-1, x.2) = glk [] (spM d.gain) (p.2, x.2) := fun d w => by
    unfold pcF
    rw [if_pos (show (-1 : Int) < 0 by decide)]
  rw [e1, e1, spM_lk e.ga.gainNH, spM_lk e.gb.gainNH, ep] at hc
  exact hc
theorem fsC_of {d : Dl} (g : OkD d) {s : St6} (hs : s ∈ d.sets) (w : Str) : fsC (stF6 d.sets (s.i, s.j)) w (s.p, s.q) = s.o ++ w ++ s.n := by
  unfold fsC
  have hm : s ∈ stF6 d.sets (s.i, s.j) := List.mem_filter.2 ⟨hs, by simp⟩
  cases hf : (stF6 d.sets (s.i, s.j)).find? fun t => decide (t.p = (s.p, s.q).1 ∧ t.q = (s.p, s.q).2) with
  | none =>
    have := List.find?_eq_none.1 hf s hm
    simp at this
  | some t =>
    have h1 := List.mem_filter.1 (List.mem_of_find?_eq_some hf)
    have h2 : t.p = s.p ∧ t.q = s.q := by simpa using List.find?_some hf
    have h3 : t.i = s.i ∧ t.j = s.j := by simpa using h1.2
    rw [inj_at g.keys.1 h1.1 hs (by unfold keyS; rw [h3.2, h2.2])]
theorem arF_hd (k : Nat) : ∃ x y, arF k = x :: y ∧ x ≠ 43 := by
  cases k with
  | zero => exact ⟨62, [], rfl, by decide⟩
  | succ k => exact ⟨45, arF k, arF_succ k, by decide⟩
theorem Eqv.sets1 {a b : Dl} (e : Eqv a b) {s : St6} (hs : s ∈ a.sets) : s ∈ b.sets := by
  obtain ⟨⟨h1, h2⟩, _⟩ := e.ga.sets.mem s hs
  have hm : s ∈ stF6 a.sets (s.i, s.j) := List.mem_filter.2 ⟨hs, by simp⟩
  have hl : 0 < (stF6 a.sets (s.i, s.j)).length := List.length_pos_of_mem hm
  have hne : recR a (s.i, s.j) ≠ [] := fun h => by
    have := (rec_q e.ga h1 h).2.1
    omega
  obtain ⟨hmk, hc⟩ := e.cell h1 hne
  have hq := (sh_cols e.ga (s.p, s.q)).1 h2
  have hc := hc _ hq.1
  have e1 : ∀ (d : Dl) (w : Str), pcF d w (s.i, s.j) (s.p, s.q) = fsC (stF6 d.sets (s.i, s.j)) w (s.p, s.q) := fun d w => by
    unfold pcF
    rw [if_neg (by have := hq.2.1; omega), if_neg (by have := hq.2.2; omega)]
  rw [e1, e1, fsC_of e.ga hs] at hc
  obtain ⟨x, y, ew, hx⟩ := arF_hd (arN (txS (stF6 a.sets (s.i, s.j))) 1)
  have ew' : awF (txS (stF6 a.sets (s.i, s.j))) = x :: y := ew
  have hw : awF (txS (stF6 a.sets (s.i, s.j))) = awF (txS (stF6 b.sets (s.i, s.j))) := by
    unfold pmF at hmk
    rw [e.rows, if_pos hl] at hmk
    rw [ew'] at hmk ⊢
    by_cases c : (s.i, s.j) ∈ stP b.rows
    · by_cases c2 : 0 < (stF6 b.sets (s.i, s.j)).length
      · obtain ⟨x', y', ew2, _⟩ := arF_hd (arN (txS (stF6 b.sets (s.i, s.j))) 1)
        have ew3 : awF (txS (stF6 b.sets (s.i, s.j))) = x' :: y' := ew2
        rw [ew3] at hmk ⊢
        simpa [c, c2] using hmk
      · simp [c, c2] at hmk
        exact absurd hmk.1 hx
    · by_cases c2 : 0 < (stF6 b.sets (s.i, s.j)).length
      · simpa [c, c2] using hmk
      · simp [c, c2] at hmk
  have hta : ∀ t ∈ txS (stF6 a.sets (s.i, s.j)), t.length < 900000 := fun t ht => by
    obtain ⟨r, hr, ht⟩ := List.mem_flatMap.1 ht
    have := e.ga.texts.2 r (List.mem_filter.1 hr).1
    simp only [List.mem_cons, List.not_mem_nil, or_false] at ht
    rcases ht with rfl | rfl
    · exact this.1
    · exact this.2
  have htb : ∀ t ∈ txS (stF6 b.sets (s.i, s.j)), t.length < 900000 := fun t ht => by
    obtain ⟨r, hr, ht⟩ := List.mem_flatMap.1 ht
    have := e.gb.texts.2 r (List.mem_filter.1 hr).1
    simp only [List.mem_cons, List.not_mem_nil, or_false] at ht
    rcases ht with rfl | rfl
    · exact this.1
    · exact this.2
  unfold fsC at hc
  cases hf : (stF6 b.sets (s.i, s.j)).find? fun t => decide (t.p = (s.p, s.q).1 ∧ t.q = (s.p, s.q).2) with
  | none =>
    rw [hf, ew'] at hc
    simp at hc
  | some t =>
    rw [hf] at hc
    simp only at hc
    have g1 := List.mem_filter.1 (List.mem_of_find?_eq_some hf)
    have g2 : t.p = s.p ∧ t.q = s.q := by simpa using List.find?_some hf
    have g3 : t.i = s.i ∧ t.j = s.j := by simpa using g1.2
    have n1 := aw_no hta (List.mem_flatMap.2 ⟨s, hm, by simp⟩ : s.o ∈ txS (stF6 a.sets (s.i, s.j)))
    have n2 := aw_no htb (List.mem_flatMap.2 ⟨t, List.mem_of_find?_eq_some hf, by simp⟩ : t.o ∈ txS (stF6 b.sets (s.i, s.j)))
    rw [← hw] at hc n2
    obtain ⟨r1, r2⟩ := arrow_cut (k := arN (txS (stF6 a.sets (s.i, s.j))) 1) n1 n2 hc
    have : t = s := by
      obtain ⟨ti, tj, tp, tq, to, tn⟩ := t
      obtain ⟨si, sj, sp, sq, so, sn⟩ := s
      simp only at g2 g3 r1 r2
      rw [g2.1, g2.2, g3.1, g3.2, r1, r2]
    rw [← this]; exact g1.1
theorem Eqv.sets {a b : Dl} (e : Eqv a b) : a.sets = b.sets :=
  srt_ext (r := ltS) (fun x h => by rw [ltS_iff] at h; omega) (fun x y h1 h2 => by rw [ltS_iff] at h1 h2; omega) e.ga.sets.up e.gb.sets.up fun _ => ⟨e.sets1, e.symm.sets1⟩
theorem put_inj {a b : Dl} (ga : OkD a) (gb : OkD b) (h : hpF a (recR a) = hpF b (recR b)) : a = b := by
  have e := eqv_of ga gb h
  have h1 := e.A
  have h2 := e.B
  have h3 := e.cols
  have h4 := e.na
  have h5 := e.nb
  have h6 := e.rows
  have h7 := e.dels
  have h8 := e.inss
  have h9 := e.sets
  have h10 := e.lost
  have h11 := e.gain
  cases a; cases b
  simp only [Dl.mk.injEq]
  exact ⟨h1, h2, h3, h4, h5, h6, h7, h8, h9, h10, h11⟩
end Go.Proofs.YtlabdffgcciepaaGreatDoor
namespace Go.Proofs.YtlabdffgcciepaaGreatDoor
open Go.Tn
set_option maxHeartbeats 16000000
set_option maxRecDepth 100000
theorem w_DSame : StC Tryz.prog 12 c_DSame := stC_wide fenN fenW untameW (by intro a b; unfold c_DSame; split <;> rfl) st_DSame
theorem same_put {a b : Dl} (ga : OkD a) (gb : OkD b) : sameF a b = decide (rputF a = rputF b) := by
  have e1 : rputF a = hpF a (recR a) := if_pos ((chkD_zero a).2 ga)
  have e2 : rputF b = hpF b (recR b) := if_pos ((chkD_zero b).2 gb)
  rw [Bool.eq_iff_iff, sameF_iff, decide_eq_true_eq]
  constructor
  · rintro rfl; rfl
  · intro h; rw [e1, e2] at h; exact put_inj ga gb h
theorem fc_Apart (a b : Dl) (hta : okT a) (htb : okT b) : FC Tryz.prog 5 [] [.agg (eDl a), .agg (eDl b)] (.ret (.bool true)) := by
  have hd1 := dDl_eDl a
  have hd2 := dDl_eDl b
  refine fc_M (fn := Tryz.f5) (C := (tab [(6, c_wk19), (7, c_fewD), (8, c_hPt), (10, c_RefR), (12, c_DSame)] [] [])) (rs := [4]) mixed (by kernel_rfl) (by kernel_rfl) rfl rfl (by kernel_rfl) (by intro ys h; cases h) ?_
  cases hfa : fewF a with
  | false =>
    rw [eDl_lit a] at hd1
    rw [eDl_lit b] at hd2
    rw [eDl_lit a, eDl_lit b]
    simp +contextual (maxSteps := 5000000) only [go_sem, ↓reduceIte, c_wk19, st_wk19, c_fewD, w_fewD, hd1, hta, hfa]
    exact wkL_self (eDl a)
  | true =>
    have oa := (few_ok hfa).2.1
    cases hfb : fewF b with
    | false =>
      rw [eDl_lit a] at hd1
      rw [eDl_lit b] at hd2
      rw [eDl_lit a, eDl_lit b]
      simp +contextual (maxSteps := 5000000) only [go_sem, ↓reduceIte, c_wk19, st_wk19, c_fewD, w_fewD, hd1, hta, hfa, hd2, htb, hfb]
      exact ⟨wkL_self (eDl a), wkL_self (eDl b)⟩
    | true =>
      have ob := (few_ok hfb).2.1
      rw [eDl_lit a] at hd1 oa
      rw [eDl_lit b] at hd2 ob
      rw [eDl_lit a, eDl_lit b]
      by_cases za : chkD a = 0
      rotate_left
      · simp +contextual (maxSteps := 5000000) only [go_sem, ↓reduceIte, c_wk19, st_wk19, c_fewD, w_fewD, hd1, hta, hfa, hd2, htb, hfb, oa, ob, c_hPt, st_hPt, za]
        exact ⟨wkL_self (eDl a), wkL_self (eDl b)⟩
      by_cases zb : chkD b = 0
      rotate_left
      · simp +contextual (maxSteps := 5000000) only [go_sem, ↓reduceIte, c_wk19, st_wk19, c_fewD, w_fewD, hd1, hta, hfa, hd2, htb, hfb, oa, ob, c_hPt, st_hPt, za, zb]
        exact ⟨wkL_self (eDl a), wkL_self (eDl b)⟩
      have hs := same_put ((chkD_zero a).1 za) ((chkD_zero b).1 zb)
      have hdR1 : ((rputF a).map eR).map dR = rputF a := dR_eR _
      have hdR2 : ((rputF b).map eR).map dR = rputF b := dR_eR _
      simp +contextual (maxSteps := 5000000) only [go_sem, ↓reduceIte, c_wk19, st_wk19, c_fewD, w_fewD, hd1, hta, hfa, hd2, htb, hfb, oa, ob, c_hPt, st_hPt, za, zb, c_RefR, w_RefR, hdR1, hdR2, c_DSame, w_DSame, hs]
      exact ⟨wkL_self (eDl a), wkL_self (eDl b)⟩
end Go.Proofs.YtlabdffgcciepaaGreatDoor
