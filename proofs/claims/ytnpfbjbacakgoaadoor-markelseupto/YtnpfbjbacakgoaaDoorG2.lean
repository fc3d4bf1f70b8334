/-
  What the functions compute that the law of this claim reaches. By an AI agent.
-/
import Derived.Test.YtnpfbjbacakgoaaDoorCards
import Derived.Test.YtnpfbjbacakgoaaDoorTie
import Derived.WalkKit
import Derived.ProofKit
import Derived.OpenShut
import Derived.Deep.DeepHandedRow
import Derived.Deep.DeepWitnessRowRef
import Derived.Lib.LaidTab
import Derived.LaidMore
import Derived.LaidSub
import Derived.Lay
import Derived.SevenTiedAt
import Derived.Test.YtnpfbjbacakgoaaDoorG1
set_option linter.unusedSimpArgs false
set_option linter.unusedVariables false
set_option linter.unusedSectionVars false

/- The statements on reports: MarkBack, MarkOnly, MarkReports. -/
set_option linter.unusedSimpArgs false
namespace Go.Proofs.YtnpfbjbacakgoaaDoor
open Go.Tn
set_option maxHeartbeats 16000000
set_option maxRecDepth 100000
structure SmC (l : List Cf) : Prop where
  n : l.length < 900000000
  cl : clen l < 2000000000
  ok : ∀ c ∈ l, okCf c
  row : ∀ c ∈ l, InR .i64 c.row
structure SmR (m : Rws) : Prop where
  n : m.length < 1000000000
  s : ∀ r ∈ m, ∀ s ∈ r, s.length < 1000000000
theorem okR_in {c : Cf} (h : okR c = true) : InR .i64 c.row := by
  obtain ⟨_, h1, h2⟩ := (okR_iff c).1 h
  exact inR64 (by omega) (by omega)
theorem okR_row {cs : List Cf} (h : ∀ c ∈ cs, okR c = true) : ∀ c ∈ cs, InR .i64 c.row := fun c hc => okR_in (h c hc)
theorem itoa_short {c : Cf} (h : okR c = true) : (numF c.row).length ≤ 21 := by
  exact numF_len (okR_in h)
theorem word_short (k : Int) : (wordF k).length ≤ 6 := by
  unfold wordF
  split; · simp
  split; · simp
  split; · simp
  split; · simp
  split <;> simp
/-- a report is not large -/
theorem rep_small {l : List Cf} (h : SmC l) (ha : ∀ c ∈ l, okR c = true) : SmR (hdR :: repF l) := by
  refine ⟨by have := h.n; unfold repF; simp only [List.length_cons, List.length_map]; omega, fun r hr s hs => ?_⟩
  rcases List.mem_cons.1 hr with rfl | hr
  · have : ∀ s ∈ hdR, s.length < 1000000000 := by decide
    exact this s hs
  · obtain ⟨c, hc, rfl⟩ := List.mem_map.1 hr
    have h1 := h.ok c hc
    have h2 := itoa_short (ha c hc)
    have h3 := word_short c.kind
    unfold okCf at h1
    simp only [recF, List.mem_cons, List.not_mem_nil, or_false] at hs
    rcases hs with rfl | rfl | rfl | rfl | rfl | rfl <;> omega
theorem fc_MBack (l : List Cf) (h : SmC l) : FC Tryd.prog 5 [] [.sl 6 (l.map eCf)] (.ret (.bool true)) := by
  have h1 := st_wk24
  have h2 := st_FwC
  have h3 := st_Rp
  have h4 := st_Rd
  have h5 := st_Cs
  have e0 := okCs_sl l
  have e1 := pCs_sl l
  have hn : l.length < 1000000000 := by have := h.n; omega
  have hcl := h.cl
  have hrow := h.row
  refine fc_M (fn := Tryd.f5) (C := (tab [(8, c_wk24), (10, c_FwC), (17, c_Rp), (19, c_Rd), (22, c_Cs)] [])) (rs := [2]) mixed (by kernel_rfl) (by kernel_rfl) rfl rfl (by kernel_rfl) (by intro ys h; cases h) ?_
  cases hf : fewC l with
  | false =>
    simp +contextual (maxSteps := 5000000) only [go_sem, ↓reduceIte, h1, c_wk24, h2, c_FwC, e0, e1, hcl, hf]
  | true =>
    by_cases hall : ∀ c ∈ l, okR c = true
    · have hrp : rpOut l = .tup [.sl 1 ((hdR :: repF l).map eR), .int .i64 0] := if_pos hall
      have e2 : okW (.sl 1 (eR hdR :: (repF l).map eR)) := okW_sl (hdR :: repF l)
      have e3 : pW (.sl 1 (eR hdR :: (repF l).map eR)) = hdR :: repF l := pW_sl (hdR :: repF l)
      have hs := rep_small h hall
      have hs1 := hs.n
      rw [List.length_cons] at hs1
      have hs2 := hs.s
      have hrd := rdL_back hall
      have hrl : (repF l).length = l.length := by unfold repF; rw [List.length_map]
      simp +contextual (maxSteps := 5000000) only [go_sem, ↓reduceIte, h1, c_wk24, h2, c_FwC, e0, e1, hcl, hf, h3, c_Rp, hn, hrow, hrp, h4, c_Rd, e2, e3, hrd, outL, h5, c_Cs, hrl, Int.reduceEq, Int.reduceNe, Int.reduceLT, Int.reduceLE, Int.reduceToNat, Int.cast_ofNat_Int]
      exact ⟨⟨by rw [← hrl]; exact hs1, hs2⟩, fun _ _ => ⟨inR64 (by omega) (by omega), fun _ => by simp⟩⟩
    · have hrp : rpOut l = .tup [.nil, .int .i64 13] := if_neg hall
      simp +contextual (maxSteps := 5000000) only [go_sem, ↓reduceIte, h1, c_wk24, h2, c_FwC, e0, e1, hcl, hf, h3, c_Rp, hn, hrow, hrp, Int.reduceEq, Int.reduceNe, Int.reduceLT, Int.reduceLE, Int.reduceToNat, Int.cast_ofNat_Int]
theorem fc_MOnly (m : Rws) (h : SmR m) : FC Tryd.prog 6 [] [.sl 1 (m.map eR)] (.ret (.bool true)) := by
  have h1 := st_wk24
  have h2 := st_few3
  have h3 := st_Rp
  have h4 := st_Rd
  have h5 := st_RefW
  have e2 := okW_sl m
  have e3 := pW_sl m
  have hn := h.n
  have hs := h.s
  refine fc_M (fn := Tryd.f6) (C := (tab [(8, c_wk24), (16, c_few3), (17, c_Rp), (19, c_Rd), (21, c_RefW)] [])) (rs := [2]) mixed (by kernel_rfl) (by kernel_rfl) rfl rfl (by kernel_rfl) (by intro ys h; cases h) ?_
  cases hf : few3 m with
  | false =>
    simp +contextual (maxSteps := 5000000) only [go_sem, ↓reduceIte, h1, c_wk24, h2, c_few3, dR_eR, hf]
  | true =>
    cases hrd : rdL m with
    | none =>
      simp +contextual (maxSteps := 5000000) only [go_sem, ↓reduceIte, h1, c_wk24, h2, c_few3, dR_eR, hf, h4, c_Rd, e2, e3, hn, hs, hrd, outL, Int.reduceEq, Int.reduceNe, Int.reduceLT, Int.reduceLE, Int.reduceToNat, Int.cast_ofNat_Int]
      exact hs
    | some cs =>
      obtain ⟨ha, hm⟩ := rdL_some hrd
      have hrp : rpOut cs = .tup [.sl 1 ((hdR :: repF cs).map eR), .int .i64 0] := if_pos ha
      rw [hm] at hrp
      have e4 := okCs_sl cs
      have e5 := pCs_sl cs
      have hcn : cs.length < 1000000000 := by
        have := congrArg List.length hm
        unfold repF at this
        simp only [List.length_cons, List.length_map] at this
        omega
      have hrow := okR_row ha
      simp +contextual (maxSteps := 5000000) only [go_sem, ↓reduceIte, h1, c_wk24, h2, c_few3, dR_eR, hf, h4, c_Rd, e2, e3, hn, hs, hrd, outL, h3, c_Rp, e4, e5, hcn, hrow, hrp, h5, c_RefW, Int.reduceEq, Int.reduceNe, Int.reduceLT, Int.reduceLE, Int.reduceToNat, Int.cast_ofNat_Int]
      exact hs
theorem fc_MReports (l : List Cf) (m : Rws) (hl : SmC l) (h : SmR m) : FC Tryd.prog 4 [] [.sl 6 (l.map eCf), .sl 1 (m.map eR)] (.ret (.bool true)) := by
  have h1 := st_wk24
  have h2 := st_few3
  have h2' := st_FwC
  have h3 := st_Rp
  have h3' := st_rRp
  have h4 := st_Rd
  have h4' := st_rRd
  have h5 := st_RefW
  have h5' := st_Cs
  have e0 := okCs_sl l
  have e1 := pCs_sl l
  have e2 := okW_sl m
  have e3 := pW_sl m
  have hn := h.n
  have hs := h.s
  have hcl := hl.cl
  have hcn : l.length < 1000000000 := by have := hl.n; omega
  have hrow := hl.row
  refine fc_M (fn := Tryd.f4) (C := (tab [(8, c_wk24), (10, c_FwC), (16, c_few3), (17, c_Rp), (18, c_Rp), (19, c_Rd), (20, c_Rd), (21, c_RefW), (22, c_Cs)] [] [5007, 5008, 5009, 5010, 5011])) (rs := [4]) mixed (by kernel_rfl) (by kernel_rfl) rfl rfl (by kernel_rfl) (by intro ys h; cases h) ?_
  cases hf : fewC l with
  | false =>
    simp +contextual (maxSteps := 5000000) only [go_sem, ↓reduceIte, h1, c_wk24, h2', c_FwC, e0, e1, hcl, hf]
  | true =>
    cases hf3 : few3 m with
    | false =>
      simp +contextual (maxSteps := 5000000) only [go_sem, ↓reduceIte, h1, c_wk24, h2', c_FwC, e0, e1, hcl, hf, h2, c_few3, dR_eR, hf3]
    | true =>
      obtain ⟨A, e, hrp, g2, hA⟩ : ∃ A e, rpOut l = .tup [A, .int .i64 e] ∧ okW A ∧ cleanL [A] = true := by
        unfold rpOut
        split
        · exact ⟨_, _, rfl, okW_sl (hdR :: repF l), rfl⟩
        · exact ⟨_, _, rfl, trivial, rfl⟩
      obtain ⟨X, g, hrd, f1, hX⟩ : ∃ X g, outL (rdL m) = .tup [X, .int .i64 g] ∧ okCs X ∧ cleanL [X] = true := by
        cases rdL m with
        | none => exact ⟨_, _, rfl, trivial, rfl⟩
        | some cs => exact ⟨_, _, rfl, okCs_sl cs, rfl⟩
      have cA := clr_of hA
      have cX := clr_of hX
      simp +contextual (maxSteps := 5000000) only [go_sem, ↓reduceIte, h1, c_wk24, h2', c_FwC, e0, e1, hcl, hf, h2, c_few3, dR_eR, hf3, Int.reduceEq, Int.reduceNe, Int.reduceLT, Int.reduceLE, Int.reduceToNat, Int.cast_ofNat_Int]
      refine M_join (fun _ : Unit => ⟨[(0, .sl 6 (l.map eCf)), (1, .sl 1 (m.map eR)), (5, .bool true), (7, A), (8, .int .i64 e)], []⟩) (fun _ => True) ?_ ?_
      · simp +contextual (maxSteps := 5000000) only [go_sem, ↓reduceIte, e0, e1, h3, c_Rp, hcn, hrow, hrp, cA.cv6, cA.rf6, cA.nw6, cA.fz6, cA.wkN, cA.wk, cA.inO]
        try exact ⟨(), trivial⟩
      intro _ _
      simp +contextual (maxSteps := 5000000) only [go_sem, ↓reduceIte]
      refine M_join (fun _ : Unit => ⟨[(1, .sl 1 (m.map eR)), (5, .bool true), (7, A), (8, .int .i64 e), (9, A), (10, .int .i64 e)], []⟩) (fun _ => True) ?_ ?_
      · simp +contextual (maxSteps := 5000000) only [go_sem, ↓reduceIte, e0, e1, h3', c_Rp, hcn, hrow, hrp, cA.cv6, cA.rf6, cA.nw6, cA.fz6, cA.wkN, cA.wk, cA.inO]
        try exact ⟨(), trivial⟩
      intro _ _
      simp +contextual (maxSteps := 5000000) only [go_sem, ↓reduceIte]
      refine M_join (fun _ : Unit => ⟨[(1, .sl 1 (m.map eR)), (5, .bool true), (7, A), (8, .int .i64 e), (9, A), (10, .int .i64 e), (11, X), (12, .int .i64 g)], []⟩) (fun _ => True) ?_ ?_
      · simp +contextual (maxSteps := 5000000) only [go_sem, ↓reduceIte, h4, c_Rd, e2, e3, hn, hrd, cA.wkN, cA.wk, cA.inO, cX.wkN, cX.wk, cX.inO]
        exact ⟨hs, (), trivial⟩
      intro _ _
      simp +contextual (maxSteps := 5000000) only [go_sem, ↓reduceIte]
      refine M_join (fun _ : Unit => ⟨[(5, .bool true), (7, A), (8, .int .i64 e), (9, A), (10, .int .i64 e), (11, X), (12, .int .i64 g), (13, X), (14, .int .i64 g)], []⟩) (fun _ => True) ?_ ?_
      · simp +contextual (maxSteps := 5000000) only [go_sem, ↓reduceIte, h4', c_Rd, e2, e3, hn, hrd, cA.wkN, cA.wk, cA.inO, cX.wkN, cX.wk, cX.inO]
        exact ⟨hs, (), trivial⟩
      intro _ _
      simp +contextual (maxSteps := 5000000) only [go_sem, ↓reduceIte]
      refine M_join (fun _ : Unit => ⟨[(5, .bool true), (8, .int .i64 e), (10, .int .i64 e), (12, .int .i64 g), (14, .int .i64 g), (15, .bool true)], []⟩) (fun _ => True) ?_ ?_
      · simp +contextual (maxSteps := 5000000) only [go_sem, ↓reduceIte, h5, c_RefW, g2, h5', c_Cs, f1, eq_self, cA.cv6, cA.rf6, cA.nw6, cA.fz6, cX.cv6, cX.rf6, cX.nw6, cX.fz6]
        try exact ⟨(), trivial⟩
      intro _ _
      simp +contextual (maxSteps := 5000000) only [go_sem, ↓reduceIte, eq_self]
end Go.Proofs.YtnpfbjbacakgoaaDoor

/- The statement MarkTells. -/
set_option linter.unusedSimpArgs false
namespace Go.Proofs.YtnpfbjbacakgoaaDoor
open Go.Tn
set_option maxHeartbeats 16000000
set_option maxRecDepth 100000
structure SmTb (t : Tab) : Prop where
  sz : slen t.1 + rlen t.2 < 2000000000
  h : t.1.length < 1000000000
  r : t.2.length < 1000000000
  c : ∀ r ∈ t.2, r.length < 1000000000
def c_fw4 (caps args : List D) : Prop × Out := match caps, args with | [], [.agg [.sl 1 hd, .sl 1 rows]] => ((hd = (hd.map dS).map eS ∧ rows = (rows.map dR).map eR) ∧ slen (hd.map dS) + rlen (rows.map dR) < 2000000000, .ret (.bool (few4 (hd.map dS, rows.map dR)))) | _, _ => (False, .ret .any)
theorem st_fw4 : StC Tryd.prog 9 c_fw4 := by
  intro caps args; unfold c_fw4; split
  · rename_i hd rows
    rintro ⟨⟨h1, h2⟩, h3⟩
    have := fc_few4 (hd.map dS, rows.map dR) h3
    simp only [dTab] at this
    rw [← h1, ← h2] at this
    exact this
  · exact fun h => h.elim
def c_TS (caps args : List D) : Prop × Out := match caps, args with
  | [], [.agg [.sl 1 a, .sl 1 b], .agg [.sl 1 c, .sl 1 d]] => ((a = (a.map dS).map eS ∧ b = (b.map dR).map eR) ∧ (c = (c.map dS).map eS ∧ d = (d.map dR).map eR), .ret (.bool (sameT (a.map dS, b.map dR) (c.map dS, d.map dR))))
  | _, _ => (False, .ret .any)
theorem st_TS : StC Tryd.prog 13 c_TS := by
  intro caps args; unfold c_TS; split
  · rename_i a b c d
    rintro ⟨⟨h1, h2⟩, h3, h4⟩
    have := fc_rTSame (a.map dS, b.map dR) (c.map dS, d.map dR)
    simp only [← h1, ← h2, ← h3, ← h4] at this
    exact this
  · exact fun h => h.elim
theorem same_self (t : Tab) : sameT t t = true := (sameT_iff t t).2 rfl
theorem fc_MTells (t : Tab) (l : List Cf) (ht : SmTb t) (hl : SmC l) : FC Tryd.prog 3 [] [.agg [.sl 1 (t.1.map eS), .sl 1 (t.2.map eR)], .sl 6 (l.map eCf)] (.ret (.bool true)) := by
  have h1 := st_wk24
  have h2 := st_fw4
  have h2' := st_FwC
  have h3 := st_Txt
  have h3' := st_rTxt
  have h4 := st_Mk
  have h4' := st_rMk
  have h5 := st_TS
  have e0 := okCs_sl l
  have e1 := pCs_sl l
  have hcl := hl.cl
  have hn : l.length < 1000000000 := by have := hl.n; omega
  have hok := hl.ok
  obtain ⟨hsz, hth, htr, htc⟩ := ht
  refine fc_M (fn := Tryd.f3) (C := (tab [(8, c_wk24), (9, c_fw4), (10, c_FwC), (11, c_Txt), (12, c_Txt), (14, c_Mk), (15, c_Mk), (13, c_TS)] [] [])) (rs := [4]) mixed (by kernel_rfl) (by kernel_rfl) rfl rfl (by kernel_rfl) (by intro ys h; cases h) ?_
  cases hf : few4 t with
  | false =>
    simp +contextual (maxSteps := 5000000) only [go_sem, ↓reduceIte, h1, c_wk24, h2, c_fw4, h2', c_FwC, e0, e1, hcl, hf, dS_eS, dR_eR, hsz]
  | true =>
    cases hf3 : fewC l with
    | false =>
      simp +contextual (maxSteps := 5000000) only [go_sem, ↓reduceIte, h1, c_wk24, h2, c_fw4, h2', c_FwC, e0, e1, hcl, hf, hf3, dS_eS, dR_eR, hsz]
    | true =>
      simp +contextual (maxSteps := 5000000) only [go_sem, ↓reduceIte, h1, c_wk24, h2, c_fw4, h2', c_FwC, e0, e1, hcl, hf, hf3, dS_eS, dR_eR, hsz]
      refine M_loopI (fun i : Nat => ⟨[(1, .sl 6 (l.map eCf)), (2, .loc 2 0), (5, .bool true), (7, .int .i64 i)], [(2, .blk [.sl 1 (t.1.map eS), .sl 1 (t.2.map eR)] false)]⟩) (fun i => l.length - i) (fun i => i ≤ l.length) 0 ?_ ?_
      · simp +contextual (maxSteps := 5000000) only [go_sem, ↓reduceIte]
        rfl
      intro i hi
      by_cases hlt : i < l.length
      · have hat := eCf_at' l i hlt
        have hok1 := hok _ (getD_memX (d := c0) hlt)
        generalize l.getD i c0 = c at hat hok1
        obtain ⟨ck, cr, cc, cb, co, ct⟩ := c
        simp only [eCf] at hat
        simp +contextual (maxSteps := 5000000) only [go_sem, ↓reduceIte, hlt, hat, h3, h3', c_Txt, hok1, eq_self]
        exact fun _ => ⟨inR64 (by omega) (by omega), fun _ => ⟨i + 1, by simp, by omega, by omega⟩⟩
      · simp +contextual (maxSteps := 5000000) only [go_sem, ↓reduceIte, hlt, h4, h4', c_Mk, h5, c_TS, dS_eS, dR_eR, dCf_map, hth, htr, hn, same_self]
        exact fun _ => ⟨htc, hok⟩
end Go.Proofs.YtnpfbjbacakgoaaDoor

/- The statement MarkElse. -/
set_option linter.unusedSimpArgs false
namespace Go.Proofs.YtnpfbjbacakgoaaDoor
open Go.Tn
set_option maxHeartbeats 16000000
set_option maxRecDepth 100000
theorem lens_at {R rs : Rws} (h : R.map List.length = rs.map List.length) : R.length = rs.length ∧ ∀ i, (R.getD i []).length = (rs.getD i []).length := by
  have h1 : R.length = rs.length := by have := congrArg List.length h; simpa using this
  refine ⟨h1, fun i => ?_⟩
  have := congrArg (fun q => q[i]?) h
  simp only [List.getElem?_map] at this
  rw [List.getD_eq_getElem?_getD, List.getD_eq_getElem?_getD]
  cases h2 : R[i]? <;> cases h3 : rs[i]? <;> rw [h2, h3] at this <;> simp at this ⊢
  exact this
theorem markR_cell {rs : Rws} {c : Cf} {z row col : Int} (h' : List (List UInt8)) (h : ¬ (c.row = row ∧ (c.kind = 5 ∨ c.kind = 4) ∧ z = col)) : cellF (h', markR rs c z) row col = cellF (h', rs) row col := by
  obtain ⟨h1, h2⟩ := lens_at (markR_len rs c z)
  unfold cellF
  simp only
  rw [h1, h2]
  by_cases hc : row < 0 ∨ rs.length ≤ row ∨ col < 0 ∨ (rs.getD row.toNat []).length ≤ col
  · rw [if_pos hc, if_pos hc]
  · rw [if_neg hc, if_neg hc]
    unfold markR
    split
    · rename_i hk
      have hth := hk.2
      unfold thF at hth
      simp only [decide_eq_true_eq] at hth
      by_cases hr : row = c.row
      · have hz : ¬ z = col := fun e => h ⟨hr.symm, hk.1, e⟩
        have hzc : z.toNat ≠ col.toNat := by omega
        subst hr
        have e1 : ∀ v, (rs.set c.row.toNat v).getD c.row.toNat [] = v := fun v => by
          rw [List.getD_eq_getElem?_getD, List.getElem?_set_self (by omega), Option.getD_some]
        rw [e1]
        generalize rs.getD c.row.toNat [] = rr
        rw [List.getD_eq_getElem?_getD, List.getElem?_set_ne hzc, ← List.getD_eq_getElem?_getD]
      · have hrc : c.row.toNat ≠ row.toNat := by omega
        rw [List.getD_eq_getElem?_getD (l := rs.set _ _), List.getElem?_set_ne hrc, ← List.getD_eq_getElem?_getD]
    · rfl
def hit1 (h : List (List UInt8)) (row col : Int) (c : Cf) : Bool := decide (c.row = row) && (decide (c.kind = 5) || decide (c.kind = 4)) && decide (fndS c.col h 0 = col)
def hitF (h : List (List UInt8)) (row col : Int) (l : List Cf) : Bool := l.any (hit1 h row col)
theorem marks_cell {h : List (List UInt8)} {row col : Int} (h' : List (List UInt8)) : ∀ (l : List Cf) (rs : Rws), hitF h row col l = false → cellF (h', marksF h rs l) row col = cellF (h', rs) row col
  | [], _, _ => rfl
  | c :: l, rs, hh => by
    unfold hitF at hh
    rw [List.any_cons, Bool.or_eq_false_iff] at hh
    show cellF (h', marksF h (markR rs c _) l) row col = _
    rw [marks_cell h' l _ hh.2]
    refine markR_cell h' fun hc => ?_
    have := hh.1
    unfold hit1 at this
    obtain ⟨e1, e2, e3⟩ := hc
    rw [decide_eq_true e1, decide_eq_true e3] at this
    rcases e2 with e | e <;> rw [decide_eq_true e] at this <;> simp at this
theorem hit_snoc (h : List (List UInt8)) (row col : Int) (l : List Cf) (c : Cf) : hitF h row col (l ++ [c]) = (hitF h row col l || hit1 h row col c) := by
  unfold hitF; rw [List.any_append]; simp
def hdE (t : Tab) (l : List Cf) (row col : Int) (b : Bool) : Hd := ⟨[(1, .sl 6 (l.map eCf)), (2, .int .i64 row), (3, .int .i64 col), (4, .loc 4 0), (9, .bool true), (11, .loc 11 0), (12, .bool true), (13, .bool b)],
  [(4, .blk [.sl 1 (t.1.map eS), .sl 1 (t.2.map eR)] false), (11, .blk [.sl 1 (t.1.map eS), .sl 1 ((marksF t.1 t.2 l).map eR)] false)]⟩
theorem fc_MElse (t : Tab) (l : List Cf) (row col : Int) (ht : SmTb t) (hl : SmC l) : FC Tryd.prog 7 [] [.agg [.sl 1 (t.1.map eS), .sl 1 (t.2.map eR)], .sl 6 (l.map eCf), .int .i64 row, .int .i64 col] (.ret (.bool true)) := by
  have h1 := st_wk24
  have h2 := st_fw4
  have h2' := st_FwC
  have h3 := st_tF
  have h4 := st_Mk
  have h5 := st_RefS
  have h6 := st_Cel
  have e0 := okCs_sl l
  have e1 := pCs_sl l
  have hcl := hl.cl
  have hn : l.length < 1000000000 := by have := hl.n; omega
  have hok := hl.ok
  obtain ⟨hsz, hth, htr, htc⟩ := ht
  refine fc_M (fn := Tryd.f7) (C := (tab [(8, c_wk24), (9, c_fw4), (10, c_FwC), (14, c_Mk), (23, c_RefS), (24, c_tF), (25, c_Cel)] [] [])) (rs := [8]) mixed (by kernel_rfl) (by kernel_rfl) rfl rfl (by kernel_rfl) (by intro ys h; cases h) ?_
  cases hf : few4 t with
  | false =>
    simp +contextual (maxSteps := 5000000) only [go_sem, ↓reduceIte, h1, c_wk24, h2, c_fw4, h2', c_FwC, e0, e1, hcl, hf, dS_eS, dR_eR, hsz]
  | true =>
    cases hf3 : fewC l with
    | false =>
      simp +contextual (maxSteps := 5000000) only [go_sem, ↓reduceIte, h1, c_wk24, h2, c_fw4, h2', c_FwC, e0, e1, hcl, hf, hf3, dS_eS, dR_eR, hsz]
    | true =>
      simp +contextual (maxSteps := 5000000) only [go_sem, ↓reduceIte, h1, c_wk24, h2, c_fw4, h2', c_FwC, e0, e1, hcl, hf, hf3, dS_eS, dR_eR, hsz, h4, c_Mk, dCf_map, hth, htr, hn, h5, c_RefS, eq_self]
      refine ⟨⟨htc, hok⟩, ?_⟩
      refine M_loopI (fun i : Nat => ⟨(14, .int .i64 i) :: (hdE t l row col (hitF t.1 row col (l.take i))).1, (hdE t l row col (hitF t.1 row col (l.take i))).2⟩) (fun i => l.length - i) (fun i => i ≤ l.length) 0 ?_ ?_
      · unfold hdE
        simp +contextual (maxSteps := 5000000) only [go_sem, ↓reduceIte]
        exact ⟨rfl, rfl⟩
      intro i hi
      by_cases hlt : i < l.length
      · have hat := eCf_at' l i hlt
        have hsn := take_snC hlt
        have hnx := hit_snoc t.1 row col (l.take i) (l.getD i c0)
        rw [← hsn] at hnx
        generalize l.getD i c0 = c at hat hnx
        have hk : ∃ k : List (List UInt8), t.1.map eS = k.map eS ∧ k.length < 1000000000 := ⟨t.1, rfl, hth⟩
        obtain ⟨ck, cr, cc, cb, co, ct⟩ := c
        simp only [eCf] at hat
        unfold hit1 at hnx
        simp only at hnx
        generalize hitF t.1 row col (l.take i) = b at hnx ⊢
        unfold hdE
        cases b with
        | true =>
          simp +contextual (maxSteps := 5000000) only [go_sem, ↓reduceIte, hlt, hat]
          exact fun _ => ⟨inR64 (by omega) (by omega), fun _ => ⟨i + 1, ⟨by simp, by rw [hnx]; simp ⟩, by omega, by omega⟩⟩
        | false =>
          by_cases q1 : cr = row
          · by_cases q2 : ck = 5
            · by_cases q4 : fndS cc t.1 0 = col
              · simp +contextual (maxSteps := 5000000) only [go_sem, ↓reduceIte, hlt, hat, q1, q2, q4, h3, c_tF, hk, unS, Int.reduceEq, Int.reduceNe, Int.reduceLT, Int.reduceLE, Int.reduceToNat, Int.cast_ofNat_Int]
                exact fun _ => ⟨inR64 (by omega) (by omega), fun _ => ⟨i + 1, ⟨by simp, by rw [hnx]; simp [q1, q2, q4]⟩, by omega, by omega⟩⟩
              · simp +contextual (maxSteps := 5000000) only [go_sem, ↓reduceIte, hlt, hat, q1, q2, q4, h3, c_tF, hk, unS, Int.reduceEq, Int.reduceNe, Int.reduceLT, Int.reduceLE, Int.reduceToNat, Int.cast_ofNat_Int]
                exact fun _ => ⟨inR64 (by omega) (by omega), fun _ => ⟨i + 1, ⟨by simp, by rw [hnx]; simp [q1, q2, q4]⟩, by omega, by omega⟩⟩
            · by_cases q3 : ck = 4
              · by_cases q4 : fndS cc t.1 0 = col
                · simp +contextual (maxSteps := 5000000) only [go_sem, ↓reduceIte, hlt, hat, q1, q2, q3, q4, h3, c_tF, hk, unS, Int.reduceEq, Int.reduceNe, Int.reduceLT, Int.reduceLE, Int.reduceToNat, Int.cast_ofNat_Int]
                  exact fun _ => ⟨inR64 (by omega) (by omega), fun _ => ⟨i + 1, ⟨by simp, by rw [hnx]; simp [q1, q2, q3, q4]⟩, by omega, by omega⟩⟩
                · simp +contextual (maxSteps := 5000000) only [go_sem, ↓reduceIte, hlt, hat, q1, q2, q3, q4, h3, c_tF, hk, unS, Int.reduceEq, Int.reduceNe, Int.reduceLT, Int.reduceLE, Int.reduceToNat, Int.cast_ofNat_Int]
                  exact fun _ => ⟨inR64 (by omega) (by omega), fun _ => ⟨i + 1, ⟨by simp, by rw [hnx]; simp [q1, q2, q3, q4]⟩, by omega, by omega⟩⟩
              · simp +contextual (maxSteps := 5000000) only [go_sem, ↓reduceIte, hlt, hat, q1, q2, q3, Int.reduceEq, Int.reduceNe, Int.reduceLT, Int.reduceLE, Int.reduceToNat, Int.cast_ofNat_Int]
                exact fun _ => ⟨inR64 (by omega) (by omega), fun _ => ⟨i + 1, ⟨by simp, by rw [hnx]; simp [q1, q2, q3]⟩, by omega, by omega⟩⟩
          · simp +contextual (maxSteps := 5000000) only [go_sem, ↓reduceIte, hlt, hat, q1, Int.reduceEq, Int.reduceNe, Int.reduceLT, Int.reduceLE, Int.reduceToNat, Int.cast_ofNat_Int]
            exact fun _ => ⟨inR64 (by omega) (by omega), fun _ => ⟨i + 1, ⟨by simp, by rw [hnx]; simp [q1]⟩, by omega, by omega⟩⟩
      · have he : i = l.length := by omega
        subst he
        rw [List.take_length]
        have hml := congrArg List.length (marks_len t.1 l t.2)
        rw [List.length_map, List.length_map] at hml
        unfold hdE
        cases hb : hitF t.1 row col l with
        | true =>
          simp +contextual (maxSteps := 5000000) only [go_sem, ↓reduceIte, hlt, hml]
        | false =>
          have hce := marks_cell t.1 l t.2 hb
          simp +contextual (maxSteps := 5000000) only [go_sem, ↓reduceIte, hlt, hml, h6, c_Cel, dS_eS, dR_eR, hce]
end Go.Proofs.YtnpfbjbacakgoaaDoor

set_option linter.unusedSimpArgs false
namespace Go.Proofs.YtnpfbjbacakgoaaDoor
open Go.Tn Go.RowKit
set_option maxRecDepth 100000
theorem own : ownKnob Tryd.prog.godebug = none := by kernel_rfl
theorem laidOut : laidOutB Tryd.prog = true := by kernel_rfl
mutual
theorem bulk_eq {H : Type} : ∀ d : DataW H, Rows.uptoBulk d = blk d
  | .lit l => by cases l <;> simp [Rows.uptoBulk, blk]
  | .nil => by simp [Rows.uptoBulk, blk]
  | .ptr d => by simp [Rows.uptoBulk, blk, bulk_eq d]
  | .slice elems spare => by simp [Rows.uptoBulk, blk, bulkL_eq elems, bulkL_eq spare]
  | .agg parts => by simp [Rows.uptoBulk, blk, bulkL_eq parts]
  | .iface _ d => by simp [Rows.uptoBulk, blk, bulk_eq d]
  | .map entries => by simp [Rows.uptoBulk, blk, bulkE_eq entries]
  | .held _ => by simp [Rows.uptoBulk, blk]
theorem bulkL_eq {H : Type} : ∀ l : List (DataW H), Rows.uptoBulkAll l = blkL l
  | [] => by simp [Rows.uptoBulkAll, blkL]
  | d :: r => by simp [Rows.uptoBulkAll, blkL, bulk_eq d, bulkL_eq r]
theorem bulkE_eq {H : Type} : ∀ l : List (Lit × DataW H), Rows.uptoBulkEntries l = blkE l
  | [] => by simp [Rows.uptoBulkEntries, blkE]
  | x :: r => by simp [Rows.uptoBulkEntries, blkE, bulk1_eq x, bulkE_eq r]
theorem bulk1_eq {H : Type} : ∀ x : Lit × DataW H, Rows.uptoBulkEntry x = blk1 x
  | (l, d) => by cases l <;> simp [Rows.uptoBulkEntry, blk1, bulk_eq d]
end
theorem small_le {H : Type} {ds : List (DataW H)} (h : Rows.uptoSmall H ds = true) : blkL ds ≤ 1048576 := by
  rw [← bulkL_eq]; exact of_decide_eq_true h
/- what the arguments' sizes give -/
theorem szD_pos (d : D) : 1 ≤ szD d := by unfold szD; split <;> omega
theorem szL_mem {d : D} : ∀ {l : List D}, d ∈ l → szD d ≤ szL l
  | x :: l, h => by
    simp only [szL]
    rcases List.mem_cons.1 h with rfl | h
    · omega
    · have := szL_mem h; omega
theorem szR_mem {r : List D} : ∀ {l : List (List D)}, r ∈ l → szL r ≤ szR l
  | x :: l, h => by
    simp only [szR]
    rcases List.mem_cons.1 h with rfl | h
    · omega
    · have := szR_mem h; omega
theorem szR_len {α : Type} {e : α → List D} (he : ∀ x, e x ≠ []) : ∀ l : List α, l.length ≤ szR (l.map e)
  | [] => by simp
  | x :: l => by
    have h1 := szR_len he l
    have h2 : 1 ≤ szL (e x) := by
      cases h : e x with
      | nil => exact absurd h (he x)
      | cons d r => simp only [szL]; have := szD_pos d; omega
    simp only [List.map_cons, szR, List.length_cons]; omega
theorem szR_S (l : List (List UInt8)) : slen l ≤ szR (l.map eS) := by
  induction l with
  | nil => simp [slen, szR]
  | cons s l ih => simp only [slen_cons, List.map_cons, szR, eS, szL, szD]; unfold slen at *; omega
theorem szR_R (l : List (List (List UInt8))) : rlen l ≤ szR (l.map eR) := by
  induction l with
  | nil => simp [rlen, szR]
  | cons r l ih =>
    have := szR_S r
    simp only [rlen_cons, List.map_cons, szR, eR, szL, szD]; unfold rlen at *; omega
theorem szR_C (l : List Cf) : clen l ≤ szR (l.map eCf) := by
  induction l with
  | nil => simp [clen, szR]
  | cons c l ih =>
    rw [clen_cons]
    simp only [List.map_cons, szR, eCf, szL, szD, c4]; omega
theorem smR_of {m : Rws} (h : szL [.sl 1 (m.map eR)] ≤ 1048576) : SmR m := by
  simp only [szL, szD] at h
  have h1 := szR_len (e := eR) (by intro x h; cases h) m
  refine ⟨by omega, fun r hr s hs => ?_⟩
  have h2 := szR_mem (List.mem_map_of_mem (f := eR) hr)
  simp only [eR, szL, szD] at h2
  have h3 := szR_mem (List.mem_map_of_mem (f := eS) hs)
  simp only [eS, szL, szD] at h3
  omega
theorem smT_of {t : Tab} (h : szL [.sl 1 (t.1.map eS), .sl 1 (t.2.map eR)] ≤ 1048576) : SmTb t := by
  have h1 := szR_S t.1
  have h2 := szR_R t.2
  have h3 := szR_len (e := eS) (by intro x h; cases h) t.1
  have h4 := szR_len (e := eR) (by intro x h; cases h) t.2
  simp only [szL, szD] at h
  refine ⟨by omega, by omega, by omega, fun r hr => ?_⟩
  have h5 := szR_mem (List.mem_map_of_mem (f := eR) hr)
  have h6 := szR_len (e := eS) (by intro x h; cases h) r
  simp only [eR, szL, szD] at h5
  omega
theorem smC_of {l : List Cf} (hr : ∀ c ∈ l, InR .i64 c.row) (h : szL [.sl 6 (l.map eCf)] ≤ 1048576) : SmC l := by
  simp only [szL, szD] at h
  have h1 := szR_len (e := eCf) (by intro x h; cases h) l
  have h2 := szR_C l
  refine ⟨by omega, by omega, fun c hc => ?_, hr⟩
  have h3 := szR_mem (List.mem_map_of_mem (f := eCf) hc)
  simp only [eCf, szL, szD] at h3
  unfold okCf; omega
theorem fits_sC {d : D} (h : Fits (.slc [.int .i64, .int .i64, .str, .str, .str, .str]) d) : ∃ l : List Cf, d = .sl 6 (l.map eCf) ∧ ∀ c ∈ l, InR .i64 c.row := by
  unfold Fits at h
  obtain ⟨rows, rfl, g⟩ := h
  have g' : ∀ r ∈ rows, r = eCf (dCf r) ∧ InR .i64 (dCf r).row := fun r hr => by
    have := g r hr
    simp only [FitsL] at this
    obtain ⟨_, _, rfl, h0, _, _, rfl, h1, _, _, rfl, h2, _, _, rfl, h3, _, _, rfl, h4, _, _, rfl, h5, rfl⟩ := this
    obtain ⟨k, rfl⟩ := fits_i h0
    obtain ⟨n, rfl, hn⟩ := fits_i64 h1
    simp only [Fits] at h2 h3 h4 h5
    obtain ⟨_, rfl⟩ := h2
    obtain ⟨_, rfl⟩ := h3
    obtain ⟨_, rfl⟩ := h4
    obtain ⟨_, rfl⟩ := h5
    exact ⟨rfl, hn⟩
  refine ⟨rows.map dCf, ?_, fun c hc => ?_⟩
  · rw [← map_id_of fun r hr => (g' r hr).1]; rfl
  · obtain ⟨r, hr, rfl⟩ := List.mem_map.1 hc
    exact (g' r hr).2
theorem fits_sR {d : D} (h : Fits (.slc [.slc [.str]]) d) : ∃ m : Rws, d = .sl 1 (m.map eR) := by
  unfold Fits at h
  obtain ⟨rows, rfl, g⟩ := h
  exact ⟨rows.map dR, by rw [← fits_R g]; rfl⟩
/- what is laid -/
abbrev LL : List (String × DataW Unit) := [("math/bits.deBruijn32tab", Rows.laid_math_bits_deBruijn32tab), ("math/bits.deBruijn64tab", Rows.laid_math_bits_deBruijn64tab), ("internal/strconv.uint64pow10", Rows.laid_internal_strconv_uint64pow10), ("strconv.ErrRange", Rows.laid_strconv_ErrRange), ("strconv.ErrSyntax", Rows.laid_strconv_ErrSyntax)]
theorem trod_ifc {P : Program} {W : World} {fuel : Nat} {t : TypeId} {cs : List Value} {ms : Array (String × TypeId)} {name : String} {d : DataW Unit} {p : List MemPlace} (ht : P.underlying t = some (.interface ms))
    (h : DataW.trod (fun _ => ()) P W 0 (fun _ => true) false fuel t cs = some (.iface name d, p)) : ∃ u v, cs = [.iface u v] := by
  cases fuel with
  | zero => simp [DataW.trod] at h
  | succ fuel =>
    unfold DataW.trod at h
    rw [ht] at h
    split at h <;> first | (cases h; done) | skip
    all_goals first | exact ⟨_, _, rfl⟩ | (exfalso; have e := ‹some (TypeDesc.interface ms) = some _›; cases e)
theorem var_at {P : Program} {W : World} {n : String} {g : Nat} {cs : Array Value} (hg : P.globalNamed n = some g) (h : W.var? P n = some cs) : ∃ t z, W.heap[g]? = some (.cells cs t z) := by
  unfold World.var? at h
  rw [hg, Option.bind_some] at h
  split at h
  · cases h; exact ⟨_, _, by assumption⟩
  · cases h
theorem exW_of {W : World} {g : Nat} {cs : Array Value} {t : TypeId} {z : Nat × Nat} (h : W.heap[g]? = some (.cells cs t z)) : exW W g = cs.size + 1 := by
  unfold exW; rw [h]
theorem laid_of {W : World} (h : laidMetH Tryd.prog LL W) : Laid Tryd.prog (exW W) W := by
  rw [MakeChecks.laidMetH_plain _ _ _ (by kernel_rfl)] at h
  have errs : ∀ (n : String) (g0 : Nat) (d : DataW Unit), Tryd.prog.globalNamed n = some g0 → (Tryd.prog.globals[g0]?).map (·.type) = some 61 → (∃ nm e, d = .iface nm e) → LL.filter (fun x => x.1 == n) = [(n, d)] → ∃ tp q t z, W.heap[g0]? = some (.cells #[.iface tp q] t z) ∧ 1 < exW W g0 := by
    intro n g0 d hg hty hd hf
    have h1 := h.filter (fun x => x.1 == n)
    rw [hf] at h1
    obtain ⟨nm, e, rfl⟩ := hd
    obtain ⟨ps, ⟨g', t', cs, fuel, p, q, hg', ht', hvar, hdd, _, _⟩, _⟩ := h1
    obtain rfl := Option.some.inj (hg.symm.trans hg')
    obtain rfl := Option.some.inj (hty.symm.trans ht')
    obtain ⟨ms, hms⟩ : ∃ ms, Tryd.prog.underlying 61 = some (.interface ms) := by
      have hkd : (tyOf Tryd.prog 61).kind = .iface := by kernel_rfl
      obtain ⟨d, hd, hm⟩ := (tyOf_fact (P := Tryd.prog) (t := 61) (by rw [hkd]; intro h; cases h)).und
      rw [hkd] at hm
      obtain ⟨ms, rfl⟩ := hm
      exact ⟨ms, hd⟩
    obtain ⟨u, v, hc⟩ := trod_ifc hms hdd
    obtain ⟨t, z, hh⟩ := var_at hg hvar
    have hc' : cs = #[.iface u v] := by rw [← Array.toList_inj, hc]
    subst hc'
    exact ⟨u, v, t, z, hh, by rw [exW_of hh]; show 1 < 1 + 1; omega⟩
  refine ⟨fun g hg => ?_, fun n hn g hg => ?_⟩
  · have h1 := h.filter (fun x => x.1 == "internal/strconv.uint64pow10")
    have hf : LL.filter (fun x => x.1 == "internal/strconv.uint64pow10") = [("internal/strconv.uint64pow10", Lib.tabData .u64 Lib.pow10Tab)] := by kernel_rfl
    rw [hf] at h1
    have hg2 : Tryd.prog.globalNamed "internal/strconv.uint64pow10" = some 2 := by kernel_rfl
    obtain rfl := Option.some.inj (hg2.symm.trans hg)
    have ht := Lib.tabIs_of_head (P := Tryd.prog) (k := .u64) (zs := Lib.pow10Tab) (rest := []) (t := 94) (e := 59) (n := 20) hg2 (by kernel_rfl) (by kernel_rfl) (by kernel_rfl) (by kernel_rfl) (by kernel_rfl) h1
    obtain ⟨t, z, hh⟩ := var_at hg2 ht
    exact ⟨t, z, hh, by rw [exW_of hh]; simp [Lib.pow10Tab_length]⟩
  · rcases hn with rfl | rfl
    · have h0 : Tryd.prog.globalNamed "strconv.ErrSyntax" = some 0 := by kernel_rfl
      obtain rfl := Option.some.inj (h0.symm.trans hg)
      exact errs _ 0 Rows.laid_strconv_ErrSyntax h0 (by kernel_rfl) ⟨_, _, rfl⟩ (by kernel_rfl)
    · have h0 : Tryd.prog.globalNamed "strconv.ErrRange" = some 1 := by kernel_rfl
      obtain rfl := Option.some.inj (h0.symm.trans hg)
      exact errs _ 1 Rows.laid_strconv_ErrRange h0 (by kernel_rfl) ⟨_, _, rfl⟩ (by kernel_rfl)
noncomputable abbrev wL (os : Os) : World := World.laidAll Tryd.prog os LL
theorem met (os : Os) (args : Array Value) : laidMetH Tryd.prog LL ((wL os).forCall (fun _ _ => 0) ⟨#[], args, []⟩).memory := by
  rw [MakeChecks.laidMetH_plain _ _ _ (by kernel_rfl)]
  exact laidMet_laidAll _ (by kernel_rfl) (by kernel_rfl)
theorem plain_of {fn : Func} (h : (fn.params.toList.all fun t => !(Tryd.prog.wantsStandIn t)) = true) : ∀ (j : Nat) t, fn.params[j]? = some t → Tryd.prog.wantsStandIn t = false := fun j t ht => by
  have := List.all_eq_true.1 h t (by rw [Array.mem_toList_iff]; exact Array.mem_of_getElem? ht)
  simpa using this
end Go.Proofs.YtnpfbjbacakgoaaDoor
