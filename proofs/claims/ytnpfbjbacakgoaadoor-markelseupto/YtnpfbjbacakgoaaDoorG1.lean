/-
  What the functions compute that the law of this claim reaches. By an AI agent.
-/
import Derived.Lib.ParseIntBCases
import Derived.Test.YtnpfbjbacakgoaaDoorG0
set_option linter.unusedSimpArgs false
set_option linter.unusedVariables false
set_option linter.unusedSectionVars false

set_option linter.unusedSimpArgs false
namespace Go.Proofs.YtnpfbjbacakgoaaDoor
open Go.Tn
set_option maxHeartbeats 8000000
set_option maxRecDepth 100000

theorem drop_cons {α : Type} {l : List α} {i : Nat} {d : α} (h : i < l.length) : l.drop i = l.getD i d :: l.drop (i + 1) := by
  rw [List.drop_eq_getElem_cons h, List.getD_eq_getElem?_getD, List.getElem?_eq_getElem h]; rfl
def fewIn : List (List UInt8) → Nat → Option Nat
  | [], n => some n
  | s :: r, n => if 8000 < n + s.length + 1 then none else fewIn r (n + s.length + 1)
def fewOn (x : Option Nat) (k : Nat → Bool) : Bool := match x with | none => false | some m => k m
def fewOut : List (List (List UInt8)) → Nat → Bool
  | [], _ => true
  | r :: l, n => if 60 < r.length then false else fewOn (fewIn r n) (fewOut l)
def few3 (l : List (List (List UInt8))) : Bool := if 60 < l.length then false else fewOut l 0
theorem fc_few3 (l : List (List (List UInt8))) : FC Tryd.prog 16 [] [.sl 1 (l.map eR)] (.ret (.bool (few3 l))) := by
  refine fc_M (fn := Tryd.f16) (C := (tab [] [])) (rs := [2]) mixed (by kernel_rfl) (by kernel_rfl) rfl rfl (by kernel_rfl) (by intro ys h; cases h) ?_
  unfold few3
  by_cases h60 : 60 < l.length
  · rw [if_pos h60]
    have h60 : (60 : Int) < l.length := by omega
    simp +contextual (maxSteps := 5000000) only [go_sem, ↓reduceIte, h60]
  · rw [if_neg h60]
    have h60 : ¬ (60 : Int) < l.length := by omega
    simp +contextual (maxSteps := 5000000) only [go_sem, ↓reduceIte, h60]
    intro hl
    refine M_loopI (fun s : Nat × Nat => ⟨[(0, .sl 1 (l.map eR)), (3, .int .i64 s.2), (4, .int .i64 s.1)], []⟩) (fun s => l.length - s.1) (fun s => s.1 ≤ l.length ∧ s.2 ≤ 8000 ∧ fewOut (l.drop s.1) s.2 = fewOut l 0) (0, 0) ?_ ?_
    · simp +contextual (maxSteps := 5000000) only [go_sem, ↓reduceIte]
      rfl
    · intro ⟨i, n⟩ hi
      obtain ⟨hi, hn, hf⟩ := hi
      simp only at hi hn hf
      by_cases hlt : i < l.length
      · rw [drop_cons (d := []) hlt] at hf
        simp only [fewOut] at hf
        by_cases h6 : 60 < (l.getD i []).length
        · rw [if_pos h6] at hf
          have h6 : (60 : Int) < (l.getD i []).length := by omega
          simp +contextual (maxSteps := 5000000) only [go_sem, ↓reduceIte, hlt, eR_at, h6]
          exact fun _ _ => hf
        · rw [if_neg h6] at hf
          have h6 : ¬ (60 : Int) < (l.getD i []).length := by omega
          simp +contextual (maxSteps := 5000000) only [go_sem, ↓reduceIte, hlt, eR_at, h6]
          intro _ hrl
          refine M_loopI (fun s : Nat × Nat => ⟨[(0, .sl 1 (l.map eR)), (3, .int .i64 s.2), (4, .int .i64 i), (5, .int .i64 s.1)], []⟩) (fun s => (l.getD i []).length - s.1) (fun s => s.1 ≤ (l.getD i []).length ∧ s.2 ≤ 8000 ∧ fewIn ((l.getD i []).drop s.1) s.2 = fewIn (l.getD i []) n) (0, n) ?_ ?_
          · simp +contextual (maxSteps := 5000000) only [go_sem, ↓reduceIte]
            exact ⟨rfl, hn⟩
          · intro ⟨k, m⟩ hk
            obtain ⟨hk, hm, hg⟩ := hk
            simp only at hk hm hg
            by_cases hkl : k < (l.getD i []).length
            · rw [drop_cons (d := []) hkl] at hg
              simp only [fewIn] at hg
              simp +contextual (maxSteps := 5000000) only [go_sem, ↓reduceIte, hlt, eR_at, eS_at, hkl]
              simp only [aa, inR_iff]
              intro _ _
              refine ⟨by omega, by omega, ?_⟩
              split
              · rename_i h8
                rw [if_pos (by omega)] at hg
                rw [← hg] at hf
                exact hf
              · rename_i h8
                rw [if_neg (by omega)] at hg
                exact ⟨by omega, (k + 1, m + ((l.getD i []).getD k []).length + 1), ⟨by simp, by simp⟩, by simp only; omega, by simp only; omega, by simp only; omega, hg⟩
            · rw [List.drop_of_length_le (by omega)] at hg
              simp only [fewIn] at hg
              rw [← hg] at hf
              simp +contextual (maxSteps := 5000000) only [go_sem, ↓reduceIte, hlt, eR_at, hkl]
              simp only [aa, inR_iff]
              exact fun _ => ⟨by omega, (i + 1, m), ⟨rfl, by simp⟩, by simp only; omega, by simp only; omega, hm, hf⟩
      · simp +contextual (maxSteps := 5000000) only [go_sem, ↓reduceIte, hlt]
        intro _
        rw [List.drop_of_length_le (by omega)] at hf
        rw [← hf]; rfl
def slen (r : List (List UInt8)) : Nat := (r.map List.length).sum
def rlen (l : List (List (List UInt8))) : Nat := (l.map slen).sum
theorem slen_cons (s : List UInt8) (r : List (List UInt8)) : slen (s :: r) = s.length + slen r := rfl
theorem rlen_cons (r : List (List UInt8)) (l : List (List (List UInt8))) : rlen (r :: l) = slen r + rlen l := rfl
theorem fc_Total (t : Tab) (h : slen t.1 + rlen t.2 < 2000000000) : FC Tryd.prog 26 [] [dTab t] (.ret (.int .i64 (slen t.1 + rlen t.2 : Nat))) := by
  refine fc_M (fn := Tryd.f26) (C := (tab [] [])) (rs := [2]) mixed (by kernel_rfl) (by kernel_rfl) rfl rfl (by kernel_rfl) (by intro ys h; cases h) ?_
  simp +contextual (maxSteps := 5000000) only [go_sem, ↓reduceIte]
  refine M_loopI (fun s : Nat × Nat => ⟨[(1, .loc 1 0), (3, .int .i64 s.2), (4, .int .i64 s.1)], [(1, .blk [.sl 1 (t.1.map eS), .sl 1 (t.2.map eR)] false)]⟩) (fun s => t.1.length - s.1) (fun s => s.1 ≤ t.1.length ∧ s.2 + slen (t.1.drop s.1) = slen t.1) (0, 0) ?_ ?_
  · simp +contextual (maxSteps := 5000000) only [go_sem, ↓reduceIte]
    rfl
  · intro ⟨i, n⟩ hi
    obtain ⟨hi, hf⟩ := hi
    simp only at hi hf
    by_cases hlt : i < t.1.length
    · rw [drop_cons (d := []) hlt, slen_cons] at hf
      simp +contextual (maxSteps := 5000000) only [go_sem, ↓reduceIte, hlt, eS_at]
      simp only [aa, inR_iff]
      exact fun _ _ => ⟨by omega, by omega, (i + 1, n + (t.1.getD i []).length), ⟨by simp, by simp⟩, by simp only; omega, by simp only; omega, by simp only; omega⟩
    · rw [List.drop_of_length_le (by omega)] at hf
      obtain rfl : n = slen t.1 := by simpa [slen] using hf
      simp +contextual (maxSteps := 5000000) only [go_sem, ↓reduceIte, hlt]
      intro _
      clear hf hlt hi
      refine M_loopI (fun s : Nat × Nat => ⟨[(1, .loc 1 0), (3, .int .i64 s.2), (5, .int .i64 s.1)], [(1, .blk [.sl 1 (t.1.map eS), .sl 1 (t.2.map eR)] false)]⟩) (fun s => t.2.length - s.1) (fun s => s.1 ≤ t.2.length ∧ s.2 + rlen (t.2.drop s.1) = slen t.1 + rlen t.2) (0, slen t.1) ?_ ?_
      · simp +contextual (maxSteps := 5000000) only [go_sem, ↓reduceIte]
        rfl
      · intro ⟨i, n⟩ hi
        obtain ⟨hi, hf⟩ := hi
        simp only at hi hf
        by_cases hlt : i < t.2.length
        · rw [drop_cons (d := []) hlt, rlen_cons] at hf
          simp +contextual (maxSteps := 5000000) only [go_sem, ↓reduceIte, hlt, eR_at]
          intro _
          refine M_loopI (fun s : Nat × Nat => ⟨[(1, .loc 1 0), (3, .int .i64 s.2), (5, .int .i64 i), (6, .int .i64 s.1)], [(1, .blk [.sl 1 (t.1.map eS), .sl 1 (t.2.map eR)] false)]⟩) (fun s => (t.2.getD i []).length - s.1) (fun s => s.1 ≤ (t.2.getD i []).length ∧ s.2 + slen ((t.2.getD i []).drop s.1) = n + slen (t.2.getD i [])) (0, n) ?_ ?_
          · simp +contextual (maxSteps := 5000000) only [go_sem, ↓reduceIte]
            rfl
          · intro ⟨k, m⟩ hk
            obtain ⟨hk, hg⟩ := hk
            simp only at hk hg
            by_cases hkl : k < (t.2.getD i []).length
            · rw [drop_cons (d := []) hkl, slen_cons] at hg
              simp +contextual (maxSteps := 5000000) only [go_sem, ↓reduceIte, hlt, eR_at, eS_at, hkl]
              simp only [aa, inR_iff]
              exact fun _ _ => ⟨by omega, by omega, (k + 1, m + ((t.2.getD i []).getD k []).length), ⟨by simp, by simp⟩, by simp only; omega, by simp only; omega, by simp only; omega⟩
            · rw [List.drop_of_length_le (by omega)] at hg
              have hg : m = n + slen (t.2.getD i []) := by simpa [slen] using hg
              simp +contextual (maxSteps := 5000000) only [go_sem, ↓reduceIte, hlt, eR_at, hkl]
              simp only [aa, inR_iff]
              exact fun _ => ⟨by omega, (i + 1, m), ⟨rfl, by simp⟩, by simp only; omega, by simp only; omega, by simp only; omega⟩
        · rw [List.drop_of_length_le (by omega)] at hf
          have hf : n = slen t.1 + rlen t.2 := by simpa [rlen] using hf
          simp +contextual (maxSteps := 5000000) only [go_sem, ↓reduceIte, hlt]
          exact fun _ => hf
def c_few3 (caps args : List D) : Prop × Out := match caps, args with | [], [.sl 1 rows] => (rows = (rows.map dR).map eR, .ret (.bool (few3 (rows.map dR)))) | _, _ => (False, .ret .any)
theorem st_few3 : StC Tryd.prog 16 c_few3 := by
  intro caps args; unfold c_few3; split
  · rename_i rows
    intro h
    have := fc_few3 (rows.map dR)
    rw [← h] at this
    exact this
  · exact fun h => h.elim
def c_total (caps args : List D) : Prop × Out := match caps, args with | [], [.agg [.sl 1 hd, .sl 1 rows]] => ((hd = (hd.map dS).map eS ∧ rows = (rows.map dR).map eR) ∧ slen (hd.map dS) + rlen (rows.map dR) < 2000000000, .ret (.int .i64 (slen (hd.map dS) + rlen (rows.map dR) : Nat))) | _, _ => (False, .ret .any)
theorem st_total : StC Tryd.prog 26 c_total := by
  intro caps args; unfold c_total; split
  · rename_i hd rows
    rintro ⟨⟨h1, h2⟩, h3⟩
    have := fc_Total (hd.map dS, rows.map dR) h3
    simp only [dTab] at this
    rw [← h1, ← h2] at this
    exact this
  · exact fun h => h.elim
def few4 (t : Tab) : Bool := few3 t.2 && decide (t.1.length ≤ 60) && decide (slen t.1 + rlen t.2 ≤ 8000)
theorem fc_few4 (t : Tab) (h : slen t.1 + rlen t.2 < 2000000000) : FC Tryd.prog 9 [] [dTab t] (.ret (.bool (few4 t))) := by
  refine fc_M (fn := Tryd.f9) (C := (tab [(16, c_few3), (26, c_total)] [])) (rs := [2]) mixed (by kernel_rfl) (by kernel_rfl) rfl rfl (by kernel_rfl) (by intro ys h; cases h) ?_
  unfold few4
  cases hf : few3 t.2
  · simp +contextual (maxSteps := 5000000) only [go_sem, ↓reduceIte, c_few3, st_few3, c_total, st_total, dS_eS, dR_eR, hf, h]
  · by_cases h6 : t.1.length ≤ 60
    · have h6' : (t.1.length : Int) ≤ 60 := by omega
      simp +contextual (maxSteps := 5000000) only [go_sem, ↓reduceIte, c_few3, st_few3, c_total, st_total, dS_eS, dR_eR, hf, h, h6, h6']
      intro _
      congr 1
      apply propext
      omega
    · have h6' : ¬ (t.1.length : Int) ≤ 60 := by omega
      simp +contextual (maxSteps := 5000000) only [go_sem, ↓reduceIte, c_few3, st_few3, c_total, st_total, dS_eS, dR_eR, hf, h, h6, h6']
end Go.Proofs.YtnpfbjbacakgoaaDoor

/- Conflicts alike; few conflicts. -/
set_option linter.unusedSimpArgs false
namespace Go.Proofs.YtnpfbjbacakgoaaDoor
open Go.Tn
set_option maxHeartbeats 16000000
set_option maxRecDepth 100000
instance : DecidableEq Cf := fun a b => by
  obtain ⟨a1, a2, a3, a4, a5, a6⟩ := a
  obtain ⟨b1, b2, b3, b4, b5, b6⟩ := b
  rw [Cf.mk.injEq]
  infer_instance
theorem fc_Conf (l k : List Cf) : FC Tryd.prog 22 [] [.sl 6 (l.map eCf), .sl 6 (k.map eCf)] (.ret (.bool (decide (l = k)))) := by
  refine fc_M (fn := Tryd.f22) (C := (tab [] [])) (rs := [4]) mixed (by kernel_rfl) (by kernel_rfl) rfl rfl (by kernel_rfl) (by intro ys h; cases h) ?_
  by_cases hlen : l.length = k.length
  · simp +contextual (maxSteps := 5000000) only [go_sem, ↓reduceIte, hlen]
    intro _
    refine M_loopI (fun i : Nat => ⟨[(0, .sl 6 (l.map eCf)), (1, .sl 6 (k.map eCf)), (5, .int .i64 i)], []⟩) (fun i => l.length - i) (fun i => i ≤ l.length ∧ ∀ j, j < i → l.getD j c0 = k.getD j c0) 0 ?_ ?_
    · simp +contextual (maxSteps := 5000000) only [go_sem, ↓reduceIte]
      rfl
    · intro i hi
      obtain ⟨hi, ho⟩ := hi
      by_cases hlt : i < k.length
      · have ha := eCf_at' l i (by omega)
        have hb := eCf_at' k i hlt
        have hl2 : i < l.length := by omega
        generalize hx : l.getD i c0 = x at ha
        generalize hy : k.getD i c0 = y at hb
        by_cases q : x = y
        · subst q
          obtain ⟨a1, a2, a3, a4, a5, a6⟩ := x
          simp only [eCf] at ha hb
          simp +contextual (maxSteps := 5000000) only [go_sem, ↓reduceIte, hlt, hl2, ha, hb, eq_self]
          refine fun _ => ⟨inR64 (by omega) (by omega), fun _ => ⟨i + 1, by simp, by omega, by omega, fun j hj => ?_⟩⟩
          rcases lt_cases hj with h | rfl
          · exact ho j h
          · rw [hx, hy]
        · have hne : ¬ l = k := fun h => q (by rw [← hx, ← hy, h])
          have hd : decide (l = k) = false := decide_eq_false hne
          rw [hd]
          obtain ⟨a1, a2, a3, a4, a5, a6⟩ := x
          obtain ⟨b1, b2, b3, b4, b5, b6⟩ := y
          simp only [eCf] at ha hb
          rw [Cf.mk.injEq] at q
          simp +contextual (maxSteps := 5000000) only [go_sem, ↓reduceIte, hlt, hl2, ha, hb, q]
          exact fun _ h => (h fun e1 e2 e3 e4 e5 e6 => q ⟨e1, e2, e3, e4, e5, e6⟩).elim
      · have hd : decide (l = k) = true := decide_eq_true (eq_of_at c0 hlen (fun j hj => ho j (by omega)))
        rw [hd]
        have hl3 : ¬ i < l.length := by omega
        simp +contextual (maxSteps := 5000000) only [go_sem, ↓reduceIte, hlt, hl3]
  · have hd : decide (l = k) = false := decide_eq_false (fun h => hlen (by rw [h]))
    rw [hd]
    simp +contextual (maxSteps := 5000000) only [go_sem, ↓reduceIte, hlen]
def c4 (c : Cf) : Nat := c.col.length + c.base.length + c.ours.length + c.them.length
def clen (l : List Cf) : Nat := (l.map c4).sum
def fewC (l : List Cf) : Bool := decide (l.length ≤ 60 ∧ clen l ≤ 6000)
theorem clen_cons (c : Cf) (l : List Cf) : clen (c :: l) = c4 c + clen l := by simp [clen]
theorem fc_FewC (l : List Cf) (h : clen l < 2000000000) : FC Tryd.prog 10 [] [.sl 6 (l.map eCf)] (.ret (.bool (fewC l))) := by
  refine fc_M (fn := Tryd.f10) (C := (tab [] [])) (rs := [2]) mixed (by kernel_rfl) (by kernel_rfl) rfl rfl (by kernel_rfl) (by intro ys h; cases h) ?_
  by_cases h60 : 60 < l.length
  · have e : fewC l = false := decide_eq_false fun h => by omega
    rw [e]
    have h60' : (60 : Int) < l.length := by omega
    simp +contextual (maxSteps := 5000000) only [go_sem, ↓reduceIte, h60']
  · have h60' : ¬ (60 : Int) < l.length := by omega
    have e : fewC l = decide (clen l ≤ 6000) := by unfold fewC; simp; omega
    rw [e]
    simp +contextual (maxSteps := 5000000) only [go_sem, ↓reduceIte, h60']
    intro _
    refine M_loopI (fun i : Nat => ⟨[(0, .sl 6 (l.map eCf)), (3, .int .i64 (clen l - clen (l.drop i) : Nat)), (4, .int .i64 i)], []⟩) (fun i => l.length - i) (fun i => i ≤ l.length ∧ clen (l.drop i) ≤ clen l) 0 ?_ ?_
    · simp +contextual (maxSteps := 5000000) only [go_sem, ↓reduceIte]
      exact ⟨⟨by simp, rfl⟩, Nat.le_refl _⟩
    rintro i ⟨hi, hc⟩
    by_cases hlt : i < l.length
    · have hat := eCf_at' l i hlt
      have hdr : l.drop i = l.getD i c0 :: l.drop (i + 1) := drop_atS hlt
      rw [hdr, clen_cons] at hc ⊢
      generalize l.getD i c0 = c at hat hc ⊢
      obtain ⟨a1, a2, a3, a4, a5, a6⟩ := c
      simp only [eCf] at hat
      unfold c4 at hc ⊢
      simp only at hc ⊢
      simp +contextual (maxSteps := 5000000) only [go_sem, ↓reduceIte, hlt, hat]
      exact fun _ => ⟨inR64 (by omega) (by omega), fun _ => ⟨inR64 (by omega) (by omega), fun _ => ⟨inR64 (by omega) (by omega), fun _ => ⟨inR64 (by omega) (by omega), fun _ => ⟨inR64 (by omega) (by omega), fun _ => ⟨i + 1, ⟨by omega, by simp⟩, by omega, by omega, by omega⟩⟩⟩⟩⟩⟩
    · have he : i = l.length := by omega
      subst he
      rw [List.drop_length]
      simp +contextual (maxSteps := 5000000) only [go_sem, ↓reduceIte, hlt]
      intro _
      have : clen ([] : List Cf) = 0 := rfl
      rw [this, Nat.sub_zero, decide_eq_decide]
      omega
def okCs (d : D) : Prop := match d with | .sl 6 rows => rows = (rows.map dCf).map eCf | .nil => True | _ => False
def pCs (d : D) : List Cf := match d with | .sl 6 rows => rows.map dCf | _ => []
theorem okCs_wk {d : D} (h : okCs d) : wk d (.sl 6 ((pCs d).map eCf)) := by
  unfold okCs at h
  split at h
  · rename_i rows
    simp only [pCs, wk]
    exact ⟨trivial, h⟩
  · simp [pCs, wk]
  · exact h.elim
def c_Cs (caps args : List D) : Prop × Out := match caps, args with | [], [a, b] => (okCs a ∧ okCs b, .ret (.bool (decide (pCs a = pCs b)))) | _, _ => (False, .ret .any)
theorem st_Cs : StC Tryd.prog 22 c_Cs := by
  intro caps args; unfold c_Cs; split
  · rintro ⟨h1, h2⟩
    refine fc_wk (wkL_self []) ?_ (by intro ys h; cases h) (fc_Conf _ _)
    exact ⟨okCs_wk h1, okCs_wk h2, trivial⟩
  · exact fun h => h.elim
def c_FwC (caps args : List D) : Prop × Out := match caps, args with | [], [a] => (okCs a ∧ clen (pCs a) < 2000000000, .ret (.bool (fewC (pCs a)))) | _, _ => (False, .ret .any)
theorem st_FwC : StC Tryd.prog 10 c_FwC := by
  intro caps args; unfold c_FwC; split
  · rintro ⟨h1, h2⟩
    refine fc_wk (wkL_self []) ?_ (by intro ys h; cases h) (fc_FewC _ h2)
    exact ⟨okCs_wk h1, trivial⟩
  · exact fun h => h.elim
end Go.Proofs.YtnpfbjbacakgoaaDoor

/- Numbers out of digits, as the document has them. -/
set_option linter.unusedSimpArgs false
namespace Go.Proofs.YtnpfbjbacakgoaaDoor
open Go.Tn
set_option maxHeartbeats 16000000
set_option maxRecDepth 100000
def rnF : Nat → Int → List UInt8 → Int
  | 0, n, _ => n
  | _ + 1, n, [] => n
  | k + 1, n, c :: r => if c.toNat < 48 ∨ 57 < c.toNat then -1 else rnF k (10 * n + c.toNat - 48) r
theorem drop_atN {α : Type} {l : List α} {i : Nat} {d : α} (h : i < l.length) : l.drop i = l.getD i d :: l.drop (i + 1) := by
  rw [List.drop_eq_getElem_cons h, List.getD_eq_getElem?_getD, List.getElem?_eq_getElem h]; rfl
theorem fc_rnumber (s : List UInt8) (hs : s.length < 1000000000) : FC Tryd.prog 38 [] [.str s] (.ret (.int .i64 (rnF 6 0 s))) := by
  refine fc_M (fn := Tryd.f38) (C := (tab [] [])) (rs := [2]) mixed (by kernel_rfl) (by kernel_rfl) rfl rfl (by kernel_rfl) (by intro ys h; cases h) ?_
  simp +contextual (maxSteps := 5000000) only [go_sem, ↓reduceIte]
  refine M_loopI (fun q : Nat × Nat => ⟨[(0, .str s), (3, .int .i64 q.2), (4, .int .i64 q.1)], []⟩) (fun q => 6 - q.1) (fun q => q.1 ≤ 6 ∧ q.1 ≤ s.length ∧ q.2 < 10 ^ q.1 ∧ rnF (6 - q.1) q.2 (s.drop q.1) = rnF 6 0 s) (0, 0) ?_ ?_
  · simp +contextual (maxSteps := 5000000) only [go_sem, ↓reduceIte]
    exact ⟨rfl, by decide, rfl⟩
  rintro ⟨i, n⟩ ⟨h6, hl, hn, hf⟩
  simp only at h6 hl hn hf
  by_cases hlt : i < s.length
  · by_cases hi6 : i = 6
    · subst hi6
      rw [show rnF (6 - 6) n (s.drop 6) = n from rfl] at hf
      rw [← hf]
      simp +contextual (maxSteps := 5000000) only [go_sem, ↓reduceIte, hlt, Int.reduceEq, Int.reduceNe, Int.reduceLT, Int.reduceLE, Int.reduceToNat, Int.cast_ofNat_Int]
    · have hi : i < 6 := by omega
      rw [drop_atN (d := 0) hlt, show 6 - i = (6 - (i + 1)) + 1 by omega] at hf
      simp only [rnF] at hf
      have hp : 10 ^ i ≤ 10 ^ 5 := Nat.pow_le_pow_right (by decide) (by omega)
      have hps : 10 ^ (i + 1) = 10 ^ i * 10 := Nat.pow_succ ..
      have hc := (s.getD i 0).toNat_lt
      generalize hch : s.getD i 0 = c at hf hc
      have hi' : (i : Int) < 6 := by omega
      by_cases c0 : c.toNat < 48
      · rw [if_pos (.inl c0)] at hf
        rw [← hf]
        have c0' : (c.toNat : Int) < 48 := by omega
        simp +contextual (maxSteps := 5000000) only [go_sem, ↓reduceIte, hlt, hi', hch, c0', Int.reduceEq, Int.reduceNe, Int.reduceLT, Int.reduceLE, Int.reduceToNat, Int.cast_ofNat_Int]
      · by_cases c1 : 57 < c.toNat
        · rw [if_pos (.inr c1)] at hf
          rw [← hf]
          have c0' : ¬ (c.toNat : Int) < 48 := by omega
          have c1' : (57 : Int) < c.toNat := by omega
          simp +contextual (maxSteps := 5000000) only [go_sem, ↓reduceIte, hlt, hi', hch, c0', c1', Int.reduceEq, Int.reduceNe, Int.reduceLT, Int.reduceLE, Int.reduceToNat, Int.cast_ofNat_Int]
        · rw [if_neg (by omega)] at hf
          have c0' : ¬ (c.toNat : Int) < 48 := by omega
          have c1' : ¬ (57 : Int) < c.toNat := by omega
          simp +contextual (maxSteps := 5000000) only [go_sem, ↓reduceIte, hlt, hi', hch, c0', c1', Int.reduceEq, Int.reduceNe, Int.reduceLT, Int.reduceLE, Int.reduceToNat, Int.cast_ofNat_Int]
          refine fun _ => ⟨inR64 (by omega) (by omega), fun _ => ⟨inR64 (by omega) (by omega), fun _ => ⟨inR64 (by omega) (by omega), fun _ => ⟨inR64 (by omega) (by omega), fun _ => ⟨inR64 (by omega) (by omega), fun _ => ⟨(i + 1, 10 * n + c.toNat - 48), ⟨by simp only; omega, by simp⟩, by simp only; omega, by simp only; omega, by simp only; omega, by simp only; omega, ?_⟩⟩⟩⟩⟩⟩
          rw [← hf]
          congr 1
          simp only; omega
  · have he : i = s.length := by omega
    subst he
    rw [List.drop_length] at hf
    have : rnF (6 - s.length) n [] = n := by cases 6 - s.length <;> rfl
    rw [this] at hf
    rw [← hf]
    simp +contextual (maxSteps := 5000000) only [go_sem, ↓reduceIte, hlt]
def c_rn (caps args : List D) : Prop × Out := match caps, args with
  | [], [.str s] => (s.length < 1000000000, .ret (.int .i64 (rnF 6 0 s)))
  | _, _ => (False, .ret .any)
theorem st_rn : StC Tryd.prog 38 c_rn := by
  intro caps args; unfold c_rn; split
  · exact fun h => fc_rnumber _ h
  · exact fun h => h.elim
end Go.Proofs.YtnpfbjbacakgoaaDoor

/- The report of conflicts: mark.Report. -/
set_option linter.unusedSimpArgs false
namespace Go.Proofs.YtnpfbjbacakgoaaDoor
open Go.Tn
set_option maxHeartbeats 16000000
set_option maxRecDepth 100000
theorem recsY_at : ∀ (l : List Cf) (j : Nat), j < (recsY l).length → (recsY l).getD j [] = yvR (l.getD j c0) ∧ j < l.length
  | c :: r, 0, _ => by simp [recsY]
  | c :: r, j + 1, h => by
    simp only [recsY] at h ⊢
    by_cases hc : okR c = true
    · rw [if_pos hc] at h ⊢
      have := recsY_at r j (by simpa using h)
      simpa using this
    · rw [if_neg hc] at h; simp at h
theorem recsY_all : ∀ (l : List Cf), (∀ j, j < (recsY l).length → okR (l.getD j c0) = true) → (recsY l).length = l.length ∧ ∀ c ∈ l, okR c = true
  | [], _ => ⟨rfl, by simp⟩
  | c :: r, h => by
    have h0 : okR c = true := by simpa using h 0 (by simp [recsY])
    simp only [recsY, if_pos h0] at h ⊢
    have := recsY_all r fun j hj => by simpa using h (j + 1) (by simpa using hj)
    exact ⟨by simp [this.1], fun x hx => by rcases List.mem_cons.1 hx with rfl | hx; exact h0; exact this.2 x hx⟩
theorem tfRows : TyFact Tryd.prog 23 (tyOf Tryd.prog 23) := tyOf_fact (by intro h; rw [show tyOf Tryd.prog 23 = _ from by simp only [go_sem]; rfl] at h; cases h)
theorem tfErr : TyFact Tryd.prog 37 (tyOf Tryd.prog 37) := tyOf_fact (by intro h; rw [show tyOf Tryd.prog 37 = _ from by simp only [go_sem]; rfl] at h; cases h)
theorem fc_Report (l : List Cf) (hl : l.length < 1000000000) (hr : ∀ c ∈ l, InR .i64 c.row) : FC Tryd.prog 17 [] [.sl 6 (l.map eCf)] (.ret (rpOut l)) := by
  have h1 := st_rc
  have h2 := st_rc1
  refine fcc3_of (fn := Tryd.f17) (rt := 23) (qt := 37) (r := 2) (q := 3) (i := 2) (j := 3) (C := tab [(31, c_rc), (40, c_rc1)] []) mixed (by kernel_rfl) (by kernel_rfl) rfl rfl tfRows tfErr (by kernel_rfl) (by intro ys h; cases h) ?_
  simp only [y23, y37]
  have hk : ∃ k : List Cf, l.map eCf = k.map eCf ∧ k.length < 1000000000 ∧ ∀ c ∈ k, InR .i64 c.row := ⟨l, rfl, hl, hr⟩
  simp +contextual (maxSteps := 5000000) only [go_sem, ↓reduceIte, h1, c_rc, eI_at, eI_set, List.length_set, tn_add, tn_add1, tn_sub, tn_sub1, sh1, sh1b, half_cast, Int.reduceEq, Int.reduceNe, Int.reduceLT, Int.reduceLE, Int.reduceToNat, Int.cast_ofNat_Int]
  refine M_range (f := 40) (caps := [.box [.sl 6 (l.map eCf)]]) (ys := recsY l) (pre := (c_rc1 [.box [.sl 6 (l.map eCf)]] []).1) ?_ ?_ ?_ (σ := Unit) [(2, .loc 2 0), (3, .loc 3 0), (4, .loc 4 0)]
    (fun j _ => [(2, .blk [.nil] false), (3, .blk [.int .i64 0] false), (4, .blk [.vec 8 (j + 1)] false), (8, .vec 22 1 ((hdR :: repF (l.take j)).map eR) 0)]) (fun j _ => j ≤ (recsY l).length ∧ ∀ i, i < j → okR (l.getD i c0) = true) () ?_ ?_ ?_ ?_
  · simp +contextual (maxSteps := 5000000) only [go_sem, ↓reduceIte]
  · simp +contextual (maxSteps := 5000000) only [go_sem, ↓reduceIte, c_rc1, dCf_map]
  · simp +contextual (maxSteps := 5000000) only [go_sem, ↓reduceIte, c_rc1, h2, hk]
  · simp +contextual (maxSteps := 5000000) only [go_sem, ↓reduceIte]
    intro y hy
    obtain ⟨j, hj, rfl⟩ := List.getElem_of_mem hy
    have := (recsY_at l j hj).1
    rw [List.getD_eq_getElem?_getD, List.getElem?_eq_getElem hj] at this
    simp only [Option.getD_some] at this
    rw [this]; rfl
  · simp +contextual (maxSteps := 5000000) only [go_sem, ↓reduceIte]
    rfl
  · intro j _ hj hlt
    obtain ⟨q1, q2⟩ := recsY_at l j hlt
    rw [q1]
    have hsn := take_snC q2
    unfold yvR
    generalize hc : l.getD j c0 = c at hsn
    have hlen : (l.take j).length = j := by rw [List.length_take]; omega
    have hrl : (repF (l.take j)).length = j := by unfold repF; rw [List.length_map, hlen]
    cases hok : okR c with
    | true =>
      simp +contextual (maxSteps := 5000000) only [go_sem, ↓reduceIte, putPs, hrl, finC3, finCB3, locR]
      refine ⟨by omega, fun _ => ⟨(), by rw [hsn]; unfold repF; simp [eR], by omega, fun i hi => ?_⟩⟩
      rcases Nat.lt_succ_iff_lt_or_eq.1 hi with h | rfl
      · exact hj.2 i h
      · rw [hc]; exact hok
    | false =>
      have hno : ¬ (∀ c ∈ l, okR c = true) := fun h => by
        have := h c (by rw [← hc, List.getD_eq_getElem?_getD, List.getElem?_eq_getElem q2]; exact List.getElem_mem q2)
        rw [hok] at this; cases this
      unfold rpOut
      rw [if_neg hno]
      simp +contextual (maxSteps := 5000000) only [go_sem, ↓reduceIte, putPs, hrl, finC3, finCB3, locR]
  · intro _ hs
    have hall := recsY_all l hs.2
    unfold rpOut
    rw [if_pos hall.2, hall.1]
    simp +contextual (maxSteps := 5000000) only [go_sem, ↓reduceIte, List.take_length, finC3, finCB3, locR]
    unfold repF; rw [List.length_map]
def c_rp (caps args : List D) : Prop × Out := match caps, args with
  | [], [.sl 6 l] => (∃ k : List Cf, l = k.map eCf ∧ k.length < 1000000000 ∧ ∀ c ∈ k, InR .i64 c.row, .ret (rpOut (l.map dCf)))
  | _, _ => (False, .ret .any)
theorem st_rp : StC Tryd.prog 17 c_rp := by
  intro caps args; unfold c_rp; split
  · rintro ⟨k, rfl, h1, h2⟩
    rw [dCf_map]
    exact fc_Report k h1 h2
  · exact fun h => h.elim
end Go.Proofs.YtnpfbjbacakgoaaDoor

/- Rows and tables alike. -/
set_option linter.unusedSimpArgs false
namespace Go.Proofs.YtnpfbjbacakgoaaDoor
open Go.Tn
set_option maxHeartbeats 8000000
set_option maxRecDepth 100000
abbrev Str := List UInt8
theorem fc_EqualS (l k : List (Str)) : FC Tryd.prog 37 [] [.sl 1 (l.map eS), .sl 1 (k.map eS)] (.ret (.bool (decide (l = k)))) := by
  refine fc_M (fn := Tryd.f37) (C := (tab [] [])) (rs := [4]) mixed (by kernel_rfl) (by kernel_rfl) rfl rfl (by kernel_rfl) (by intro ys h; cases h) ?_
  by_cases hlen : l.length = k.length
  · simp +contextual (maxSteps := 5000000) only [go_sem, ↓reduceIte, hlen]
    intro _
    refine M_loopI (fun i : Nat => ⟨[(0, .sl 1 (l.map eS)), (1, .sl 1 (k.map eS)), (11, .sl 1 (l.map eS)), (12, .int .i64 k.length), (13, .int .i64 i)], []⟩) (fun i => l.length - i) (fun i => i ≤ l.length ∧ ∀ j, j < i → l.getD j [] = k.getD j []) 0 ?_ ?_
    · simp +contextual (maxSteps := 5000000) only [go_sem, ↓reduceIte]
      rfl
    · intro i hi
      obtain ⟨hi, ho⟩ := hi
      by_cases hlt : i < k.length
      · have ha := eS_at l i (by omega)
        have hb := eS_at k i hlt
        have hl2 : i < l.length := by omega
        generalize hx : l.getD i [] = x at ha
        generalize hy : k.getD i [] = y at hb
        by_cases q : x = y
        · subst q
          simp +contextual (maxSteps := 5000000) only [go_sem, ↓reduceIte, hlt, hl2, ha, hb, eq_self]
          try intro _
          refine ⟨inR64 (by omega) (by omega), fun _ => ⟨i + 1, by simp, by omega, by omega, fun j hj => ?_⟩⟩
          rcases lt_cases hj with h | rfl
          · exact ho j h
          · rw [hx, hy]
        · have hne : ¬ l = k := fun h => q (by rw [← hx, ← hy, h])
          have hd : decide (l = k) = false := decide_eq_false hne
          rw [hd]
          simp +contextual (maxSteps := 5000000) only [go_sem, ↓reduceIte, hlt, hl2, ha, hb, q]
      · have hd : decide (l = k) = true := decide_eq_true (eq_of_at [] hlen (fun j hj => ho j (by omega)))
        rw [hd]
        have hl3 : ¬ i < l.length := by omega
        simp +contextual (maxSteps := 5000000) only [go_sem, ↓reduceIte, hlt, hl3]
  · have hd : decide (l = k) = false := decide_eq_false (fun h => hlen (by rw [h]))
    rw [hd]
    simp +contextual (maxSteps := 5000000) only [go_sem, ↓reduceIte, hlen]
theorem fc_RefS (l k : List (Str)) : FC Tryd.prog 23 [] [.sl 1 (l.map eS), .sl 1 (k.map eS)] (.ret (.bool (decide (l = k)))) := by
  refine fc_M (fn := Tryd.f23) (C := (tab [] [])) (rs := [4]) mixed (by kernel_rfl) (by kernel_rfl) rfl rfl (by kernel_rfl) (by intro ys h; cases h) ?_
  by_cases hlen : l.length = k.length
  · simp +contextual (maxSteps := 5000000) only [go_sem, ↓reduceIte, hlen]
    intro _
    refine M_loopI (fun i : Nat => ⟨[(0, .sl 1 (l.map eS)), (1, .sl 1 (k.map eS)), (5, .int .i64 i)], []⟩) (fun i => l.length - i) (fun i => i ≤ l.length ∧ ∀ j, j < i → l.getD j [] = k.getD j []) 0 ?_ ?_
    · simp +contextual (maxSteps := 5000000) only [go_sem, ↓reduceIte]
      rfl
    · intro i hi
      obtain ⟨hi, ho⟩ := hi
      by_cases hlt : i < k.length
      · have ha := eS_at l i (by omega)
        have hb := eS_at k i hlt
        have hl2 : i < l.length := by omega
        generalize hx : l.getD i [] = x at ha
        generalize hy : k.getD i [] = y at hb
        by_cases q : x = y
        · subst q
          simp +contextual (maxSteps := 5000000) only [go_sem, ↓reduceIte, hlt, hl2, ha, hb, eq_self]
          try intro _
          refine ⟨inR64 (by omega) (by omega), fun _ => ⟨i + 1, by simp, by omega, by omega, fun j hj => ?_⟩⟩
          rcases lt_cases hj with h | rfl
          · exact ho j h
          · rw [hx, hy]
        · have hne : ¬ l = k := fun h => q (by rw [← hx, ← hy, h])
          have hd : decide (l = k) = false := decide_eq_false hne
          rw [hd]
          simp +contextual (maxSteps := 5000000) only [go_sem, ↓reduceIte, hlt, hl2, ha, hb, q]
      · have hd : decide (l = k) = true := decide_eq_true (eq_of_at [] hlen (fun j hj => ho j (by omega)))
        rw [hd]
        have hl3 : ¬ i < l.length := by omega
        simp +contextual (maxSteps := 5000000) only [go_sem, ↓reduceIte, hlt, hl3]
        try exact fun _ => rfl
  · have hd : decide (l = k) = false := decide_eq_false (fun h => hlen (by rw [h]))
    rw [hd]
    simp +contextual (maxSteps := 5000000) only [go_sem, ↓reduceIte, hlen]
def c_EqT (caps args : List D) : Prop × Out := match caps, args with | [], [.sl 1 a, .sl 1 b] => (a = (a.map dS).map eS ∧ b = (b.map dS).map eS, .ret (.bool (decide (a.map dS = b.map dS)))) | _, _ => (False, .ret .any)
theorem st_EqT : StC Tryd.prog 37 c_EqT := by
  intro caps args; unfold c_EqT; split
  · rename_i a b
    rintro ⟨h1, h2⟩
    have := fc_EqualS (a.map dS) (b.map dS)
    rw [← h1, ← h2] at this
    exact this
  · exact fun h => h.elim
theorem fc_EqR (l k : List (List Str)) : FC Tryd.prog 36 [] [.sl 1 (l.map eR), .sl 1 (k.map eR), .fn 37 [] []] (.ret (.bool (decide (l = k)))) := by
  refine fc_M (fn := Tryd.f36) (C := (tab [(37, c_EqT)] [])) (rs := [6]) mixed (by kernel_rfl) (by kernel_rfl) rfl rfl (by kernel_rfl) (by intro ys h; cases h) ?_
  by_cases hlen : l.length = k.length
  · simp +contextual (maxSteps := 5000000) only [go_sem, ↓reduceIte, hlen]
    intro _
    refine M_loopI (fun i : Nat => ⟨[(0, .sl 1 (l.map eR)), (1, .sl 1 (k.map eR)), (2, .fn 37 [] []), (15, .sl 1 (l.map eR)), (16, .int .i64 k.length), (17, .int .i64 i)], []⟩) (fun i => l.length - i) (fun i => i ≤ l.length ∧ ∀ j, j < i → l.getD j [] = k.getD j []) 0 ?_ ?_
    · simp +contextual (maxSteps := 5000000) only [go_sem, ↓reduceIte]
      rfl
    · intro i hi
      obtain ⟨hi, ho⟩ := hi
      by_cases hlt : i < k.length
      · have ha := eR_at l i (by omega)
        have hb := eR_at k i hlt
        have hl2 : i < l.length := by omega
        generalize hx : l.getD i [] = x at ha
        generalize hy : k.getD i [] = y at hb
        by_cases q : x = y
        · subst q
          simp +contextual (maxSteps := 5000000) only [go_sem, ↓reduceIte, hlt, hl2, ha, hb, c_EqT, st_EqT, dS_eS, eq_self]
          refine ⟨inR64 (by omega) (by omega), fun _ => ⟨i + 1, by simp, by omega, by omega, fun j hj => ?_⟩⟩
          rcases lt_cases hj with h | rfl
          · exact ho j h
          · rw [hx, hy]
        · have hne : ¬ l = k := fun h => q (by rw [← hx, ← hy, h])
          have hd : decide (l = k) = false := decide_eq_false hne
          rw [hd]
          simp +contextual (maxSteps := 5000000) only [go_sem, ↓reduceIte, hlt, hl2, ha, hb, c_EqT, st_EqT, dS_eS, q]
      · have hd : decide (l = k) = true := decide_eq_true (eq_of_at [] hlen (fun j hj => ho j (by omega)))
        rw [hd]
        have hl3 : ¬ i < l.length := by omega
        simp +contextual (maxSteps := 5000000) only [go_sem, ↓reduceIte, hlt, hl3]
  · have hd : decide (l = k) = false := decide_eq_false (fun h => hlen (by rw [h]))
    rw [hd]
    simp +contextual (maxSteps := 5000000) only [go_sem, ↓reduceIte, hlen]
def c_EqR (caps args : List D) : Prop × Out := match caps, args with | [], [.sl 1 a, .sl 1 b, .fn g [] []] => (g = 37 ∧ a = (a.map dR).map eR ∧ b = (b.map dR).map eR, .ret (.bool (decide (a.map dR = b.map dR)))) | _, _ => (False, .ret .any)
theorem st_EqR : StC Tryd.prog 36 c_EqR := by
  intro caps args; unfold c_EqR; split
  · rename_i a b g
    rintro ⟨rfl, h1, h2⟩
    have := fc_EqR (a.map dR) (b.map dR)
    rw [← h1, ← h2] at this
    exact this
  · exact fun h => h.elim
def sameT (t u : Tab) : Bool := decide (t.1 = u.1) && decide (t.2 = u.2)
theorem sameT_iff (t u : Tab) : sameT t u = true ↔ t = u := by
  obtain ⟨a, b⟩ := t; obtain ⟨c, d⟩ := u
  simp [sameT]
def c_RefS (caps args : List D) : Prop × Out := match caps, args with | [], [.sl 1 a, .sl 1 b] => (a = (a.map dS).map eS ∧ b = (b.map dS).map eS, .ret (.bool (decide (a.map dS = b.map dS)))) | _, _ => (False, .ret .any)
theorem st_RefS : StC Tryd.prog 23 c_RefS := by
  intro caps args; unfold c_RefS; split
  · rename_i a b
    rintro ⟨h1, h2⟩
    have := fc_RefS (a.map dS) (b.map dS)
    rw [← h1, ← h2] at this
    exact this
  · exact fun h => h.elim
theorem fc_RefR (l k : List (List Str)) : FC Tryd.prog 21 [] [.sl 1 (l.map eR), .sl 1 (k.map eR)] (.ret (.bool (decide (l = k)))) := by
  refine fc_M (fn := Tryd.f21) (C := (tab [(23, c_RefS)] [])) (rs := [4]) mixed (by kernel_rfl) (by kernel_rfl) rfl rfl (by kernel_rfl) (by intro ys h; cases h) ?_
  by_cases hlen : l.length = k.length
  · simp +contextual (maxSteps := 5000000) only [go_sem, ↓reduceIte, hlen]
    intro _
    refine M_loopI (fun i : Nat => ⟨[(0, .sl 1 (l.map eR)), (1, .sl 1 (k.map eR)), (5, .int .i64 i)], []⟩) (fun i => l.length - i) (fun i => i ≤ l.length ∧ ∀ j, j < i → l.getD j [] = k.getD j []) 0 ?_ ?_
    · simp +contextual (maxSteps := 5000000) only [go_sem, ↓reduceIte]
      rfl
    · intro i hi
      obtain ⟨hi, ho⟩ := hi
      by_cases hlt : i < k.length
      · have ha := eR_at l i (by omega)
        have hb := eR_at k i hlt
        have hl2 : i < l.length := by omega
        generalize hx : l.getD i [] = x at ha
        generalize hy : k.getD i [] = y at hb
        by_cases q : x = y
        · subst q
          simp +contextual (maxSteps := 5000000) only [go_sem, ↓reduceIte, hlt, hl2, ha, hb, c_RefS, st_RefS, dS_eS, eq_self]
          refine fun _ => ⟨inR64 (by omega) (by omega), fun _ => ⟨i + 1, by simp, by omega, by omega, fun j hj => ?_⟩⟩
          rcases lt_cases hj with h | rfl
          · exact ho j h
          · rw [hx, hy]
        · have hne : ¬ l = k := fun h => q (by rw [← hx, ← hy, h])
          have hd : decide (l = k) = false := decide_eq_false hne
          rw [hd]
          simp +contextual (maxSteps := 5000000) only [go_sem, ↓reduceIte, hlt, hl2, ha, hb, c_RefS, st_RefS, dS_eS, q]
      · have hd : decide (l = k) = true := decide_eq_true (eq_of_at [] hlen (fun j hj => ho j (by omega)))
        rw [hd]
        have hl3 : ¬ i < l.length := by omega
        simp +contextual (maxSteps := 5000000) only [go_sem, ↓reduceIte, hlt, hl3]
  · have hd : decide (l = k) = false := decide_eq_false (fun h => hlen (by rw [h]))
    rw [hd]
    simp +contextual (maxSteps := 5000000) only [go_sem, ↓reduceIte, hlen]
def c_RefR (caps args : List D) : Prop × Out := match caps, args with | [], [.sl 1 a, .sl 1 b] => (a = (a.map dR).map eR ∧ b = (b.map dR).map eR, .ret (.bool (decide (a.map dR = b.map dR)))) | _, _ => (False, .ret .any)
theorem st_RefR : StC Tryd.prog 21 c_RefR := by
  intro caps args; unfold c_RefR; split
  · rename_i a b
    rintro ⟨h1, h2⟩
    have := fc_RefR (a.map dR) (b.map dR)
    rw [← h1, ← h2] at this
    exact this
  · exact fun h => h.elim
def okW (d : D) : Prop := match d with | .sl 1 rows => rows = (rows.map dR).map eR | .nil => True | _ => False
def pW (d : D) : List (List Str) := match d with | .sl 1 rows => rows.map dR | _ => []
theorem okW_wk {d : D} (h : okW d) : wk d (.sl 1 ((pW d).map eR)) := by
  unfold okW at h
  split at h
  · rename_i rows
    simp only [pW, wk]
    exact ⟨trivial, h⟩
  · simp [pW, wk]
  · exact h.elim
def c_RefW (caps args : List D) : Prop × Out := match caps, args with | [], [a, b] => (okW a ∧ okW b, .ret (.bool (decide (pW a = pW b)))) | _, _ => (False, .ret .any)
theorem st_RefW : StC Tryd.prog 21 c_RefW := by
  intro caps args; unfold c_RefW; split
  · rintro ⟨h1, h2⟩
    refine fc_wk (wkL_self []) ?_ (by intro ys h; cases h) (fc_RefR _ _)
    exact ⟨okW_wk h1, okW_wk h2, trivial⟩
  · exact fun h => h.elim
theorem fc_rTSame (t u : Tab) : FC Tryd.prog 13 [] [.agg [.sl 1 (t.1.map eS), .sl 1 (t.2.map eR)], .agg [.sl 1 (u.1.map eS), .sl 1 (u.2.map eR)]] (.ret (.bool (sameT t u))) := by
  refine fc_M (fn := Tryd.f13) (C := (tab [(23, c_RefS), (21, c_RefR)] [] [5001, 5002])) (rs := [4]) mixed (by kernel_rfl) (by kernel_rfl) rfl rfl (by kernel_rfl) (by intro ys h; cases h) ?_
  simp +contextual (maxSteps := 5000000) only [go_sem, ↓reduceIte]
  refine M_join (fun _ : Unit => ⟨[(2, .loc 2 0), (3, .loc 3 0), (5, .bool (decide (t.1 = u.1)))], [(2, .blk [.sl 1 (t.1.map eS), .sl 1 (t.2.map eR)] false), (3, .blk [.sl 1 (u.1.map eS), .sl 1 (u.2.map eR)] false)]⟩) (fun _ => True) ?_ ?_
  · simp +contextual (maxSteps := 5000000) only [go_sem, ↓reduceIte, c_RefS, st_RefS, dS_eS]
    exact ⟨(), trivial⟩
  intro _ _
  simp +contextual (maxSteps := 5000000) only [go_sem, ↓reduceIte]
  refine M_join (fun _ : Unit => ⟨[(5, .bool (decide (t.1 = u.1))), (6, .bool (decide (t.2 = u.2)))], []⟩) (fun _ => True) ?_ ?_
  · simp +contextual (maxSteps := 5000000) only [go_sem, ↓reduceIte, c_RefR, st_RefR, dR_eR]
    exact ⟨(), trivial⟩
  intro _ _
  unfold sameT
  simp +contextual (maxSteps := 5000000) only [go_sem, ↓reduceIte]
end Go.Proofs.YtnpfbjbacakgoaaDoor

/- Conflicts out of records: mark.Read. -/
set_option linter.unusedSimpArgs false
namespace Go.Proofs.YtnpfbjbacakgoaaDoor
open Go.Tn
set_option maxHeartbeats 16000000
set_option maxRecDepth 100000
/-- the last kind up to k whose word it is -/
def kdF (s : List UInt8) : Nat → Int
  | 0 => 0
  | k + 1 => if wordF ((k + 1 : Nat) : Int) = s then ((k + 1 : Nat) : Int) else kdF s k
def rowU (s : List UInt8) : Int := match Lib.parseUintB 32 s with | .ok u => u | _ => -1
theorem rowU_rng (s : List UInt8) : -1 ≤ rowU s ∧ rowU s ≤ 4294967295 := by
  unfold rowU
  split
  · rename_i u h
    have := Lib.parseUintB_le h
    omega
  · omega
def rdC (g : List UInt8 → Int) (r : List (List UInt8)) : Cf := ⟨kdF (r.getD 0 []) 5, g (r.getD 1 []), r.getD 2 [], r.getD 3 [], r.getD 4 [], r.getD 5 []⟩
def c_pu (caps args : List D) : Prop × Out := match caps, args with
  | [], [.str s, .int .i64 10, .int .i64 32] => (True, .ret (puD s))
  | _, _ => (False, .ret .any)
theorem st_pu : StC Tryd.prog 34 c_pu := by
  intro caps args; unfold c_pu; split
  · exact fun _ => fc_PU _
  · exact fun h => h.elim
theorem take_snX {α : Type} {l : List α} {n : Nat} {d : α} (h : n < l.length) : l.take (n + 1) = l.take n ++ [l.getD n d] := by
  rw [List.take_add_one, List.getElem?_eq_getElem h, List.getD_eq_getElem?_getD, List.getElem?_eq_getElem h]; rfl
theorem len6 {r : List (List UInt8)} (h : r.length = 6) : ∃ a b c d e f, r = [a, b, c, d, e, f] := by
  match r, h with
  | [a, b, c, d, e, f], _ => exact ⟨a, b, c, d, e, f, rfl⟩
def hdD (l : Rws) (g : List UInt8 → Int) (i : Nat) : List Cf := ((l.take i).drop 1).map (rdC g)
theorem hdD_len (l : Rws) (g : List UInt8 → Int) (i : Nat) (h : i ≤ l.length) : (hdD l g i).length = i - 1 := by
  unfold hdD; simp; omega
theorem hdD_succ (l : Rws) (g : List UInt8 → Int) (i : Nat) (h : i < l.length) (h0 : 0 < i) : hdD l g (i + 1) = hdD l g i ++ [rdC g (l.getD i [])] := by
  unfold hdD
  rw [List.take_add_one, List.getElem?_eq_getElem h, List.drop_append_of_le_length (by simp; omega), List.map_append, List.getD_eq_getElem?_getD, List.getElem?_eq_getElem h]
  rfl
theorem hdD_all (l : Rws) (g : List UInt8 → Int) : hdD l g l.length = (l.drop 1).map (rdC g) := by unfold hdD; rw [List.take_length]
/-- what Read hands back -/
def rdOk (l : Rws) (cs : List Cf) : Prop := (∀ r ∈ l, r.length = 6) ∧ (∀ c ∈ cs, okR c = true) ∧ hdR :: repF cs = l
instance (l : Rws) (cs : List Cf) : Decidable (rdOk l cs) := by unfold rdOk; infer_instance
def rdOut (l : Rws) (g : List UInt8 → Int) : D := if rdOk l ((l.drop 1).map (rdC g)) then .tup [.sl 6 (((l.drop 1).map (rdC g)).map eCf), .int .i64 0] else .tup [.nil, .int .i64 13]
def hd7 (l : Rws) (i : Nat) (a b c d e f : List UInt8) (z : Int) : Hd := ⟨[(0, .sl 1 (l.map eR)), (4, .vec 66 (i - 1)), (6, .sl 1 [[.str a], [.str b], [.str c], [.str d], [.str e], [.str f]]), (7, .loc 7 0), (13, .sl 1 (l.map eR)), (14, .int .i64 l.length), (15, .int .i64 i)], [(66, .vec 32 6 ((hdD l rowU i).map eCf) 0), (7, .blk [.int .i64 0, .int .i64 z, .str c, .str d, .str e, .str f] false)]⟩
theorem fc_Read (l : Rws) (hl : l.length < 1000000000) : FC Tryd.prog 19 [] [.sl 1 (l.map eR)] (.ret (rdOut l rowU)) := by
  have hW := st_wd
  have hU := st_pu
  have hR := st_rp
  have hE := st_EqR
  refine fc_M (fn := Tryd.f19) (C := (tab [(35, c_wd), (34, c_pu), (17, c_rp), (36, c_EqR)] [] [6008, 9])) (rs := [2, 3]) mixed (by kernel_rfl) (by kernel_rfl) rfl rfl (by kernel_rfl) (by intro ys h; cases h) ?_
  simp +contextual (maxSteps := 5000000) only [go_sem, ↓reduceIte]
  intro _
  refine M_loopI (fun i : Nat => ⟨[(0, .sl 1 (l.map eR)), (4, .vec 66 (i - 1)), (13, .sl 1 (l.map eR)), (14, .int .i64 l.length), (15, .int .i64 i)], [(66, .vec 32 6 ((hdD l rowU i).map eCf) 0)]⟩) (fun i => l.length - i) (fun i => i ≤ l.length ∧ ∀ r ∈ l.take i, r.length = 6) 0 ?_ ?_
  · simp +contextual (maxSteps := 5000000) only [go_sem, ↓reduceIte]
    simp [hdD]
  rintro i ⟨hi, h6⟩
  have hdl := hdD_len l rowU i hi
  by_cases hlt : i < l.length
  · have hat := eR_at l i hlt
    have htk := take_snX (d := ([] : List (List UInt8))) hlt
    by_cases q6 : (l.getD i []).length = 6
    · have h6' : ∀ r ∈ l.take (i + 1), r.length = 6 := fun r hr => by
        rw [htk] at hr
        rcases List.mem_append.1 hr with h | h
        · exact h6 r h
        · rw [List.mem_singleton] at h; rw [h]; exact q6
      by_cases q0 : i = 0
      · subst q0
        have e00 : ((0 : Nat) : Int) = 0 := rfl
        have hlt0 : (0 : Int) < (l.length : Int) := by omega
        simp +contextual (maxSteps := 5000000) only [go_sem, ↓reduceIte, hlt, hlt0, hat, q6, hdl, e00, Int.reduceEq, Int.reduceNe, Int.reduceLT, Int.reduceLE, Int.reduceToNat, Int.cast_ofNat_Int]
        exact ⟨inR64 (by omega) (by omega), fun _ => ⟨1, by simp [hdD], by omega, by omega, h6'⟩⟩
      · obtain ⟨a, b, c, d, e, f, hr⟩ := len6 q6
        have hsn := hdD_succ l rowU i hlt (by omega)
        rw [hr] at hat hsn
        simp only [List.map_cons, List.map_nil, eS] at hat
        have q0' : ¬ (i : Int) = 0 := by omega
        have hpu : ∃ u x, puD b = .tup [.int .u64 u, x] ∧ ((x = .val .nilIface ∧ rowU b = u) ∨ (∃ t, x = .ifc t .any ∧ rowU b = -1)) := by
          unfold puD rowU
          cases Lib.parseUintB 32 b
          · rename_i u
            exact ⟨u, _, rfl, .inl ⟨rfl, rfl⟩⟩
          · exact ⟨_, _, rfl, .inr ⟨_, rfl, rfl⟩⟩
          · exact ⟨_, _, rfl, .inr ⟨_, rfl, rfl⟩⟩
        obtain ⟨u, x, hpd, hx⟩ := hpu
        have hrng := rowU_rng b
        simp +contextual (maxSteps := 5000000) only [go_sem, ↓reduceIte, hlt, hat, q0', Int.reduceEq, Int.reduceNe, Int.reduceLT, Int.reduceLE, Int.reduceToNat, Int.cast_ofNat_Int]
        refine M_join (fun _ : Unit => hd7 l i a b c d e f (rowU b)) (fun _ => True) ?_ ?_
        · unfold hd7
          rcases hx with ⟨rfl, hu⟩ | ⟨t, rfl, hu⟩
          · rw [hu] at hrng ⊢
            simp +contextual (maxSteps := 5000000) only [go_sem, ↓reduceIte, hU, c_pu, hpd, Int.reduceEq, Int.reduceNe, Int.reduceLT, Int.reduceLE, Int.reduceToNat, Int.cast_ofNat_Int]
            exact ⟨inR64 (by omega) (by omega), fun _ => ⟨(), trivial⟩⟩
          · rw [hu]
            simp +contextual (maxSteps := 5000000) only [go_sem, ↓reduceIte, hU, c_pu, hpd, Int.reduceEq, Int.reduceNe, Int.reduceLT, Int.reduceLE, Int.reduceToNat, Int.cast_ofNat_Int]
            exact ⟨(), trivial⟩
        intro _ _
        unfold hd7
        simp +contextual (maxSteps := 5000000) only [go_sem, ↓reduceIte]
        refine M_loopI (fun k : Nat => ⟨[(0, .sl 1 (l.map eR)), (4, .vec 66 (i - 1)), (6, .sl 1 [[.str a], [.str b], [.str c], [.str d], [.str e], [.str f]]), (7, .loc 7 0), (10, .int .i64 (k + 1 : Nat)), (13, .sl 1 (l.map eR)), (14, .int .i64 l.length), (15, .int .i64 i)], [(66, .vec 32 6 ((hdD l rowU i).map eCf) 0), (7, .blk [.int .i64 (kdF a k), .int .i64 (rowU b), .str c, .str d, .str e, .str f] false)]⟩) (fun k => 5 - k) (fun k => k ≤ 5) 0 ?_ ?_
        · simp +contextual (maxSteps := 5000000) only [go_sem, ↓reduceIte]
          exact ⟨rfl, rfl⟩
        intro k hk
        by_cases hk5 : k = 5
        · subst hk5
          have hw : wordF ((5 + 1 : Nat) : Int) = [] := rfl
          simp +contextual (maxSteps := 5000000) only [go_sem, ↓reduceIte, hW, c_wd, hw]
          refine ⟨⟨hdl, by omega⟩, fun _ => ⟨inR64 (by omega) (by omega), fun _ => ⟨i + 1, ⟨⟨by congr 1; omega, by simp⟩, ?_⟩, by omega, by omega, h6'⟩⟩⟩
          rw [hsn, List.map_append]
          rfl
        · have hw : ¬ wordF ((k + 1 : Nat) : Int) = [] := by
            have : k = 0 ∨ k = 1 ∨ k = 2 ∨ k = 3 ∨ k = 4 := by omega
            rcases this with rfl | rfl | rfl | rfl | rfl <;> decide
          by_cases q : wordF ((k + 1 : Nat) : Int) = a
          · have hkd : kdF a (k + 1) = ((k + 1 : Nat) : Int) := by simp only [kdF]; rw [if_pos q]
            have hwa : ¬ a = [] := fun e => hw (q.trans e)
            simp +contextual (maxSteps := 5000000) only [go_sem, ↓reduceIte, hW, c_wd, hw, hwa, q, Int.reduceEq, Int.reduceNe, Int.reduceLT, Int.reduceLE, Int.reduceToNat, Int.cast_ofNat_Int]
            exact ⟨inR64 (by omega) (by omega), fun _ => ⟨k + 1, ⟨by omega, hkd.symm⟩, by omega, by omega⟩⟩
          · have hkd : kdF a (k + 1) = kdF a k := by simp only [kdF]; rw [if_neg q]
            simp +contextual (maxSteps := 5000000) only [go_sem, ↓reduceIte, hW, c_wd, hw, q, Int.reduceEq, Int.reduceNe, Int.reduceLT, Int.reduceLE, Int.reduceToNat, Int.cast_ofNat_Int]
            exact ⟨inR64 (by omega) (by omega), fun _ => ⟨k + 1, ⟨by omega, hkd.symm⟩, by omega, by omega⟩⟩
    · have hno : ¬ rdOk l ((l.drop 1).map (rdC rowU)) := fun h => q6 (h.1 _ (by rw [List.getD_eq_getElem?_getD, List.getElem?_eq_getElem hlt]; exact List.getElem_mem hlt))
      have q6' : ¬ ((l.getD i []).length : Int) = 6 := by omega
      unfold rdOut
      rw [if_neg hno]
      simp +contextual (maxSteps := 5000000) only [go_sem, ↓reduceIte, hlt, hat, q6, q6', Int.reduceEq, Int.reduceNe, Int.reduceLT, Int.reduceLE, Int.reduceToNat, Int.cast_ofNat_Int]
  · have he : i = l.length := by omega
    subst he
    rw [hdD_all]
    rw [List.take_length] at h6
    have hrow : ∀ c ∈ (l.drop 1).map (rdC rowU), InR .i64 c.row := fun c hc => by
      obtain ⟨r, _, rfl⟩ := List.mem_map.1 hc
      have := rowU_rng (r.getD 1 [])
      exact inR64 (by unfold rdC; simp only; omega) (by unfold rdC; simp only; omega)
    have hcl : ((l.drop 1).map (rdC rowU)).length = l.length - 1 := by simp
    unfold rdOut
    generalize (l.drop 1).map (rdC rowU) = cs at hrow hcl
    have hk : ∃ k : List Cf, cs.map eCf = k.map eCf ∧ k.length < 1000000000 ∧ ∀ c ∈ k, InR .i64 c.row := ⟨cs, rfl, by omega, hrow⟩
    have hdh : dR (eR hdR) = hdR := by
      have := dR_eR [hdR]
      simpa using this
    by_cases hall : ∀ c ∈ cs, okR c = true
    · have hrp : rpOut cs = .tup [.sl 1 ((hdR :: repF cs).map eR), .int .i64 0] := if_pos hall
      by_cases he : hdR :: repF cs = l
      · rw [if_pos ⟨h6, hall, he⟩]
        have he' : decide (hdR :: repF cs = l) = true := decide_eq_true he
        simp +contextual (maxSteps := 5000000) only [go_sem, ↓reduceIte, hlt, hR, c_rp, dCf_map, hk, hrp, hE, c_EqR, dR_eR, he', Int.reduceEq, Int.reduceNe, Int.reduceLT, Int.reduceLE, Int.reduceToNat, Int.cast_ofNat_Int]
        rw [hdh]
        exact ⟨hcl, rfl, by rw [if_neg (fun h => h he)]; exact hcl⟩
      · rw [if_neg (fun h => he h.2.2)]
        have he' : decide (hdR :: repF cs = l) = false := decide_eq_false he
        simp +contextual (maxSteps := 5000000) only [go_sem, ↓reduceIte, hlt, hR, c_rp, dCf_map, hk, hrp, hE, c_EqR, dR_eR, he', Int.reduceEq, Int.reduceNe, Int.reduceLT, Int.reduceLE, Int.reduceToNat, Int.cast_ofNat_Int]
        rw [hdh]
        exact ⟨hcl, rfl, fun h => h he⟩
    · have hrp : rpOut cs = .tup [.nil, .int .i64 13] := if_neg hall
      rw [if_neg (fun h => hall h.2.1)]
      simp +contextual (maxSteps := 5000000) only [go_sem, ↓reduceIte, hlt, hR, c_rp, dCf_map, hk, hrp, hE, c_EqR, dR_eR, Int.reduceEq, Int.reduceNe, Int.reduceLT, Int.reduceLE, Int.reduceToNat, Int.cast_ofNat_Int]
      exact hcl
def c_rd (caps args : List D) : Prop × Out := match caps, args with
  | [], [.sl 1 l] => (∃ k : Rws, l = k.map eR ∧ k.length < 1000000000, .ret (rdOut (l.map dR) rowU))
  | _, _ => (False, .ret .any)
theorem st_rd : StC Tryd.prog 19 c_rd := by
  intro caps args; unfold c_rd; split
  · rintro ⟨k, rfl, h1⟩
    rw [dR_eR]
    exact fc_Read k h1
  · exact fun h => h.elim
end Go.Proofs.YtnpfbjbacakgoaaDoor

/- Digits, words and numbers, as the document has them. -/
set_option linter.unusedSimpArgs false
namespace Go.Proofs.YtnpfbjbacakgoaaDoor
open Go.Tn
set_option maxHeartbeats 16000000
set_option maxRecDepth 100000
def rwF (k : Int) : List UInt8 := if k = 1 then [110, 97, 109, 101] else if k = 2 then [99, 111, 108, 117, 109, 110] else if k = 3 then [114, 111, 119] else if k = 4 then [97, 100, 100] else [99, 101, 108, 108]
theorem fc_rword (k : Int) : FC Tryd.prog 32 [] [.int .i64 k] (.ret (.str (rwF k))) := by
  refine fc_M (fn := Tryd.f32) (C := (tab [] [])) (rs := [2]) mixed (by kernel_rfl) (by kernel_rfl) rfl rfl (by kernel_rfl) (by intro ys h; cases h) ?_
  unfold rwF
  by_cases h1 : k = 1
  · simp +contextual (maxSteps := 5000000) only [go_sem, ↓reduceIte, h1, Int.reduceEq, Int.reduceNe, Int.reduceLT, Int.reduceLE, Int.reduceToNat, Int.cast_ofNat_Int]
  by_cases h2 : k = 2
  · simp +contextual (maxSteps := 5000000) only [go_sem, ↓reduceIte, h1, h2, Int.reduceEq, Int.reduceNe, Int.reduceLT, Int.reduceLE, Int.reduceToNat, Int.cast_ofNat_Int]
  by_cases h3 : k = 3
  · simp +contextual (maxSteps := 5000000) only [go_sem, ↓reduceIte, h1, h2, h3, Int.reduceEq, Int.reduceNe, Int.reduceLT, Int.reduceLE, Int.reduceToNat, Int.cast_ofNat_Int]
  by_cases h4 : k = 4
  · simp +contextual (maxSteps := 5000000) only [go_sem, ↓reduceIte, h1, h2, h3, h4, Int.reduceEq, Int.reduceNe, Int.reduceLT, Int.reduceLE, Int.reduceToNat, Int.cast_ofNat_Int]
  · simp +contextual (maxSteps := 5000000) only [go_sem, ↓reduceIte, h1, h2, h3, h4, Int.reduceEq, Int.reduceNe, Int.reduceLT, Int.reduceLE, Int.reduceToNat, Int.cast_ofNat_Int]
def c_rw (caps args : List D) : Prop × Out := match caps, args with
  | [], [.int .i64 k] => (True, .ret (.str (rwF k)))
  | _, _ => (False, .ret .any)
theorem st_rw : StC Tryd.prog 32 c_rw := by
  intro caps args; unfold c_rw; split
  · exact fun _ => fc_rword _
  · exact fun h => h.elim
theorem numF_small {n : Int} (h0 : 0 ≤ n) (h1 : n < 10) : numF n = [UInt8.ofNat (48 + n).toNat] := by
  unfold numF Lib.itoa
  rw [if_neg (by omega), if_neg (by omega), Lib.decDigits, dif_pos (by omega)]
  congr 2; omega
theorem numF_big {n : Int} (h1 : ¬ n < 10) : numF n = numF (n / 10) ++ [UInt8.ofNat (48 + n % 10).toNat] := by
  unfold numF Lib.itoa
  rw [if_neg (by omega), if_neg (by omega), if_neg (by omega), if_neg (by omega), Lib.decDigits, dif_neg (by omega)]
  congr 2
  · congr 1; omega
  · congr 1; omega
theorem numF_len {n : Int} (h : InR .i64 n) : (numF n).length ≤ 21 := by
  unfold numF
  split
  · simp
  · exact Lib.itoa_length_le n h.1 h.2
def c_dg (k : Nat) (caps args : List D) : Prop × Out := match caps, args with
  | [], [.int .i64 n] => (0 ≤ n ∧ n < k ∧ InR .i64 n, .ret (.str (numF n)))
  | _, _ => (False, .ret .any)
def treeD : Tr := (.node (.cons 0 (.node (.cons 1 (.node (.cons 2 (.node (.cons 3 (.node (.cons 4 (.node (.cons 5 (.node (.cons 6 (.node (.cons 7 (.node (.cons 8 (.node (.cons 9 (.node (.cons 10 .leaf .nil)) .nil)) .nil)) .nil)) .nil)) .nil)) .nil)) .nil)) (.cons 3 (.node (.cons 2 (.node (.cons 4 (.node (.cons 5 (.node (.cons 6 (.node (.cons 7 (.node (.cons 8 (.node (.cons 9 (.node (.cons 10 .leaf .nil)) .nil)) .nil)) .nil)) .nil)) .nil)) .nil)) (.cons 4 (.node (.cons 2 (.node (.cons 5 (.node (.cons 6 (.node (.cons 7 (.node (.cons 8 (.node (.cons 9 (.node (.cons 10 .leaf .nil)) .nil)) .nil)) .nil)) .nil)) .nil)) (.cons 5 (.node (.cons 2 (.node (.cons 6 (.node (.cons 7 (.node (.cons 8 (.node (.cons 9 (.node (.cons 10 .leaf .nil)) .nil)) .nil)) .nil)) .nil)) (.cons 6 (.node (.cons 2 (.node (.cons 7 (.node (.cons 8 (.node (.cons 9 (.node (.cons 10 .leaf .nil)) .nil)) .nil)) .nil)) (.cons 7 (.node (.cons 2 (.node (.cons 8 (.node (.cons 9 (.node (.cons 10 .leaf .nil)) .nil)) .nil)) (.cons 8 (.node (.cons 2 (.node (.cons 9 (.node (.cons 10 .leaf .nil)) .nil)) .nil)) .nil))) .nil))) .nil))) .nil))) .nil))) .nil))) (.cons 3 (.node (.cons 1 (.node (.cons 2 (.node (.cons 4 (.node (.cons 5 (.node (.cons 6 (.node (.cons 7 (.node (.cons 8 (.node (.cons 9 (.node (.cons 10 .leaf .nil)) .nil)) .nil)) .nil)) .nil)) .nil)) .nil)) (.cons 4 (.node (.cons 2 (.node (.cons 5 (.node (.cons 6 (.node (.cons 7 (.node (.cons 8 (.node (.cons 9 (.node (.cons 10 .leaf .nil)) .nil)) .nil)) .nil)) .nil)) .nil)) (.cons 5 (.node (.cons 2 (.node (.cons 6 (.node (.cons 7 (.node (.cons 8 (.node (.cons 9 (.node (.cons 10 .leaf .nil)) .nil)) .nil)) .nil)) .nil)) (.cons 6 (.node (.cons 2 (.node (.cons 7 (.node (.cons 8 (.node (.cons 9 (.node (.cons 10 .leaf .nil)) .nil)) .nil)) .nil)) (.cons 7 (.node (.cons 2 (.node (.cons 8 (.node (.cons 9 (.node (.cons 10 .leaf .nil)) .nil)) .nil)) (.cons 8 (.node (.cons 2 (.node (.cons 9 (.node (.cons 10 .leaf .nil)) .nil)) .nil)) .nil))) .nil))) .nil))) .nil))) .nil))) (.cons 4 (.node (.cons 1 (.node (.cons 2 (.node (.cons 5 (.node (.cons 6 (.node (.cons 7 (.node (.cons 8 (.node (.cons 9 (.node (.cons 10 .leaf .nil)) .nil)) .nil)) .nil)) .nil)) .nil)) (.cons 5 (.node (.cons 2 (.node (.cons 6 (.node (.cons 7 (.node (.cons 8 (.node (.cons 9 (.node (.cons 10 .leaf .nil)) .nil)) .nil)) .nil)) .nil)) (.cons 6 (.node (.cons 2 (.node (.cons 7 (.node (.cons 8 (.node (.cons 9 (.node (.cons 10 .leaf .nil)) .nil)) .nil)) .nil)) (.cons 7 (.node (.cons 2 (.node (.cons 8 (.node (.cons 9 (.node (.cons 10 .leaf .nil)) .nil)) .nil)) (.cons 8 (.node (.cons 2 (.node (.cons 9 (.node (.cons 10 .leaf .nil)) .nil)) .nil)) .nil))) .nil))) .nil))) .nil))) (.cons 5 (.node (.cons 1 (.node (.cons 2 (.node (.cons 6 (.node (.cons 7 (.node (.cons 8 (.node (.cons 9 (.node (.cons 10 .leaf .nil)) .nil)) .nil)) .nil)) .nil)) (.cons 6 (.node (.cons 2 (.node (.cons 7 (.node (.cons 8 (.node (.cons 9 (.node (.cons 10 .leaf .nil)) .nil)) .nil)) .nil)) (.cons 7 (.node (.cons 2 (.node (.cons 8 (.node (.cons 9 (.node (.cons 10 .leaf .nil)) .nil)) .nil)) (.cons 8 (.node (.cons 2 (.node (.cons 9 (.node (.cons 10 .leaf .nil)) .nil)) .nil)) .nil))) .nil))) .nil))) (.cons 6 (.node (.cons 1 (.node (.cons 2 (.node (.cons 7 (.node (.cons 8 (.node (.cons 9 (.node (.cons 10 .leaf .nil)) .nil)) .nil)) .nil)) (.cons 7 (.node (.cons 2 (.node (.cons 8 (.node (.cons 9 (.node (.cons 10 .leaf .nil)) .nil)) .nil)) (.cons 8 (.node (.cons 2 (.node (.cons 9 (.node (.cons 10 .leaf .nil)) .nil)) .nil)) .nil))) .nil))) (.cons 7 (.node (.cons 1 (.node (.cons 2 (.node (.cons 8 (.node (.cons 9 (.node (.cons 10 .leaf .nil)) .nil)) .nil)) (.cons 8 (.node (.cons 2 (.node (.cons 9 (.node (.cons 10 .leaf .nil)) .nil)) .nil)) .nil))) (.cons 8 (.node (.cons 1 (.node (.cons 2 (.node (.cons 9 (.node (.cons 10 .leaf .nil)) .nil)) .nil)) .nil)) .nil))) .nil))) .nil))) .nil))) .nil))) .nil))) (.cons 3 (.node (.cons 0 (.node (.cons 1 (.node (.cons 2 (.node (.cons 4 (.node (.cons 5 (.node (.cons 6 (.node (.cons 7 (.node (.cons 8 (.node (.cons 9 (.node (.cons 10 .leaf .nil)) .nil)) .nil)) .nil)) .nil)) .nil)) .nil)) (.cons 4 (.node (.cons 2 (.node (.cons 5 (.node (.cons 6 (.node (.cons 7 (.node (.cons 8 (.node (.cons 9 (.node (.cons 10 .leaf .nil)) .nil)) .nil)) .nil)) .nil)) .nil)) (.cons 5 (.node (.cons 2 (.node (.cons 6 (.node (.cons 7 (.node (.cons 8 (.node (.cons 9 (.node (.cons 10 .leaf .nil)) .nil)) .nil)) .nil)) .nil)) (.cons 6 (.node (.cons 2 (.node (.cons 7 (.node (.cons 8 (.node (.cons 9 (.node (.cons 10 .leaf .nil)) .nil)) .nil)) .nil)) (.cons 7 (.node (.cons 2 (.node (.cons 8 (.node (.cons 9 (.node (.cons 10 .leaf .nil)) .nil)) .nil)) (.cons 8 (.node (.cons 2 (.node (.cons 9 (.node (.cons 10 .leaf .nil)) .nil)) .nil)) .nil))) .nil))) .nil))) .nil))) .nil))) (.cons 4 (.node (.cons 1 (.node (.cons 2 (.node (.cons 5 (.node (.cons 6 (.node (.cons 7 (.node (.cons 8 (.node (.cons 9 (.node (.cons 10 .leaf .nil)) .nil)) .nil)) .nil)) .nil)) .nil)) (.cons 5 (.node (.cons 2 (.node (.cons 6 (.node (.cons 7 (.node (.cons 8 (.node (.cons 9 (.node (.cons 10 .leaf .nil)) .nil)) .nil)) .nil)) .nil)) (.cons 6 (.node (.cons 2 (.node (.cons 7 (.node (.cons 8 (.node (.cons 9 (.node (.cons 10 .leaf .nil)) .nil)) .nil)) .nil)) (.cons 7 (.node (.cons 2 (.node (.cons 8 (.node (.cons 9 (.node (.cons 10 .leaf .nil)) .nil)) .nil)) (.cons 8 (.node (.cons 2 (.node (.cons 9 (.node (.cons 10 .leaf .nil)) .nil)) .nil)) .nil))) .nil))) .nil))) .nil))) (.cons 5 (.node (.cons 1 (.node (.cons 2 (.node (.cons 6 (.node (.cons 7 (.node (.cons 8 (.node (.cons 9 (.node (.cons 10 .leaf .nil)) .nil)) .nil)) .nil)) .nil)) (.cons 6 (.node (.cons 2 (.node (.cons 7 (.node (.cons 8 (.node (.cons 9 (.node (.cons 10 .leaf .nil)) .nil)) .nil)) .nil)) (.cons 7 (.node (.cons 2 (.node (.cons 8 (.node (.cons 9 (.node (.cons 10 .leaf .nil)) .nil)) .nil)) (.cons 8 (.node (.cons 2 (.node (.cons 9 (.node (.cons 10 .leaf .nil)) .nil)) .nil)) .nil))) .nil))) .nil))) (.cons 6 (.node (.cons 1 (.node (.cons 2 (.node (.cons 7 (.node (.cons 8 (.node (.cons 9 (.node (.cons 10 .leaf .nil)) .nil)) .nil)) .nil)) (.cons 7 (.node (.cons 2 (.node (.cons 8 (.node (.cons 9 (.node (.cons 10 .leaf .nil)) .nil)) .nil)) (.cons 8 (.node (.cons 2 (.node (.cons 9 (.node (.cons 10 .leaf .nil)) .nil)) .nil)) .nil))) .nil))) (.cons 7 (.node (.cons 1 (.node (.cons 2 (.node (.cons 8 (.node (.cons 9 (.node (.cons 10 .leaf .nil)) .nil)) .nil)) (.cons 8 (.node (.cons 2 (.node (.cons 9 (.node (.cons 10 .leaf .nil)) .nil)) .nil)) .nil))) (.cons 8 (.node (.cons 1 (.node (.cons 2 (.node (.cons 9 (.node (.cons 10 .leaf .nil)) .nil)) .nil)) .nil)) .nil))) .nil))) .nil))) .nil))) .nil))) (.cons 4 (.node (.cons 0 (.node (.cons 1 (.node (.cons 2 (.node (.cons 5 (.node (.cons 6 (.node (.cons 7 (.node (.cons 8 (.node (.cons 9 (.node (.cons 10 .leaf .nil)) .nil)) .nil)) .nil)) .nil)) .nil)) (.cons 5 (.node (.cons 2 (.node (.cons 6 (.node (.cons 7 (.node (.cons 8 (.node (.cons 9 (.node (.cons 10 .leaf .nil)) .nil)) .nil)) .nil)) .nil)) (.cons 6 (.node (.cons 2 (.node (.cons 7 (.node (.cons 8 (.node (.cons 9 (.node (.cons 10 .leaf .nil)) .nil)) .nil)) .nil)) (.cons 7 (.node (.cons 2 (.node (.cons 8 (.node (.cons 9 (.node (.cons 10 .leaf .nil)) .nil)) .nil)) (.cons 8 (.node (.cons 2 (.node (.cons 9 (.node (.cons 10 .leaf .nil)) .nil)) .nil)) .nil))) .nil))) .nil))) .nil))) (.cons 5 (.node (.cons 1 (.node (.cons 2 (.node (.cons 6 (.node (.cons 7 (.node (.cons 8 (.node (.cons 9 (.node (.cons 10 .leaf .nil)) .nil)) .nil)) .nil)) .nil)) (.cons 6 (.node (.cons 2 (.node (.cons 7 (.node (.cons 8 (.node (.cons 9 (.node (.cons 10 .leaf .nil)) .nil)) .nil)) .nil)) (.cons 7 (.node (.cons 2 (.node (.cons 8 (.node (.cons 9 (.node (.cons 10 .leaf .nil)) .nil)) .nil)) (.cons 8 (.node (.cons 2 (.node (.cons 9 (.node (.cons 10 .leaf .nil)) .nil)) .nil)) .nil))) .nil))) .nil))) (.cons 6 (.node (.cons 1 (.node (.cons 2 (.node (.cons 7 (.node (.cons 8 (.node (.cons 9 (.node (.cons 10 .leaf .nil)) .nil)) .nil)) .nil)) (.cons 7 (.node (.cons 2 (.node (.cons 8 (.node (.cons 9 (.node (.cons 10 .leaf .nil)) .nil)) .nil)) (.cons 8 (.node (.cons 2 (.node (.cons 9 (.node (.cons 10 .leaf .nil)) .nil)) .nil)) .nil))) .nil))) (.cons 7 (.node (.cons 1 (.node (.cons 2 (.node (.cons 8 (.node (.cons 9 (.node (.cons 10 .leaf .nil)) .nil)) .nil)) (.cons 8 (.node (.cons 2 (.node (.cons 9 (.node (.cons 10 .leaf .nil)) .nil)) .nil)) .nil))) (.cons 8 (.node (.cons 1 (.node (.cons 2 (.node (.cons 9 (.node (.cons 10 .leaf .nil)) .nil)) .nil)) .nil)) .nil))) .nil))) .nil))) .nil))) (.cons 5 (.node (.cons 0 (.node (.cons 1 (.node (.cons 2 (.node (.cons 6 (.node (.cons 7 (.node (.cons 8 (.node (.cons 9 (.node (.cons 10 .leaf .nil)) .nil)) .nil)) .nil)) .nil)) (.cons 6 (.node (.cons 2 (.node (.cons 7 (.node (.cons 8 (.node (.cons 9 (.node (.cons 10 .leaf .nil)) .nil)) .nil)) .nil)) (.cons 7 (.node (.cons 2 (.node (.cons 8 (.node (.cons 9 (.node (.cons 10 .leaf .nil)) .nil)) .nil)) (.cons 8 (.node (.cons 2 (.node (.cons 9 (.node (.cons 10 .leaf .nil)) .nil)) .nil)) .nil))) .nil))) .nil))) (.cons 6 (.node (.cons 1 (.node (.cons 2 (.node (.cons 7 (.node (.cons 8 (.node (.cons 9 (.node (.cons 10 .leaf .nil)) .nil)) .nil)) .nil)) (.cons 7 (.node (.cons 2 (.node (.cons 8 (.node (.cons 9 (.node (.cons 10 .leaf .nil)) .nil)) .nil)) (.cons 8 (.node (.cons 2 (.node (.cons 9 (.node (.cons 10 .leaf .nil)) .nil)) .nil)) .nil))) .nil))) (.cons 7 (.node (.cons 1 (.node (.cons 2 (.node (.cons 8 (.node (.cons 9 (.node (.cons 10 .leaf .nil)) .nil)) .nil)) (.cons 8 (.node (.cons 2 (.node (.cons 9 (.node (.cons 10 .leaf .nil)) .nil)) .nil)) .nil))) (.cons 8 (.node (.cons 1 (.node (.cons 2 (.node (.cons 9 (.node (.cons 10 .leaf .nil)) .nil)) .nil)) .nil)) .nil))) .nil))) .nil))) (.cons 6 (.node (.cons 0 (.node (.cons 1 (.node (.cons 2 (.node (.cons 7 (.node (.cons 8 (.node (.cons 9 (.node (.cons 10 .leaf .nil)) .nil)) .nil)) .nil)) (.cons 7 (.node (.cons 2 (.node (.cons 8 (.node (.cons 9 (.node (.cons 10 .leaf .nil)) .nil)) .nil)) (.cons 8 (.node (.cons 2 (.node (.cons 9 (.node (.cons 10 .leaf .nil)) .nil)) .nil)) .nil))) .nil))) (.cons 7 (.node (.cons 1 (.node (.cons 2 (.node (.cons 8 (.node (.cons 9 (.node (.cons 10 .leaf .nil)) .nil)) .nil)) (.cons 8 (.node (.cons 2 (.node (.cons 9 (.node (.cons 10 .leaf .nil)) .nil)) .nil)) .nil))) (.cons 8 (.node (.cons 1 (.node (.cons 2 (.node (.cons 9 (.node (.cons 10 .leaf .nil)) .nil)) .nil)) .nil)) .nil))) .nil))) (.cons 7 (.node (.cons 0 (.node (.cons 1 (.node (.cons 2 (.node (.cons 8 (.node (.cons 9 (.node (.cons 10 .leaf .nil)) .nil)) .nil)) (.cons 8 (.node (.cons 2 (.node (.cons 9 (.node (.cons 10 .leaf .nil)) .nil)) .nil)) .nil))) (.cons 8 (.node (.cons 1 (.node (.cons 2 (.node (.cons 9 (.node (.cons 10 .leaf .nil)) .nil)) .nil)) .nil)) .nil))) (.cons 8 (.node (.cons 0 (.node (.cons 1 (.node (.cons 2 (.node (.cons 9 (.node (.cons 10 .leaf .nil)) .nil)) .nil)) .nil)) .nil)) .nil))) .nil))) .nil))) .nil))) .nil))) .nil)))
theorem st_dg : ∀ k, StC Tryd.prog 33 (c_dg k) := by
  intro k
  induction k with
  | zero =>
    intro caps args; unfold c_dg; split
    · rintro ⟨h1, h2, _⟩; exact absurd h2 (by omega)
    · exact fun h => h.elim
  | succ k ih =>
    intro caps args; unfold c_dg; split
    · rename_i n
      rintro ⟨h0, hk, hn⟩
      refine fc_M (fn := Tryd.f33) (C := (tab [(33, c_dg k)] [] [7005])) (rs := [2]) mixed (by kernel_rfl) (by kernel_rfl) rfl rfl (by kernel_rfl) (by intro ys h; cases h) ?_
      have h0' : ¬ n < 0 := by omega
      by_cases h10 : n < 10
      · rw [numF_small h0 h10]
        simp +contextual (maxSteps := 5000000) only [go_sem, ↓reduceIte, h0', h10, Int.reduceEq, Int.reduceNe, Int.reduceLT, Int.reduceLE, Int.reduceToNat, Int.cast_ofNat_Int]
        exact ⟨inR64 (by omega) (by omega), fun _ => ⟨by omega, by omega⟩⟩
      · rw [numF_big h10]
        have hq : InR .i64 (n / 10) := inR64 (by omega) (by have := hn.2; omega)
        have hl := numF_len hq
        have hk2 : n / 10 < k := by omega
        have hq0 : 0 ≤ n / 10 := by omega
        have hr : InR .i64 (48 + n % 10) := inR64 (by omega) (by omega)
        have hr8 : InR .u8 (48 + n % 10) := ⟨by omega, by omega⟩
        simp +contextual (maxSteps := 5000000) only [go_sem, ↓reduceIte, h0', h10, Int.reduceEq, Int.reduceNe, Int.reduceLT, Int.reduceLE, Int.reduceToNat, Int.cast_ofNat_Int]
        refine M_tree treeD (by show chkTr _ _ _ _ = true; kernel_rfl) ?_
        simp +contextual (maxSteps := 5000000) only [go_sem, ↓reduceIte, treeD, ih, c_dg, h0, hn, hq, hk2, hq0, hr, hr8, Int.reduceEq, Int.reduceNe, Int.reduceLT, Int.reduceLE, Int.reduceToNat, Int.cast_ofNat_Int]
        omega
    · exact fun h => h.elim
theorem fc_Digits (n : Int) (hn : InR .i64 n) : FC Tryd.prog 33 [] [.int .i64 n] (.ret (.str (numF n))) := by
  by_cases h0 : n < 0
  · refine fc_M (fn := Tryd.f33) (C := (tab [] [] [7005])) (rs := [2]) mixed (by kernel_rfl) (by kernel_rfl) rfl rfl (by kernel_rfl) (by intro ys h; cases h) ?_
    unfold numF
    rw [if_pos h0]
    simp +contextual (maxSteps := 5000000) only [go_sem, ↓reduceIte, h0]
  · exact st_dg (n.toNat + 1) [] [.int .i64 n] ⟨by omega, by omega, hn⟩
def c_dig (caps args : List D) : Prop × Out := match caps, args with
  | [], [.int .i64 n] => (InR .i64 n, .ret (.str (numF n)))
  | _, _ => (False, .ret .any)
theorem st_dig : StC Tryd.prog 33 c_dig := by
  intro caps args; unfold c_dig; split
  · exact fun h => fc_Digits _ h
  · exact fun h => h.elim
end Go.Proofs.YtnpfbjbacakgoaaDoor

/- Conflicts as records, as the document has it. -/
set_option linter.unusedSimpArgs false
namespace Go.Proofs.YtnpfbjbacakgoaaDoor
open Go.Tn
set_option maxHeartbeats 16000000
set_option maxRecDepth 100000
theorem wordF_ok (k : Int) : wordF k ≠ [] ↔ 1 ≤ k ∧ k ≤ 5 := by
  unfold wordF
  constructor
  · intro h
    by_cases h1 : k = 1
    · omega
    by_cases h2 : k = 2
    · omega
    by_cases h3 : k = 3
    · omega
    by_cases h4 : k = 4
    · omega
    by_cases h5 : k = 5
    · omega
    · simp [h1, h2, h3, h4, h5] at h
  · rintro ⟨h1, h2⟩
    have : k = 1 ∨ k = 2 ∨ k = 3 ∨ k = 4 ∨ k = 5 := by omega
    rcases this with rfl | rfl | rfl | rfl | rfl <;> simp
theorem rw_word {k : Int} (h : 1 ≤ k ∧ k ≤ 5) : rwF k = wordF k := by
  have : k = 1 ∨ k = 2 ∨ k = 3 ∨ k = 4 ∨ k = 5 := by omega
  rcases this with rfl | rfl | rfl | rfl | rfl <;> rfl
theorem okR_iff (c : Cf) : okR c = true ↔ (1 ≤ c.kind ∧ c.kind ≤ 5) ∧ -1 ≤ c.row ∧ c.row ≤ 999999 := by
  unfold okR; rw [decide_eq_true_eq, wordF_ok]
def hdP (l : List Cf) (i : Nat) : Hd := ⟨[(0, .sl 6 (l.map eCf)), (4, .vec 8 (i + 1)), (5, .int .i64 i)], [(8, .vec 22 1 ((hdR :: repF (l.take i)).map eR) 0)]⟩
theorem fc_rReport (l : List Cf) (hl : l.length < 1000000000) (hr : ∀ c ∈ l, InR .i64 c.row) : FC Tryd.prog 18 [] [.sl 6 (l.map eCf)] (.ret (rpOut l)) := by
  have hW := st_rw
  have hD := st_dig
  refine fc_M (fn := Tryd.f18) (C := (tab [(32, c_rw), (33, c_dig)] [] [4008, 6])) (rs := [2, 3]) mixed (by kernel_rfl) (by kernel_rfl) rfl rfl (by kernel_rfl) (by intro ys h; cases h) ?_
  simp +contextual (maxSteps := 5000000) only [go_sem, ↓reduceIte, eI_at, eI_set, List.length_set, tn_add, tn_add1, tn_sub, tn_sub1, sh1, sh1b, half_cast, Int.reduceEq, Int.reduceNe, Int.reduceLT, Int.reduceLE, Int.reduceToNat, Int.cast_ofNat_Int]
  refine M_loopI (fun i : Nat => hdP l i) (fun i => l.length - i) (fun i => i ≤ l.length ∧ ∀ c ∈ l.take i, okR c = true) 0 ?_ ?_
  · unfold hdP
    simp +contextual (maxSteps := 5000000) only [go_sem, ↓reduceIte]
    exact ⟨⟨rfl, rfl⟩, by simp⟩
  rintro i ⟨hi, ha⟩
  by_cases hlt : i < l.length
  · have hat := eCf_at' l i hlt
    have hsn := take_snC hlt
    have hmem := getD_memX (d := c0) hlt
    have hro := hr _ hmem
    generalize l.getD i c0 = c at hat hsn hro hmem
    by_cases hok : okR c = true
    · have hok' := (okR_iff c).1 hok
      obtain ⟨ck, cr, cc, cb, co, ct⟩ := c
      simp only [eCf] at hat
      simp only at hok' hro
      have k1 : ¬ ck < 1 := by omega
      have k5 : ¬ 5 < ck := by omega
      have r1 : ¬ cr < -1 := by omega
      have r2 : ¬ 999999 < cr := by omega
      have hrw := rw_word hok'.1
      unfold hdP
      simp +contextual (maxSteps := 5000000) only [go_sem, ↓reduceIte, hlt, hat, k1, k5, r1, r2, Int.reduceEq, Int.reduceNe, Int.reduceLT, Int.reduceLE, Int.reduceToNat, Int.cast_ofNat_Int]
      refine fun _ => M_join (fun _ : Unit => ⟨(6, .loc 6 0) :: (36, .bool false) :: (hdP l i).1, (6, .blk [.int .i64 ck, .int .i64 cr, .str cc, .str cb, .str co, .str ct] false) :: (hdP l i).2⟩) (fun _ => True) ?_ ?_
      · unfold hdP
        simp +contextual (maxSteps := 5000000) only [go_sem, ↓reduceIte, hlt, hat, k1, k5, r1, r2, Int.reduceEq, Int.reduceNe, Int.reduceLT, Int.reduceLE, Int.reduceToNat, Int.cast_ofNat_Int]
        exact ⟨(), trivial⟩
      intro _ _
      unfold hdP
      simp +contextual (maxSteps := 5000000) only [go_sem, ↓reduceIte]
      refine M_cutZ 17 ⟨by decide, by kernel_rfl⟩ ?_
      simp only [List.take_succ_cons, List.take_zero, List.drop_succ_cons, List.drop_zero]
      simp +contextual (maxSteps := 5000000) only [go_sem, ↓reduceIte, hlt, hW, c_rw, hD, c_dig, hro, hrw, eI_at, eI_set, List.length_set, tn_add, tn_add1, tn_sub, tn_sub1, sh1, sh1b, half_cast, Int.reduceEq, Int.reduceNe, Int.reduceLT, Int.reduceLE, Int.reduceToNat, Int.cast_ofNat_Int]
      refine ⟨⟨by unfold repF; rw [List.length_map, List.length_take]; omega, by omega⟩, fun _ => ⟨inR64 (by omega) (by omega), fun _ => ⟨i + 1, ⟨⟨rfl, by simp⟩, ?_⟩, by omega, by omega, fun x hx => ?_⟩⟩⟩
      · rw [hsn]; unfold repF; rw [List.map_append, List.map_append]; rfl
      · rw [hsn] at hx
        rcases List.mem_append.1 hx with h | h
        · exact ha x h
        · rw [List.mem_singleton.1 h]; exact hok
    · have hno : ¬ (∀ c ∈ l, okR c = true) := fun h => hok (h _ hmem)
      unfold rpOut
      rw [if_neg hno]
      have hok' : ¬ ((1 ≤ c.kind ∧ c.kind ≤ 5) ∧ -1 ≤ c.row ∧ c.row ≤ 999999) := fun h => hok ((okR_iff c).2 h)
      obtain ⟨ck, cr, cc, cb, co, ct⟩ := c
      simp only [eCf] at hat
      simp only at hok' hro
      unfold hdP
      simp +contextual (maxSteps := 5000000) only [go_sem, ↓reduceIte, hlt, hat, Int.reduceEq, Int.reduceNe, Int.reduceLT, Int.reduceLE, Int.reduceToNat, Int.cast_ofNat_Int]
      refine fun _ => M_join (fun _ : Unit => ⟨(6, .loc 6 0) :: (36, .bool true) :: (hdP l i).1, (6, .blk [.int .i64 ck, .int .i64 cr, .str cc, .str cb, .str co, .str ct] false) :: (hdP l i).2⟩) (fun _ => False) ?_ (fun _ h => h.elim)
      · unfold hdP
        by_cases k1 : ck < 1
        · simp +contextual (maxSteps := 5000000) only [go_sem, ↓reduceIte, hlt, hat, k1, Int.reduceEq, Int.reduceNe, Int.reduceLT, Int.reduceLE, Int.reduceToNat, Int.cast_ofNat_Int]
        by_cases k5 : 5 < ck
        · simp +contextual (maxSteps := 5000000) only [go_sem, ↓reduceIte, hlt, hat, k1, k5, Int.reduceEq, Int.reduceNe, Int.reduceLT, Int.reduceLE, Int.reduceToNat, Int.cast_ofNat_Int]
        by_cases r1 : cr < -1
        · simp +contextual (maxSteps := 5000000) only [go_sem, ↓reduceIte, hlt, hat, k1, k5, r1, Int.reduceEq, Int.reduceNe, Int.reduceLT, Int.reduceLE, Int.reduceToNat, Int.cast_ofNat_Int]
        · have r2 : 999999 < cr := by omega
          simp +contextual (maxSteps := 5000000) only [go_sem, ↓reduceIte, hlt, hat, k1, k5, r1, r2, Int.reduceEq, Int.reduceNe, Int.reduceLT, Int.reduceLE, Int.reduceToNat, Int.cast_ofNat_Int]
  · have he : i = l.length := by omega
    subst he
    rw [List.take_length] at ha
    unfold rpOut hdP
    rw [if_pos ha]
    simp +contextual (maxSteps := 5000000) only [go_sem, ↓reduceIte, hlt, List.take_length]
    exact fun _ => by unfold repF; rw [List.length_map]
def c_rrp (caps args : List D) : Prop × Out := match caps, args with
  | [], [.sl 6 l] => (∃ k : List Cf, l = k.map eCf ∧ k.length < 1000000000 ∧ ∀ c ∈ k, InR .i64 c.row, .ret (rpOut (l.map dCf)))
  | _, _ => (False, .ret .any)
theorem st_rrp : StC Tryd.prog 18 c_rrp := by
  intro caps args; unfold c_rrp; split
  · rintro ⟨k, rfl, h1, h2⟩
    rw [dCf_map]
    exact fc_rReport k h1 h2
  · exact fun h => h.elim
end Go.Proofs.YtnpfbjbacakgoaaDoor

/- Conflicts out of records, as the document has it. -/
set_option linter.unusedSimpArgs false
namespace Go.Proofs.YtnpfbjbacakgoaaDoor
open Go.Tn
set_option maxHeartbeats 16000000
set_option maxRecDepth 100000
def krF (s : List UInt8) : Nat → Int
  | 0 => 0
  | k + 1 => if rwF ((k + 1 : Nat) : Int) = s then ((k + 1 : Nat) : Int) else krF s k
theorem krF_kd (s : List UInt8) : ∀ k, k ≤ 5 → krF s k = kdF s k
  | 0, _ => rfl
  | k + 1, h => by
    simp only [krF, kdF]
    rw [krF_kd s k (by omega), rw_word (by omega)]
theorem rnF_rng : ∀ (s : List UInt8) (k : Nat) (n : Int), 0 ≤ n → n < 10 ^ (6 - k) → k ≤ 6 → -1 ≤ rnF k n s ∧ rnF k n s < 10 ^ 6
  | s, 0, n, h0, h1, _ => by simp only [rnF]; exact ⟨by omega, by simpa using h1⟩
  | [], k + 1, n, h0, h1, hk => by
    simp only [rnF]
    refine ⟨by omega, Int.lt_of_lt_of_le h1 ?_⟩
    have : (10 : Nat) ^ (6 - (k + 1)) ≤ 10 ^ 6 := Nat.pow_le_pow_right (by decide) (by omega)
    exact_mod_cast this
  | c :: r, k + 1, n, h0, h1, hk => by
    simp only [rnF]
    split
    · exact ⟨by omega, by decide⟩
    · rename_i hc
      refine rnF_rng r k _ (by omega) ?_ (by omega)
      rw [show 6 - k = (6 - (k + 1)) + 1 by omega, Int.pow_succ]
      omega
def rnum (s : List UInt8) : Int := rnF 6 0 s
theorem rnum_rng (s : List UInt8) : -1 ≤ rnum s ∧ rnum s < 1000000 := by
  have := rnF_rng s 6 0 (by omega) (by decide) (by omega)
  exact ⟨this.1, by simpa [rnum] using this.2⟩
/-- what the document's Read hands back -/
def rrdOk (l : Rws) (cs : List Cf) : Prop := (∀ r ∈ l.drop 1, r.length = 6) ∧ (∀ c ∈ cs, okR c = true) ∧ hdR :: repF cs = l
instance (l : Rws) (cs : List Cf) : Decidable (rrdOk l cs) := by unfold rrdOk; infer_instance
def rrdOut (l : Rws) (g : List UInt8 → Int) : D := if rrdOk l ((l.drop 1).map (rdC g)) then .tup [.sl 6 (((l.drop 1).map (rdC g)).map eCf), .int .i64 0] else .tup [.nil, .int .i64 13]
def hdQ (l : Rws) (i : Nat) : Hd := ⟨[(0, .sl 1 (l.map eR)), (4, .vec 73 (i - 1)), (5, .int .i64 i)], [(73, .vec 32 6 ((hdD l rnum i).map eCf) 0)]⟩
theorem fc_rRead (l : Rws) (hl : l.length < 1000000000) (hs : ∀ r ∈ l, ∀ s ∈ r, s.length < 1000000000) : FC Tryd.prog 20 [] [.sl 1 (l.map eR)] (.ret (rrdOut l rnum)) := by
  have hW := st_rw
  have hN := st_rn
  have hR := st_rrp
  have hE := st_RefW
  refine fc_M (fn := Tryd.f20) (C := (tab [(32, c_rw), (38, c_rn), (18, c_rrp), (21, c_RefW)] [] [6007, 5007])) (rs := [2, 3]) mixed (by kernel_rfl) (by kernel_rfl) rfl rfl (by kernel_rfl) (by intro ys h; cases h) ?_
  simp +contextual (maxSteps := 5000000) only [go_sem, ↓reduceIte]
  refine M_loopI (fun i : Nat => hdQ l i) (fun i => l.length + 1 - i) (fun i => 1 ≤ i ∧ (i ≤ l.length ∨ i = 1) ∧ ∀ r ∈ (l.take i).drop 1, r.length = 6) 1 ?_ ?_
  · unfold hdQ
    simp +contextual (maxSteps := 5000000) only [go_sem, ↓reduceIte]
    exact ⟨⟨rfl, by simp [hdD]⟩, by simp⟩
  rintro i ⟨h1, hi, h6⟩
  by_cases hlt : i < l.length
  · have hdl := hdD_len l rnum i (by omega)
    have hat := eR_at l i hlt
    have htk := take_snX (d := ([] : List (List UInt8))) hlt
    by_cases q6 : (l.getD i []).length = 6
    · have h6' : ∀ r ∈ (l.take (i + 1)).drop 1, r.length = 6 := fun r hr => by
        rw [htk, List.drop_append_of_le_length (by simp; omega)] at hr
        rcases List.mem_append.1 hr with h | h
        · exact h6 r h
        · rw [List.mem_singleton] at h; rw [h]; exact q6
      obtain ⟨a, b, c, d, e, f, hr⟩ := len6 q6
      have hsn := hdD_succ l rnum i hlt (by omega)
      have hbl : b.length < 1000000000 := hs _ (getD_memX (d := ([] : List (List UInt8))) hlt) b (by rw [hr]; simp)
      rw [hr] at hat hsn
      simp only [List.map_cons, List.map_nil, eS] at hat
      unfold hdQ
      simp +contextual (maxSteps := 5000000) only [go_sem, ↓reduceIte, hlt, hat, Int.reduceEq, Int.reduceNe, Int.reduceLT, Int.reduceLE, Int.reduceToNat, Int.cast_ofNat_Int]
      refine fun _ => M_join (fun _ : Unit => ⟨(6, .loc 6 0) :: (hdQ l i).1, (6, .blk [.int .i64 0, .int .i64 (rnum b), .str c, .str d, .str e, .str f] false) :: (hdQ l i).2⟩) (fun _ => True) ?_ ?_
      · unfold hdQ
        simp +contextual (maxSteps := 5000000) only [go_sem, ↓reduceIte, hlt, hat, hN, c_rn, hbl, Int.reduceEq, Int.reduceNe, Int.reduceLT, Int.reduceLE, Int.reduceToNat, Int.cast_ofNat_Int]
        exact ⟨(), rfl⟩
      intro _ _
      unfold hdQ
      simp +contextual (maxSteps := 5000000) only [go_sem, ↓reduceIte]
      refine M_loopI (fun k : Nat => ⟨(6, .loc 6 0) :: (7, .int .i64 (k + 1 : Nat)) :: (hdQ l i).1, (6, .blk [.int .i64 (krF a k), .int .i64 (rnum b), .str c, .str d, .str e, .str f] false) :: (hdQ l i).2⟩) (fun k => 5 - k) (fun k => k ≤ 5) 0 ?_ ?_
      · unfold hdQ
        simp +contextual (maxSteps := 5000000) only [go_sem, ↓reduceIte]
        exact ⟨rfl, rfl⟩
      intro k hk
      unfold hdQ
      by_cases hk5 : k = 5
      · subst hk5
        simp +contextual (maxSteps := 5000000) only [go_sem, ↓reduceIte, Int.reduceEq, Int.reduceNe, Int.reduceLT, Int.reduceLE, Int.reduceToNat, Int.cast_ofNat_Int]
        refine ⟨⟨hdl, by omega⟩, fun _ => ⟨inR64 (by omega) (by omega), fun _ => ⟨i + 1, ⟨⟨by congr 1; omega, by simp⟩, ?_⟩, by omega, by omega, .inl (by omega), h6'⟩⟩⟩
        rw [hsn, List.map_append, krF_kd a 5 (by omega)]
        rfl
      · have hle : ((k + 1 : Nat) : Int) ≤ 5 := by omega
        by_cases q : rwF ((k + 1 : Nat) : Int) = a
        · have hkd : krF a (k + 1) = ((k + 1 : Nat) : Int) := by simp only [krF]; rw [if_pos q]
          simp +contextual (maxSteps := 5000000) only [go_sem, ↓reduceIte, hlt, hat, hW, c_rw, hle, q, Int.reduceEq, Int.reduceNe, Int.reduceLT, Int.reduceLE, Int.reduceToNat, Int.cast_ofNat_Int]
          exact ⟨inR64 (by omega) (by omega), fun _ => ⟨k + 1, ⟨by omega, hkd.symm⟩, by omega, by omega⟩⟩
        · have hkd : krF a (k + 1) = krF a k := by simp only [krF]; rw [if_neg q]
          simp +contextual (maxSteps := 5000000) only [go_sem, ↓reduceIte, hlt, hat, hW, c_rw, hle, q, Int.reduceEq, Int.reduceNe, Int.reduceLT, Int.reduceLE, Int.reduceToNat, Int.cast_ofNat_Int]
          exact ⟨inR64 (by omega) (by omega), fun _ => ⟨k + 1, ⟨by omega, hkd.symm⟩, by omega, by omega⟩⟩
    · have hno : ¬ rrdOk l ((l.drop 1).map (rdC rnum)) := fun h => q6 (h.1 _ (by
        rw [List.getD_eq_getElem?_getD, List.getElem?_eq_getElem hlt]
        exact List.mem_drop_iff_getElem.2 ⟨i - 1, by omega, by simp only [Option.getD_some]; congr 1; omega⟩))
      have q6' : ¬ ((l.getD i []).length : Int) = 6 := by omega
      unfold rrdOut hdQ
      rw [if_neg hno]
      simp +contextual (maxSteps := 5000000) only [go_sem, ↓reduceIte, hlt, hat, q6, q6', Int.reduceEq, Int.reduceNe, Int.reduceLT, Int.reduceLE, Int.reduceToNat, Int.cast_ofNat_Int]
  · have hte : l.take i = l := List.take_of_length_le (by omega)
    rw [hte] at h6
    have hh : hdD l rnum i = (l.drop 1).map (rdC rnum) := by unfold hdD; rw [hte]
    have hi1 : ((l.drop 1).map (rdC rnum)).length = i - 1 := by simp; omega
    have hrow : ∀ c ∈ (l.drop 1).map (rdC rnum), InR .i64 c.row := fun c hc => by
      obtain ⟨r, _, rfl⟩ := List.mem_map.1 hc
      have := rnum_rng (r.getD 1 [])
      exact inR64 (by unfold rdC; simp only; omega) (by unfold rdC; simp only; omega)
    unfold rrdOut hdQ
    rw [hh]
    generalize (l.drop 1).map (rdC rnum) = cs at hrow hi1
    have hk : ∃ k : List Cf, cs.map eCf = k.map eCf ∧ k.length < 1000000000 ∧ ∀ c ∈ k, InR .i64 c.row := ⟨cs, rfl, by omega, hrow⟩
    have hdh : dR (eR hdR) = hdR := by
      have := dR_eR [hdR]
      simpa using this
    by_cases hall : ∀ c ∈ cs, okR c = true
    · have hrp : rpOut cs = .tup [.sl 1 ((hdR :: repF cs).map eR), .int .i64 0] := if_pos hall
      by_cases he : l = hdR :: repF cs
      · rw [if_pos ⟨h6, hall, he.symm⟩]
        simp +contextual (maxSteps := 5000000) only [go_sem, ↓reduceIte, hlt, hR, c_rrp, dCf_map, hk, hrp, hE, c_RefW, okW, pW, dR_eR, Int.reduceEq, Int.reduceNe, Int.reduceLT, Int.reduceLE, Int.reduceToNat, Int.cast_ofNat_Int]
        rw [hdh]
        exact fun _ => ⟨hi1, rfl, by rw [if_neg (fun h => h he)]; exact hi1⟩
      · rw [if_neg (fun h => he h.2.2.symm)]
        simp +contextual (maxSteps := 5000000) only [go_sem, ↓reduceIte, hlt, hR, c_rrp, dCf_map, hk, hrp, hE, c_RefW, okW, pW, dR_eR, Int.reduceEq, Int.reduceNe, Int.reduceLT, Int.reduceLE, Int.reduceToNat, Int.cast_ofNat_Int]
        rw [hdh]
        exact fun _ => ⟨hi1, rfl, fun h => h he⟩
    · have hrp : rpOut cs = .tup [.nil, .int .i64 13] := if_neg hall
      rw [if_neg (fun h => hall h.2.1)]
      simp +contextual (maxSteps := 5000000) only [go_sem, ↓reduceIte, hlt, hR, c_rrp, dCf_map, hk, hrp, hE, c_RefW, okW, pW, dR_eR, Int.reduceEq, Int.reduceNe, Int.reduceLT, Int.reduceLE, Int.reduceToNat, Int.cast_ofNat_Int]
      exact fun _ => hi1
def c_rrd (caps args : List D) : Prop × Out := match caps, args with
  | [], [.sl 1 l] => (∃ k : Rws, l = k.map eR ∧ k.length < 1000000000 ∧ ∀ r ∈ k, ∀ s ∈ r, s.length < 1000000000, .ret (rrdOut (l.map dR) rnum))
  | _, _ => (False, .ret .any)
theorem st_rrd : StC Tryd.prog 20 c_rrd := by
  intro caps args; unfold c_rrd; split
  · rintro ⟨k, rfl, h1, h2⟩
    rw [dR_eR]
    exact fc_rRead k h1 h2
  · exact fun h => h.elim
end Go.Proofs.YtnpfbjbacakgoaaDoor

/- What is reported is read back. -/
set_option linter.unusedSimpArgs false
namespace Go.Proofs.YtnpfbjbacakgoaaDoor
open Go.Tn
set_option maxRecDepth 100000
theorem u8_dig {d : Nat} (h : d < 10) : (UInt8.ofNat (48 + d)).toNat = 48 + d := by
  rw [UInt8.toNat_ofNat']; omega
theorem pu_dec (M : Nat) (hM : M < 4294967296) : ∀ (u : Nat) (l : List UInt8), u ≤ M → Lib.parseUintM M 0 (Lib.decDigits u ++ l) = Lib.parseUintM M u l := by
  intro u
  induction u using Nat.strongRecOn with
  | _ u ih =>
    intro l hu
    by_cases h : u < 10
    · rw [Lib.decDigits, dif_pos h]
      simp only [List.cons_append, List.nil_append, Lib.parseUintM, u8_dig h]
      rw [if_pos (by omega), if_neg (by omega), if_neg (by omega)]
      congr 1; omega
    · rw [Lib.decDigits, dif_neg h, List.append_assoc, ih (u / 10) (by omega) _ (by omega)]
      have hd : u % 10 < 10 := Nat.mod_lt _ (by decide)
      simp only [List.cons_append, List.nil_append, Lib.parseUintM, u8_dig hd]
      rw [if_pos (by omega), if_neg (by omega), if_neg (by omega)]
      congr 1; omega
theorem decDigits_ne (u : Nat) : Lib.decDigits u ≠ [] := by
  rw [Lib.decDigits]; split <;> simp
theorem rowU_num {n : Int} (h : -1 ≤ n ∧ n ≤ 999999) : rowU (numF n) = n := by
  unfold numF
  by_cases h0 : n < 0
  · rw [if_pos h0]
    have : rowU [45] = -1 := by decide
    rw [this]; omega
  · rw [if_neg h0]
    unfold rowU
    unfold Lib.itoa
    rw [if_neg h0]
    have := pu_dec (2 ^ 32 - 1) (by decide) n.toNat [] (by omega)
    rw [List.append_nil] at this
    unfold Lib.parseUintB
    rw [if_neg (decDigits_ne _), this]
    simp only [Lib.parseUintM]
    omega
theorem rn_dec : ∀ (k u : Nat) (l : List UInt8) (m : Nat), u < 10 ^ (k + 1) → ∃ j, 1 ≤ j ∧ j ≤ k + 1 ∧ rnF (m + (k + 1)) 0 (Lib.decDigits u ++ l) = rnF (m + (k + 1 - j)) u l := by
  intro k
  induction k with
  | zero =>
    intro u l m hu
    have hu : u < 10 := by simpa using hu
    refine ⟨1, by omega, by omega, ?_⟩
    rw [Lib.decDigits, dif_pos hu]
    show rnF (m + 1) 0 (UInt8.ofNat (48 + u) :: l) = rnF m u l
    simp only [rnF, u8_dig hu]
    rw [if_neg (by omega)]
    congr 1; omega
  | succ k ih =>
    intro u l m hu
    by_cases h : u < 10
    · refine ⟨1, by omega, by omega, ?_⟩
      rw [Lib.decDigits, dif_pos h]
      show rnF (m + (k + 1) + 1) 0 (UInt8.ofNat (48 + u) :: l) = rnF (m + (k + 1 + 1 - 1)) u l
      simp only [rnF, u8_dig h]
      rw [if_neg (by omega)]
      congr 1; omega
    · have hd : u % 10 < 10 := Nat.mod_lt _ (by decide)
      obtain ⟨j, h1, h2, h3⟩ := ih (u / 10) ([UInt8.ofNat (48 + u % 10)] ++ l) (m + 1) (by rw [Nat.pow_succ] at hu; omega)
      refine ⟨j + 1, by omega, by omega, ?_⟩
      rw [Lib.decDigits, dif_neg h, List.append_assoc, show m + (k + 1 + 1) = m + 1 + (k + 1) by omega, h3, show m + 1 + (k + 1 - j) = m + (k + 1 + 1 - (j + 1)) + 1 by omega]
      simp only [List.cons_append, List.nil_append, rnF, u8_dig hd]
      rw [if_neg (by omega)]
      congr 1; omega
theorem rnum_num {n : Int} (h : -1 ≤ n ∧ n ≤ 999999) : rnum (numF n) = n := by
  unfold rnum numF
  by_cases h0 : n < 0
  · rw [if_pos h0]
    have : rnF 6 0 [45] = -1 := by decide
    rw [this]; omega
  · rw [if_neg h0]
    unfold Lib.itoa
    rw [if_neg h0]
    obtain ⟨j, _, _, hj⟩ := rn_dec 5 n.toNat [] 0 (by have : (10 : Nat) ^ (5 + 1) = 1000000 := by decide
                                                      omega)
    rw [List.append_nil] at hj
    rw [show (6 : Nat) = 0 + (5 + 1) from rfl, hj]
    have : ∀ (k : Nat) (n : Int), rnF k n [] = n := fun k n => by cases k <;> rfl
    rw [this]; omega
theorem kd_word {k : Int} (h : 1 ≤ k ∧ k ≤ 5) : kdF (wordF k) 5 = k := by
  have : k = 1 ∨ k = 2 ∨ k = 3 ∨ k = 4 ∨ k = 5 := by omega
  rcases this with rfl | rfl | rfl | rfl | rfl <;> rfl
theorem rd_rec {g : List UInt8 → Int} (hg : ∀ n : Int, -1 ≤ n ∧ n ≤ 999999 → g (numF n) = n) {c : Cf} (h : okR c = true) : rdC g (recF c) = c := by
  obtain ⟨h1, h2⟩ := (okR_iff c).1 h
  obtain ⟨ck, cr, cc, cb, co, ct⟩ := c
  simp only at h1 h2
  simp only [rdC, recF, List.getD_cons_zero, List.getD_cons_succ]
  rw [kd_word h1, hg _ h2]
theorem rd_reps {g : List UInt8 → Int} (hg : ∀ n : Int, -1 ≤ n ∧ n ≤ 999999 → g (numF n) = n) {cs : List Cf} (h : ∀ c ∈ cs, okR c = true) : (repF cs).map (rdC g) = cs := by
  unfold repF
  rw [List.map_map]
  conv => rhs; rw [← List.map_id cs]
  exact List.map_congr_left fun c hc => rd_rec hg (h c hc)
theorem rec_len (cs : List Cf) : ∀ r ∈ hdR :: repF cs, r.length = 6 := by
  intro r hr
  rcases List.mem_cons.1 hr with rfl | hr
  · rfl
  · obtain ⟨c, _, rfl⟩ := List.mem_map.1 hr; rfl
/-- a report, read -/
theorem rd_back {cs : List Cf} (h : ∀ c ∈ cs, okR c = true) : rdOut (hdR :: repF cs) rowU = .tup [.sl 6 (cs.map eCf), .int .i64 0] := by
  have e : ((hdR :: repF cs).drop 1).map (rdC rowU) = cs := rd_reps (fun n hn => rowU_num hn) h
  unfold rdOut
  rw [e, if_pos ⟨rec_len cs, h, rfl⟩]
/-- the conflicts of records, if they are a report -/
def rdL (l : Rws) : Option (List Cf) := if rdOk l ((l.drop 1).map (rdC rowU)) then some ((l.drop 1).map (rdC rowU)) else none
def outL : Option (List Cf) → D
  | some cs => .tup [.sl 6 (cs.map eCf), .int .i64 0]
  | none => .tup [.nil, .int .i64 13]
theorem rdOut_eq (l : Rws) : rdOut l rowU = outL (rdL l) := by
  unfold rdOut rdL; split <;> rfl
theorem rdL_some {l : Rws} {cs : List Cf} (h : rdL l = some cs) : (∀ c ∈ cs, okR c = true) ∧ hdR :: repF cs = l := by
  unfold rdL at h
  split at h
  · rename_i h1
    cases h
    exact ⟨h1.2.1, h1.2.2⟩
  · cases h
theorem rrd_eq (l : Rws) : rrdOut l rnum = outL (rdL l) := by
  unfold rrdOut rdL
  by_cases h1 : rdOk l ((l.drop 1).map (rdC rowU))
  · rw [if_pos h1]
    generalize (l.drop 1).map (rdC rowU) = cs at h1
    obtain ⟨h2, h3, h4⟩ := h1
    have e : (l.drop 1).map (rdC rnum) = cs := by rw [← h4]; exact rd_reps (fun n hn => rnum_num hn) h3
    rw [e, if_pos ⟨fun r hr => h2 r (List.mem_of_mem_drop hr), h3, h4⟩]
    rfl
  · rw [if_neg h1]
    by_cases h2 : rrdOk l ((l.drop 1).map (rdC rnum))
    · exfalso
      generalize (l.drop 1).map (rdC rnum) = cs at h2
      obtain ⟨h2, h3, h4⟩ := h2
      have e : (l.drop 1).map (rdC rowU) = cs := by rw [← h4]; exact rd_reps (fun n hn => rowU_num hn) h3
      rw [e] at h1
      exact h1 ⟨by rw [← h4]; exact rec_len cs, h3, h4⟩
    · rw [if_neg h2]; rfl
theorem rdL_back {cs : List Cf} (h : ∀ c ∈ cs, okR c = true) : rdL (hdR :: repF cs) = some cs := by
  have e : ((hdR :: repF cs).drop 1).map (rdC rowU) = cs := rd_reps (fun n hn => rowU_num hn) h
  unfold rdL
  rw [e, if_pos ⟨rec_len cs, h, rfl⟩]
end Go.Proofs.YtnpfbjbacakgoaaDoor

/- The examples of the statements' layer hold. -/
set_option linter.unusedSimpArgs false
namespace Go.Proofs.YtnpfbjbacakgoaaDoor
open Go.Tn
set_option maxHeartbeats 16000000
set_option maxRecDepth 100000
def c_Mk (caps args : List D) : Prop × Out := match caps, args with
  | [], [.agg [.sl 1 h, .sl 1 r], .sl 6 l] => ((h = (h.map dS).map eS ∧ r = (r.map dR).map eR ∧ l = (l.map dCf).map eCf) ∧ (h.length < 1000000000 ∧ r.length < 1000000000 ∧ l.length < 1000000000) ∧ (∀ x ∈ r.map dR, x.length < 1000000000) ∧ ∀ c ∈ l.map dCf, okCf c,
      .ret (.agg [.sl 1 h, .sl 1 ((marksF (h.map dS) (r.map dR) (l.map dCf)).map eR)]))
  | _, _ => (False, .ret .any)
theorem st_Mk : StC Tryd.prog 14 c_Mk := by
  intro caps args; unfold c_Mk; split
  · rename_i h r l
    rintro ⟨⟨h1, h2, h3⟩, ⟨h4, h5, h6⟩, h7, h8⟩
    have := fc_Mark (h.map dS, r.map dR) (l.map dCf) (by simpa using h4) (by simpa using h5) h7 (by simpa using h6) h8
    simp only [dTab, ← h1, ← h2, ← h3] at this
    exact this
  · exact fun h => h.elim
theorem st_rMk : StC Tryd.prog 15 c_Mk := by
  intro caps args; unfold c_Mk; split
  · rename_i h r l
    rintro ⟨⟨h1, h2, h3⟩, ⟨h4, h5, h6⟩, h7, h8⟩
    have := fc_rMark (h.map dS, r.map dR) (l.map dCf) (by simpa using h4) (by simpa using h5) h7 (by simpa using h6) h8
    simp only [← h1, ← h2, ← h3] at this
    exact this
  · exact fun h => h.elim
/- Report, Read: also of nil -/
def c_Rp (caps args : List D) : Prop × Out := match caps, args with
  | [], [a] => (okCs a ∧ (pCs a).length < 1000000000 ∧ ∀ c ∈ pCs a, InR .i64 c.row, .ret (rpOut (pCs a)))
  | _, _ => (False, .ret .any)
theorem st_Rp : StC Tryd.prog 17 c_Rp := by
  intro caps args; unfold c_Rp; split
  · rintro ⟨h1, h2, h3⟩
    refine fc_wk (wkL_self []) ?_ (by intro ys h; cases h) (fc_Report _ h2 h3)
    exact ⟨okCs_wk h1, trivial⟩
  · exact fun h => h.elim
theorem st_rRp : StC Tryd.prog 18 c_Rp := by
  intro caps args; unfold c_Rp; split
  · rintro ⟨h1, h2, h3⟩
    refine fc_wk (wkL_self []) ?_ (by intro ys h; cases h) (fc_rReport _ h2 h3)
    exact ⟨okCs_wk h1, trivial⟩
  · exact fun h => h.elim
def c_Rd (caps args : List D) : Prop × Out := match caps, args with
  | [], [a] => (okW a ∧ (pW a).length < 1000000000 ∧ ∀ r ∈ pW a, ∀ s ∈ r, s.length < 1000000000, .ret (outL (rdL (pW a))))
  | _, _ => (False, .ret .any)
theorem st_Rd : StC Tryd.prog 19 c_Rd := by
  intro caps args; unfold c_Rd; split
  · rintro ⟨h1, h2, h3⟩
    rw [← rdOut_eq]
    refine fc_wk (wkL_self []) ?_ (by intro ys h; cases h) (fc_Read _ h2)
    exact ⟨okW_wk h1, trivial⟩
  · exact fun h => h.elim
theorem st_rRd : StC Tryd.prog 20 c_Rd := by
  intro caps args; unfold c_Rd; split
  · rintro ⟨h1, h2, h3⟩
    rw [← rrd_eq]
    refine fc_wk (wkL_self []) ?_ (by intro ys h; cases h) (fc_rRead _ h2 h3)
    exact ⟨okW_wk h1, trivial⟩
  · exact fun h => h.elim
def c_Cel (caps args : List D) : Prop × Out := match caps, args with
  | [], [.agg [.sl 1 h, .sl 1 r], .int .i64 i, .int .i64 j] => (h = (h.map dS).map eS ∧ r = (r.map dR).map eR, .ret (.str (cellF (h.map dS, r.map dR) i j)))
  | _, _ => (False, .ret .any)
theorem st_Cel : StC Tryd.prog 25 c_Cel := by
  intro caps args; unfold c_Cel; split
  · rename_i h r i j
    rintro ⟨h1, h2⟩
    have := fc_Cell (h.map dS, r.map dR) i j
    simp only [dTab, ← h1, ← h2] at this
    exact this
  · exact fun h => h.elim
theorem okW_sl (l : List (List Str)) : okW (.sl 1 (l.map eR)) := by
  show l.map eR = ((l.map eR).map dR).map eR
  rw [dR_eR]
theorem pW_sl (l : List (List Str)) : pW (.sl 1 (l.map eR)) = l := dR_eR l
theorem okCs_sl (l : List Cf) : okCs (.sl 6 (l.map eCf)) := by
  show l.map eCf = ((l.map eCf).map dCf).map eCf
  rw [dCf_map]
theorem pCs_sl (l : List Cf) : pCs (.sl 6 (l.map eCf)) = l := dCf_map l
/- the example -/
def cW : Cf := ⟨5, 0, [118], [120], [121], [122]⟩
theorem okW1 : ∀ c ∈ [cW], okR c = true := by intro c hc; rw [List.mem_singleton.1 hc]; decide
theorem rpW : rpOut [cW] = .tup [.sl 1 ((hdR :: repF [cW]).map eR), .int .i64 0] := if_pos okW1
theorem rdW : rdL (hdR :: repF [cW]) = some [cW] := rdL_back okW1
theorem rp0 : rpOut [] = .tup [.sl 1 ([hdR].map eR), .int .i64 0] := if_pos (by simp)
theorem rpE : rpOut [c0] = .tup [.nil, .int .i64 13] := if_neg (by intro h; have := h c0 (by simp); revert this; decide)
theorem mkW : marksF [[118]] [[[120]]] [cW] = [[txF cW]] := by decide
theorem recW : recF cW = [[99, 101, 108, 108], [48], [118], [120], [121], [122]] := by
  have : numF 0 = [48] := numF_small (by omega) (by omega)
  unfold recF cW; simp only; rw [this]; rfl
theorem eCfW : eCf cW = [.int .i64 5, .int .i64 0, .str [118], .str [120], .str [121], .str [122]] := rfl
theorem txW : txF ⟨5, 0, [118], [120], [121], [122]⟩ = [40, 40, 40, 32, 120, 32, 41, 41, 41, 32, 121, 32, 47, 47, 47, 32, 122] := by decide
theorem txW' : txF cW = [40, 40, 40, 32, 120, 32, 41, 41, 41, 32, 121, 32, 47, 47, 47, 32, 122] := txW
theorem fc_works24 : FC Tryd.prog 8 [] [] (.ret (.bool true)) := by
  have h1 := st_Mk
  have h2 := st_Rp
  have h3 := st_Rd
  have h4 := st_Txt
  have h5 := st_Cel
  refine fc_M (fn := Tryd.f8) (C := (tab [(14, c_Mk), (17, c_Rp), (19, c_Rd), (11, c_Txt), (25, c_Cel)] [] [5001, 5002, 5003, 5004, 5005, 5006])) (rs := [0]) mixed (by kernel_rfl) (by kernel_rfl) rfl rfl (by kernel_rfl) (by intro ys h; cases h) ?_
  simp +contextual (maxSteps := 5000000) only [go_sem, ↓reduceIte, Int.reduceEq, Int.reduceNe, Int.reduceLT, Int.reduceLE, Int.reduceToNat, Int.cast_ofNat_Int]
  refine M_join (fun _ : Unit => ⟨[(1, .loc 1 0)], [(1, .blk (eCf cW) false)]⟩) (fun _ => True) ?_ ?_
  · unfold cW eCf
    simp +contextual (maxSteps := 5000000) only [go_sem, ↓reduceIte, Int.reduceEq, Int.reduceNe, Int.reduceLT, Int.reduceLE, Int.reduceToNat, Int.cast_ofNat_Int]
    exact ⟨(), trivial⟩
  intro _ _
  simp +contextual (maxSteps := 5000000) only [go_sem, ↓reduceIte, Int.reduceEq, Int.reduceNe, Int.reduceLT, Int.reduceLE, Int.reduceToNat, Int.cast_ofNat_Int]
  refine M_join (fun _ : Unit => ⟨[(1, .loc 1 0), (2, .loc 2 0)], [(1, .blk (eCf cW) false), (2, .blk [.sl 1 [[.str [118]]], .sl 1 ([[txF cW]].map eR)] false)]⟩) (fun _ => True) ?_ ?_
  · have e1 : eCf cW = [.int .i64 5, .int .i64 0, .str [118], .str [120], .str [121], .str [122]] := rfl
    simp +contextual (maxSteps := 5000000) only [go_sem, ↓reduceIte, e1, h1, c_Mk, Int.reduceEq, Int.reduceNe, Int.reduceLT, Int.reduceLE, Int.reduceToNat, Int.cast_ofNat_Int]
    refine ⟨⟨⟨rfl, rfl, rfl⟩, fun x hx => by rw [List.mem_singleton.1 hx]; decide, fun c hc => by rw [List.mem_singleton.1 hc]; show (_ : Nat) < _; decide⟩, (), ?_⟩
    show List.map eR (marksF [[118]] [[[120]]] [cW]) = _
    rw [mkW]; rfl
  intro _ _
  simp +contextual (maxSteps := 5000000) only [go_sem, ↓reduceIte]
  refine M_join (fun _ : Unit => ⟨[(1, .loc 1 0), (2, .loc 2 0), (3, .sl 1 ((hdR :: repF [cW]).map eR)), (4, .int .i64 0)], [(1, .blk (eCf cW) false), (2, .blk [.sl 1 [[.str [118]]], .sl 1 ([[txF cW]].map eR)] false)]⟩) (fun _ => True) ?_ ?_
  · have e1 : eCf cW = [.int .i64 5, .int .i64 0, .str [118], .str [120], .str [121], .str [122]] := rfl
    have e2 : okCs (.sl 6 [[.int .i64 5, .int .i64 0, .str [118], .str [120], .str [121], .str [122]]]) := rfl
    have e3 : pCs (.sl 6 [[.int .i64 5, .int .i64 0, .str [118], .str [120], .str [121], .str [122]]]) = [cW] := rfl
    simp +contextual (maxSteps := 5000000) only [go_sem, ↓reduceIte, e1, h2, c_Rp, e2, e3, rpW, Int.reduceEq, Int.reduceNe, Int.reduceLT, Int.reduceLE, Int.reduceToNat, Int.cast_ofNat_Int]
    exact ⟨fun c hc => by rw [List.mem_singleton.1 hc]; exact inR64 (by decide) (by decide), (), trivial⟩
  intro _ _
  simp +contextual (maxSteps := 5000000) only [go_sem, ↓reduceIte]
  refine M_join (fun _ : Unit => ⟨[(1, .loc 1 0), (2, .loc 2 0), (3, .sl 1 ((hdR :: repF [cW]).map eR)), (4, .int .i64 0), (5, .sl 6 [eCf cW]), (6, .int .i64 0)], [(1, .blk (eCf cW) false), (2, .blk [.sl 1 [[.str [118]]], .sl 1 ([[txF cW]].map eR)] false)]⟩) (fun _ => True) ?_ ?_
  · have e2 : okW (.sl 1 (eR hdR :: (repF [cW]).map eR)) := okW_sl (hdR :: repF [cW])
    have e3 : pW (.sl 1 (eR hdR :: (repF [cW]).map eR)) = hdR :: repF [cW] := pW_sl (hdR :: repF [cW])
    have e4 : (hdR :: repF [cW]).length < 1000000000 := by decide
    have e5 : ∀ r ∈ hdR :: repF [cW], ∀ s ∈ r, s.length < 1000000000 := by
      unfold repF
      rw [show [cW].map recF = [recF cW] from rfl, recW]
      decide
    simp +contextual (maxSteps := 5000000) only [go_sem, ↓reduceIte, eCfW, h3, c_Rd, e2, e3, rdW, outL, Int.reduceEq, Int.reduceNe, Int.reduceLT, Int.reduceLE, Int.reduceToNat, Int.cast_ofNat_Int]
    exact ⟨⟨e4, e5⟩, (), trivial⟩
  intro _ _
  simp +contextual (maxSteps := 5000000) only [go_sem, ↓reduceIte]
  refine M_join (fun _ : Unit => ⟨[(1, .loc 1 0), (2, .loc 2 0), (3, .sl 1 ((hdR :: repF [cW]).map eR)), (4, .int .i64 0), (5, .sl 6 [eCf cW]), (6, .int .i64 0), (7, .sl 1 [eR hdR]), (8, .int .i64 0)], [(1, .blk (eCf cW) false), (2, .blk [.sl 1 [[.str [118]]], .sl 1 ([[txF cW]].map eR)] false)]⟩) (fun _ => True) ?_ ?_
  · simp +contextual (maxSteps := 5000000) only [go_sem, ↓reduceIte, eCfW, h2, c_Rp, okCs, pCs, rp0, Int.reduceEq, Int.reduceNe, Int.reduceLT, Int.reduceLE, Int.reduceToNat, Int.cast_ofNat_Int]
    exact ⟨fun c hc => by simp at hc, (), trivial⟩
  intro _ _
  simp +contextual (maxSteps := 5000000) only [go_sem, ↓reduceIte]
  refine M_join (fun _ : Unit => ⟨[(1, .loc 1 0), (2, .loc 2 0), (3, .sl 1 ((hdR :: repF [cW]).map eR)), (4, .int .i64 0), (5, .sl 6 [eCf cW]), (6, .int .i64 0), (7, .sl 1 [eR hdR]), (8, .int .i64 0), (10, .int .i64 13)], [(1, .blk (eCf cW) false), (2, .blk [.sl 1 [[.str [118]]], .sl 1 ([[txF cW]].map eR)] false)]⟩) (fun _ => True) ?_ ?_
  · have e2 : okCs (.sl 6 [[.int .i64 0, .int .i64 0, .str [], .str [], .str [], .str []]]) := rfl
    have e3 : pCs (.sl 6 [[.int .i64 0, .int .i64 0, .str [], .str [], .str [], .str []]]) = [c0] := rfl
    simp +contextual (maxSteps := 5000000) only [go_sem, ↓reduceIte, eCfW, h2, c_Rp, e2, e3, rpE, Int.reduceEq, Int.reduceNe, Int.reduceLT, Int.reduceLE, Int.reduceToNat, Int.cast_ofNat_Int]
    exact ⟨fun c hc => by rw [List.mem_singleton.1 hc]; exact inR64 (by decide) (by decide), (), trivial⟩
  intro _ _
  have e1 : eCf cW = [.int .i64 5, .int .i64 0, .str [118], .str [120], .str [121], .str [122]] := rfl
  have e2 : (repF [cW]) = [[[99, 101, 108, 108], [48], [118], [120], [121], [122]]] := by unfold repF; rw [show [cW].map recF = [recF cW] from rfl, recW]
  rw [e2]
  have e3 : eR [[99, 101, 108, 108], [48], [118], [120], [121], [122]] = [.sl 1 [[.str [99, 101, 108, 108]], [.str [48]], [.str [118]], [.str [120]], [.str [121]], [.str [122]]]] := rfl
  have e4 : okCf ⟨5, 0, [118], [120], [121], [122]⟩ := by show (_ : Nat) < _; decide
  have e5 : [[D.str [118]]] = [eS (dS [D.str [118]])] := rfl
  have e6 : eR [[40, 40, 40, 32, 120, 32, 41, 41, 41, 32, 121, 32, 47, 47, 47, 32, 122]] = [.sl 1 [[.str [40, 40, 40, 32, 120, 32, 41, 41, 41, 32, 121, 32, 47, 47, 47, 32, 122]]]] := rfl
  have e7 : cellF ([dS [D.str [118]]], [dR [.sl 1 [[.str [40, 40, 40, 32, 120, 32, 41, 41, 41, 32, 121, 32, 47, 47, 47, 32, 122]]]]]) 0 0 = [40, 40, 40, 32, 120, 32, 41, 41, 41, 32, 121, 32, 47, 47, 47, 32, 122] := by decide
  rw [txW']
  simp +contextual (maxSteps := 5000000) only [go_sem, ↓reduceIte, e1, h4, c_Txt, h5, c_Cel, e3, e4, e6, e7, txW, Int.reduceEq, Int.reduceNe, Int.reduceLT, Int.reduceLE, Int.reduceToNat, Int.cast_ofNat_Int]
  exact ⟨rfl, rfl⟩
def c_wk24 (caps args : List D) : Prop × Out := match caps, args with | [], [] => (True, .ret (.bool true)) | _, _ => (False, .ret .any)
theorem st_wk24 : StC Tryd.prog 8 c_wk24 := by
  intro caps args; unfold c_wk24; split
  · exact fun _ => fc_works24
  · exact fun h => h.elim
end Go.Proofs.YtnpfbjbacakgoaaDoor
