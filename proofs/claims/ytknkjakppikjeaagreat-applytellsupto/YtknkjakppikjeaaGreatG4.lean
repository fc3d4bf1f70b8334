/-
  What the functions compute that the law of this claim reaches. By an AI agent.
-/
import Derived.Test.YtknkjakppikjeaaGreatG3
set_option linter.unusedSimpArgs false
set_option linter.unusedVariables false

set_option linter.unusedSimpArgs false
namespace Go.Proofs.YtknkjakppikjeaaGreat
open Go.Tn
set_option maxHeartbeats 8000000
set_option maxRecDepth 100000
abbrev OR' := List (Option (List Str))
def eO (x : Option (List Str)) : List D := match x with | none => [.nil] | some r => [.sl 1 (r.map eS)]
def setO {β : Type} (f : β → Int) (v : β → List Str) (m : OR') (l : List β) : OR' := l.foldl (fun m x => m.set (f x).toNat (some (v x))) m
def insO (m : OR') (l : List Ln) : OR' := setO (fun x : Ln => x.1) (fun x => x.2) m l
def rowO (g : Int → Int → List Str) (m : OR') (l : List (Int × Int)) : OR' := setO (fun p : Int × Int => p.2) (fun p => g p.1 p.2) m l
def nrow (t : Tab) (d : Dl) (i k : Int) : List Str := rowF t (toldM d) (fromM d.cols) d.B.length i k
def finO (t : Tab) (d : Dl) : OR' := rowO (nrow t d) (insO (List.replicate d.nb.toNat none) d.inss) d.rows
def resT (t : Tab) (d : Dl) : Tab := (d.B, (finO t d).map fun x => x.getD [])
theorem setO_len {β : Type} {f : β → Int} {v : β → List Str} : ∀ {l : List β} {m : OR'}, (setO f v m l).length = m.length
  | [], _ => rfl
  | x :: l, m => by
    have := setO_len (f := f) (v := v) (l := l) (m := m.set (f x).toNat (some (v x)))
    rw [List.length_set] at this
    exact this
theorem setO_take {β : Type} {f : β → Int} {v : β → List Str} {m : OR'} {l : List β} {i : Nat} {dd : β} (h : i < l.length) : setO f v m (l.take (i + 1)) = (setO f v m (l.take i)).set (f (l.getD i dd)).toNat (some (v (l.getD i dd))) := by
  have e : l.take (i + 1) = l.take i ++ [l.getD i dd] := by
    rw [List.take_add_one, List.getElem?_eq_getElem h, List.getD_eq_getElem?_getD, List.getElem?_eq_getElem h]; rfl
  unfold setO
  rw [e, List.foldl_append]; rfl
theorem setO_some {β : Type} {f : β → Int} {v : β → List Str} {k : Nat} : ∀ {l : List β} {m : OR'}, k < m.length → ((∃ x ∈ l, (f x).toNat = k) ∨ ∃ r, m[k]? = some (some r)) → ∃ r, (setO f v m l)[k]? = some (some r)
  | [], m, _, h => by
    rcases h with ⟨x, hx, _⟩ | h
    · simp at hx
    · exact h
  | x :: l, m, hk, h => by
    have e : setO f v m (x :: l) = setO f v (m.set (f x).toNat (some (v x))) l := rfl
    rw [e]
    refine setO_some (by rw [List.length_set]; exact hk) ?_
    by_cases e1 : (f x).toNat = k
    · exact .inr ⟨v x, by rw [e1, List.getElem?_set_self hk]⟩
    · rcases h with ⟨y, hy, he⟩ | ⟨r, hr⟩
      · rcases List.mem_cons.1 hy with rfl | hy
        · exact absurd he e1
        · exact .inl ⟨y, hy, he⟩
      · exact .inr ⟨r, by rw [List.getElem?_set_ne e1]; exact hr⟩
theorem eO_set (m : OR') (i : Nat) (r : List Str) : (m.map eO).set i [.sl 1 (r.map eS)] = (m.set i (some r)).map eO := by rw [List.map_set]; rfl
theorem eO_drop {m : OR'} {k : Nat} (h : k < m.length) : List.drop 1 ((m.map eO).getD k []) = [] := by
  rw [List.getD_eq_getElem?_getD, List.getElem?_map, List.getElem?_eq_getElem h]
  cases m[k] <;> rfl
theorem mtF_mem {α β : Type} {q : α → β → Bool} : ∀ {l : List α} {r : List β}, mtF q l r = true → (∀ x ∈ l, ∃ y ∈ r, q x y = true) ∧ ∀ y ∈ r, ∃ x ∈ l, q x y = true
  | [], [], _ => by simp
  | x :: l, y :: r, h => by
    simp only [mtF, Bool.and_eq_true] at h
    obtain ⟨h1, h2⟩ := mtF_mem h.2
    refine ⟨fun a ha => ?_, fun b hb => ?_⟩
    · rcases List.mem_cons.1 ha with rfl | ha
      · exact ⟨y, by simp, h.1⟩
      · obtain ⟨z, hz, hq⟩ := h1 a ha
        exact ⟨z, by simp [hz], hq⟩
    · rcases List.mem_cons.1 hb with rfl | hb
      · exact ⟨x, by simp, h.1⟩
      · obtain ⟨z, hz, hq⟩ := h2 b hb
        exact ⟨z, by simp [hz], hq⟩
theorem OkD.ins {d : Dl} (g : OkD d) {x : Ln} (hx : x ∈ d.inss) : 0 ≤ x.1 ∧ x.1.toNat < d.nb.toNat := by
  obtain ⟨y, hy, hq⟩ := (mtF_mem g.lines.2).1 x hx
  simp only [isL, decide_eq_true_eq] at hq
  have := (mem_rsL.1 hy).1
  omega
theorem OkD.row {d : Dl} (g : OkD d) {p : Int × Int} (hp : p ∈ d.rows) : 0 ≤ p.2 ∧ p.2.toNat < d.nb.toNat := by
  have := (g.rows.inn p hp).2.2
  have := g.rows.b0
  omega
theorem OkD.full {d : Dl} (g : OkD d) (t : Tab) : (finO t d).map eO = (resT t d).2.map eR := by
  have hl : (finO t d).length = d.nb.toNat := by unfold finO rowO insO; rw [setO_len, setO_len, List.length_replicate]
  refine List.ext_getElem (by simp [resT]) fun k hk _ => ?_
  have hk2 : k < d.nb.toNat := by rw [List.length_map] at hk; omega
  have hs : ∃ r, (finO t d)[k]? = some (some r) := by
    unfold finO rowO
    refine setO_some (by unfold insO; rw [setO_len, List.length_replicate]; exact hk2) ?_
    by_cases hm : (k : Int) ∈ d.rows.map (·.2)
    · obtain ⟨p, hp, e⟩ := List.mem_map.1 hm
      exact .inl ⟨p, hp, by omega⟩
    · refine .inr ?_
      unfold insO
      refine setO_some (by rw [List.length_replicate]; exact hk2) (.inl ?_)
      have hin : (k : Int) ∈ newR' d := mem_rsL.2 ⟨⟨by omega, by omega⟩, hm⟩
      obtain ⟨x, hx, hq⟩ := (mtF_mem g.lines.2).2 _ hin
      simp only [isL, decide_eq_true_eq] at hq
      exact ⟨x, hx, by omega⟩
  obtain ⟨r, hr⟩ := hs
  have hkf : k < (finO t d).length := by omega
  rw [List.getElem?_eq_getElem hkf, Option.some.injEq] at hr
  simp only [resT, List.getElem_map, hr]
  rfl
end Go.Proofs.YtknkjakppikjeaaGreat

set_option linter.unusedSimpArgs false
namespace Go.Proofs.YtknkjakppikjeaaGreat
open Go.Tn
set_option maxHeartbeats 8000000
set_option maxRecDepth 100000
/- apply.Apply -/
def tE : D := .agg [.nil, .nil]
def apOut (t : Tab) (d : Dl) : D := if wrongF t d ≠ 0 then .tup [tE, .int .i64 (wrongF t d)] else if tchk (resT t d) ≠ 0 then .tup [tE, .int .i64 (tchk (resT t d))] else .tup [.agg (eTb (resT t d)), .int .i64 0]
def c_wr (t : Tab) (d : Dl) (caps args : List D) : Prop × Out := match caps, args with | [], [x, y] => (x = .agg (eTb t) ∧ y = .agg (eDl d), .ret (.int .i64 (wrongF t d))) | _, _ => (False, .ret .any)
theorem st_wr {t : Tab} {d : Dl} (h : okTD t d) : StC Tryz.prog 21 (c_wr t d) := by
  intro caps args; unfold c_wr; split
  · rintro ⟨rfl, rfl⟩; exact fc_wrong t d h
  · exact fun h => h.elim
def c_made (t : Tab) (d : Dl) (caps args : List D) : Prop × Out := match caps, args with | [], [x, y] => (x = .agg (eTb t) ∧ y = .agg (eDl d), .ret (.agg (eMk t d))) | _, _ => (False, .ret .any)
theorem st_made {t : Tab} {d : Dl} (h : okTD t d) : StC Tryz.prog 22 (c_made t d) := by
  intro caps args; unfold c_made; split
  · rintro ⟨rfl, rfl⟩; exact fc_made t d h.dl
  · exact fun h => h.elim
def c_row (t : Tab) (d : Dl) (caps args : List D) : Prop × Out := match caps, args with | [], [x, .int .i64 i, .int .i64 k] => (x = .agg (eMk t d), .own 9 1 ((nrow t d i k).map eS)) | _, _ => (False, .ret .any)
theorem st_row {t : Tab} {d : Dl} (h : okTD t d) : StC Tryz.prog 24 (c_row t d) := by
  intro caps args; unfold c_row; split
  · rintro rfl; exact fc_row t d h.dl _ _
  · exact fun h => h.elim
theorem tfTable : TyFact Tryz.prog 25 ⟨.struct, [(.slice none 0 0), (.slice none 0 0)], [(0, 1, false), (1, 1, false)], 0, 0, false, 0, 48⟩ := by
  have hy : tyOf Tryz.prog 25 = ⟨.struct, [(.slice none 0 0), (.slice none 0 0)], [(0, 1, false), (1, 1, false)], 0, 0, false, 0, 48⟩ := by kernel_rfl
  have h := tyOf_fact (P := Tryz.prog) (t := 25) (by rw [hy]; intro h; cases h)
  rwa [hy] at h
def tree5 : Tr := (.node (.cons 0 (.node (.cons 1 (.node (.cons 2 (.node (.cons 3 (.node (.cons 4 (.node (.cons 5 (.node (.cons 6 (.node (.cons 7 (.node (.cons 8 .leaf .nil)) .nil)) (.cons 7 (.node (.cons 6 (.node (.cons 8 .leaf .nil)) .nil)) .nil))) (.cons 7 (.node (.cons 5 (.node (.cons 6 (.node (.cons 8 .leaf .nil)) .nil)) .nil)) .nil))) (.cons 7 (.node (.cons 4 (.node (.cons 5 (.node (.cons 6 (.node (.cons 8 .leaf .nil)) .nil)) .nil)) .nil)) .nil))) (.cons 7 (.node (.cons 3 (.node (.cons 4 (.node (.cons 5 (.node (.cons 6 (.node (.cons 8 .leaf .nil)) .nil)) .nil)) .nil)) .nil)) .nil))) (.cons 3 (.node (.cons 2 (.node (.cons 4 (.node (.cons 5 (.node (.cons 6 (.node (.cons 7 (.node (.cons 8 .leaf .nil)) .nil)) (.cons 7 (.node (.cons 6 (.node (.cons 8 .leaf .nil)) .nil)) .nil))) (.cons 7 (.node (.cons 5 (.node (.cons 6 (.node (.cons 8 .leaf .nil)) .nil)) .nil)) .nil))) (.cons 7 (.node (.cons 4 (.node (.cons 5 (.node (.cons 6 (.node (.cons 8 .leaf .nil)) .nil)) .nil)) .nil)) .nil))) (.cons 4 (.node (.cons 2 (.node (.cons 5 (.node (.cons 6 (.node (.cons 7 (.node (.cons 8 .leaf .nil)) .nil)) (.cons 7 (.node (.cons 6 (.node (.cons 8 .leaf .nil)) .nil)) .nil))) (.cons 7 (.node (.cons 5 (.node (.cons 6 (.node (.cons 8 .leaf .nil)) .nil)) .nil)) .nil))) (.cons 5 (.node (.cons 2 (.node (.cons 6 (.node (.cons 7 (.node (.cons 8 .leaf .nil)) .nil)) (.cons 7 (.node (.cons 6 (.node (.cons 8 .leaf .nil)) .nil)) .nil))) (.cons 7 (.node (.cons 2 (.node (.cons 6 (.node (.cons 8 .leaf .nil)) .nil)) .nil)) .nil))) (.cons 7 (.node (.cons 2 (.node (.cons 5 (.node (.cons 6 (.node (.cons 8 .leaf .nil)) .nil)) .nil)) (.cons 5 (.node (.cons 2 (.node (.cons 6 (.node (.cons 8 .leaf .nil)) .nil)) .nil)) .nil))) .nil)))) (.cons 7 (.node (.cons 2 (.node (.cons 4 (.node (.cons 5 (.node (.cons 6 (.node (.cons 8 .leaf .nil)) .nil)) .nil)) .nil)) (.cons 4 (.node (.cons 2 (.node (.cons 5 (.node (.cons 6 (.node (.cons 8 .leaf .nil)) .nil)) .nil)) (.cons 5 (.node (.cons 2 (.node (.cons 6 (.node (.cons 8 .leaf .nil)) .nil)) .nil)) .nil))) .nil))) .nil)))) (.cons 7 (.node (.cons 2 (.node (.cons 3 (.node (.cons 4 (.node (.cons 5 (.node (.cons 6 (.node (.cons 8 .leaf .nil)) .nil)) .nil)) .nil)) .nil)) (.cons 3 (.node (.cons 2 (.node (.cons 4 (.node (.cons 5 (.node (.cons 6 (.node (.cons 8 .leaf .nil)) .nil)) .nil)) .nil)) (.cons 4 (.node (.cons 2 (.node (.cons 5 (.node (.cons 6 (.node (.cons 8 .leaf .nil)) .nil)) .nil)) (.cons 5 (.node (.cons 2 (.node (.cons 6 (.node (.cons 8 .leaf .nil)) .nil)) .nil)) .nil))) .nil))) .nil))) .nil)))) (.cons 3 (.node (.cons 1 (.node (.cons 2 (.node (.cons 4 (.node (.cons 5 (.node (.cons 6 (.node (.cons 7 (.node (.cons 8 .leaf .nil)) .nil)) (.cons 7 (.node (.cons 6 (.node (.cons 8 .leaf .nil)) .nil)) .nil))) (.cons 7 (.node (.cons 5 (.node (.cons 6 (.node (.cons 8 .leaf .nil)) .nil)) .nil)) .nil))) (.cons 7 (.node (.cons 4 (.node (.cons 5 (.node (.cons 6 (.node (.cons 8 .leaf .nil)) .nil)) .nil)) .nil)) .nil))) (.cons 4 (.node (.cons 2 (.node (.cons 5 (.node (.cons 6 (.node (.cons 7 (.node (.cons 8 .leaf .nil)) .nil)) (.cons 7 (.node (.cons 6 (.node (.cons 8 .leaf .nil)) .nil)) .nil))) (.cons 7 (.node (.cons 5 (.node (.cons 6 (.node (.cons 8 .leaf .nil)) .nil)) .nil)) .nil))) (.cons 5 (.node (.cons 2 (.node (.cons 6 (.node (.cons 7 (.node (.cons 8 .leaf .nil)) .nil)) (.cons 7 (.node (.cons 6 (.node (.cons 8 .leaf .nil)) .nil)) .nil))) (.cons 7 (.node (.cons 2 (.node (.cons 6 (.node (.cons 8 .leaf .nil)) .nil)) .nil)) .nil))) (.cons 7 (.node (.cons 2 (.node (.cons 5 (.node (.cons 6 (.node (.cons 8 .leaf .nil)) .nil)) .nil)) (.cons 5 (.node (.cons 2 (.node (.cons 6 (.node (.cons 8 .leaf .nil)) .nil)) .nil)) .nil))) .nil)))) (.cons 7 (.node (.cons 2 (.node (.cons 4 (.node (.cons 5 (.node (.cons 6 (.node (.cons 8 .leaf .nil)) .nil)) .nil)) .nil)) (.cons 4 (.node (.cons 2 (.node (.cons 5 (.node (.cons 6 (.node (.cons 8 .leaf .nil)) .nil)) .nil)) (.cons 5 (.node (.cons 2 (.node (.cons 6 (.node (.cons 8 .leaf .nil)) .nil)) .nil)) .nil))) .nil))) .nil)))) (.cons 4 (.node (.cons 1 (.node (.cons 2 (.node (.cons 5 (.node (.cons 6 (.node (.cons 7 (.node (.cons 8 .leaf .nil)) .nil)) (.cons 7 (.node (.cons 6 (.node (.cons 8 .leaf .nil)) .nil)) .nil))) (.cons 7 (.node (.cons 5 (.node (.cons 6 (.node (.cons 8 .leaf .nil)) .nil)) .nil)) .nil))) (.cons 5 (.node (.cons 2 (.node (.cons 6 (.node (.cons 7 (.node (.cons 8 .leaf .nil)) .nil)) (.cons 7 (.node (.cons 6 (.node (.cons 8 .leaf .nil)) .nil)) .nil))) (.cons 7 (.node (.cons 2 (.node (.cons 6 (.node (.cons 8 .leaf .nil)) .nil)) .nil)) .nil))) (.cons 7 (.node (.cons 2 (.node (.cons 5 (.node (.cons 6 (.node (.cons 8 .leaf .nil)) .nil)) .nil)) (.cons 5 (.node (.cons 2 (.node (.cons 6 (.node (.cons 8 .leaf .nil)) .nil)) .nil)) .nil))) .nil)))) (.cons 5 (.node (.cons 1 (.node (.cons 2 (.node (.cons 6 (.node (.cons 7 (.node (.cons 8 .leaf .nil)) .nil)) (.cons 7 (.node (.cons 6 (.node (.cons 8 .leaf .nil)) .nil)) .nil))) (.cons 7 (.node (.cons 2 (.node (.cons 6 (.node (.cons 8 .leaf .nil)) .nil)) .nil)) .nil))) (.cons 7 (.node (.cons 1 (.node (.cons 2 (.node (.cons 6 (.node (.cons 8 .leaf .nil)) .nil)) .nil)) .nil)) .nil))) (.cons 7 (.node (.cons 1 (.node (.cons 2 (.node (.cons 5 (.node (.cons 6 (.node (.cons 8 .leaf .nil)) .nil)) .nil)) (.cons 5 (.node (.cons 2 (.node (.cons 6 (.node (.cons 8 .leaf .nil)) .nil)) .nil)) .nil))) (.cons 5 (.node (.cons 1 (.node (.cons 2 (.node (.cons 6 (.node (.cons 8 .leaf .nil)) .nil)) .nil)) .nil)) .nil))) .nil)))) (.cons 7 (.node (.cons 1 (.node (.cons 2 (.node (.cons 4 (.node (.cons 5 (.node (.cons 6 (.node (.cons 8 .leaf .nil)) .nil)) .nil)) .nil)) (.cons 4 (.node (.cons 2 (.node (.cons 5 (.node (.cons 6 (.node (.cons 8 .leaf .nil)) .nil)) .nil)) (.cons 5 (.node (.cons 2 (.node (.cons 6 (.node (.cons 8 .leaf .nil)) .nil)) .nil)) .nil))) .nil))) (.cons 4 (.node (.cons 1 (.node (.cons 2 (.node (.cons 5 (.node (.cons 6 (.node (.cons 8 .leaf .nil)) .nil)) .nil)) (.cons 5 (.node (.cons 2 (.node (.cons 6 (.node (.cons 8 .leaf .nil)) .nil)) .nil)) .nil))) (.cons 5 (.node (.cons 1 (.node (.cons 2 (.node (.cons 6 (.node (.cons 8 .leaf .nil)) .nil)) .nil)) .nil)) .nil))) .nil))) .nil)))) (.cons 7 (.node (.cons 1 (.node (.cons 2 (.node (.cons 3 (.node (.cons 4 (.node (.cons 5 (.node (.cons 6 (.node (.cons 8 .leaf .nil)) .nil)) .nil)) .nil)) .nil)) (.cons 3 (.node (.cons 2 (.node (.cons 4 (.node (.cons 5 (.node (.cons 6 (.node (.cons 8 .leaf .nil)) .nil)) .nil)) .nil)) (.cons 4 (.node (.cons 2 (.node (.cons 5 (.node (.cons 6 (.node (.cons 8 .leaf .nil)) .nil)) .nil)) (.cons 5 (.node (.cons 2 (.node (.cons 6 (.node (.cons 8 .leaf .nil)) .nil)) .nil)) .nil))) .nil))) .nil))) (.cons 3 (.node (.cons 1 (.node (.cons 2 (.node (.cons 4 (.node (.cons 5 (.node (.cons 6 (.node (.cons 8 .leaf .nil)) .nil)) .nil)) .nil)) (.cons 4 (.node (.cons 2 (.node (.cons 5 (.node (.cons 6 (.node (.cons 8 .leaf .nil)) .nil)) .nil)) (.cons 5 (.node (.cons 2 (.node (.cons 6 (.node (.cons 8 .leaf .nil)) .nil)) .nil)) .nil))) .nil))) (.cons 4 (.node (.cons 1 (.node (.cons 2 (.node (.cons 5 (.node (.cons 6 (.node (.cons 8 .leaf .nil)) .nil)) .nil)) (.cons 5 (.node (.cons 2 (.node (.cons 6 (.node (.cons 8 .leaf .nil)) .nil)) .nil)) .nil))) (.cons 5 (.node (.cons 1 (.node (.cons 2 (.node (.cons 6 (.node (.cons 8 .leaf .nil)) .nil)) .nil)) .nil)) .nil))) .nil))) .nil))) .nil)))) (.cons 3 (.node (.cons 0 (.node (.cons 1 (.node (.cons 2 (.node (.cons 4 (.node (.cons 5 (.node (.cons 6 (.node (.cons 7 (.node (.cons 8 .leaf .nil)) .nil)) (.cons 7 (.node (.cons 6 (.node (.cons 8 .leaf .nil)) .nil)) .nil))) (.cons 7 (.node (.cons 5 (.node (.cons 6 (.node (.cons 8 .leaf .nil)) .nil)) .nil)) .nil))) (.cons 7 (.node (.cons 4 (.node (.cons 5 (.node (.cons 6 (.node (.cons 8 .leaf .nil)) .nil)) .nil)) .nil)) .nil))) (.cons 4 (.node (.cons 2 (.node (.cons 5 (.node (.cons 6 (.node (.cons 7 (.node (.cons 8 .leaf .nil)) .nil)) (.cons 7 (.node (.cons 6 (.node (.cons 8 .leaf .nil)) .nil)) .nil))) (.cons 7 (.node (.cons 5 (.node (.cons 6 (.node (.cons 8 .leaf .nil)) .nil)) .nil)) .nil))) (.cons 5 (.node (.cons 2 (.node (.cons 6 (.node (.cons 7 (.node (.cons 8 .leaf .nil)) .nil)) (.cons 7 (.node (.cons 6 (.node (.cons 8 .leaf .nil)) .nil)) .nil))) (.cons 7 (.node (.cons 2 (.node (.cons 6 (.node (.cons 8 .leaf .nil)) .nil)) .nil)) .nil))) (.cons 7 (.node (.cons 2 (.node (.cons 5 (.node (.cons 6 (.node (.cons 8 .leaf .nil)) .nil)) .nil)) (.cons 5 (.node (.cons 2 (.node (.cons 6 (.node (.cons 8 .leaf .nil)) .nil)) .nil)) .nil))) .nil)))) (.cons 7 (.node (.cons 2 (.node (.cons 4 (.node (.cons 5 (.node (.cons 6 (.node (.cons 8 .leaf .nil)) .nil)) .nil)) .nil)) (.cons 4 (.node (.cons 2 (.node (.cons 5 (.node (.cons 6 (.node (.cons 8 .leaf .nil)) .nil)) .nil)) (.cons 5 (.node (.cons 2 (.node (.cons 6 (.node (.cons 8 .leaf .nil)) .nil)) .nil)) .nil))) .nil))) .nil)))) (.cons 4 (.node (.cons 1 (.node (.cons 2 (.node (.cons 5 (.node (.cons 6 (.node (.cons 7 (.node (.cons 8 .leaf .nil)) .nil)) (.cons 7 (.node (.cons 6 (.node (.cons 8 .leaf .nil)) .nil)) .nil))) (.cons 7 (.node (.cons 5 (.node (.cons 6 (.node (.cons 8 .leaf .nil)) .nil)) .nil)) .nil))) (.cons 5 (.node (.cons 2 (.node (.cons 6 (.node (.cons 7 (.node (.cons 8 .leaf .nil)) .nil)) (.cons 7 (.node (.cons 6 (.node (.cons 8 .leaf .nil)) .nil)) .nil))) (.cons 7 (.node (.cons 2 (.node (.cons 6 (.node (.cons 8 .leaf .nil)) .nil)) .nil)) .nil))) (.cons 7 (.node (.cons 2 (.node (.cons 5 (.node (.cons 6 (.node (.cons 8 .leaf .nil)) .nil)) .nil)) (.cons 5 (.node (.cons 2 (.node (.cons 6 (.node (.cons 8 .leaf .nil)) .nil)) .nil)) .nil))) .nil)))) (.cons 5 (.node (.cons 1 (.node (.cons 2 (.node (.cons 6 (.node (.cons 7 (.node (.cons 8 .leaf .nil)) .nil)) (.cons 7 (.node (.cons 6 (.node (.cons 8 .leaf .nil)) .nil)) .nil))) (.cons 7 (.node (.cons 2 (.node (.cons 6 (.node (.cons 8 .leaf .nil)) .nil)) .nil)) .nil))) (.cons 7 (.node (.cons 1 (.node (.cons 2 (.node (.cons 6 (.node (.cons 8 .leaf .nil)) .nil)) .nil)) .nil)) .nil))) (.cons 7 (.node (.cons 1 (.node (.cons 2 (.node (.cons 5 (.node (.cons 6 (.node (.cons 8 .leaf .nil)) .nil)) .nil)) (.cons 5 (.node (.cons 2 (.node (.cons 6 (.node (.cons 8 .leaf .nil)) .nil)) .nil)) .nil))) (.cons 5 (.node (.cons 1 (.node (.cons 2 (.node (.cons 6 (.node (.cons 8 .leaf .nil)) .nil)) .nil)) .nil)) .nil))) .nil)))) (.cons 7 (.node (.cons 1 (.node (.cons 2 (.node (.cons 4 (.node (.cons 5 (.node (.cons 6 (.node (.cons 8 .leaf .nil)) .nil)) .nil)) .nil)) (.cons 4 (.node (.cons 2 (.node (.cons 5 (.node (.cons 6 (.node (.cons 8 .leaf .nil)) .nil)) .nil)) (.cons 5 (.node (.cons 2 (.node (.cons 6 (.node (.cons 8 .leaf .nil)) .nil)) .nil)) .nil))) .nil))) (.cons 4 (.node (.cons 1 (.node (.cons 2 (.node (.cons 5 (.node (.cons 6 (.node (.cons 8 .leaf .nil)) .nil)) .nil)) (.cons 5 (.node (.cons 2 (.node (.cons 6 (.node (.cons 8 .leaf .nil)) .nil)) .nil)) .nil))) (.cons 5 (.node (.cons 1 (.node (.cons 2 (.node (.cons 6 (.node (.cons 8 .leaf .nil)) .nil)) .nil)) .nil)) .nil))) .nil))) .nil)))) (.cons 4 (.node (.cons 0 (.node (.cons 1 (.node (.cons 2 (.node (.cons 5 (.node (.cons 6 (.node (.cons 7 (.node (.cons 8 .leaf .nil)) .nil)) (.cons 7 (.node (.cons 6 (.node (.cons 8 .leaf .nil)) .nil)) .nil))) (.cons 7 (.node (.cons 5 (.node (.cons 6 (.node (.cons 8 .leaf .nil)) .nil)) .nil)) .nil))) (.cons 5 (.node (.cons 2 (.node (.cons 6 (.node (.cons 7 (.node (.cons 8 .leaf .nil)) .nil)) (.cons 7 (.node (.cons 6 (.node (.cons 8 .leaf .nil)) .nil)) .nil))) (.cons 7 (.node (.cons 2 (.node (.cons 6 (.node (.cons 8 .leaf .nil)) .nil)) .nil)) .nil))) (.cons 7 (.node (.cons 2 (.node (.cons 5 (.node (.cons 6 (.node (.cons 8 .leaf .nil)) .nil)) .nil)) (.cons 5 (.node (.cons 2 (.node (.cons 6 (.node (.cons 8 .leaf .nil)) .nil)) .nil)) .nil))) .nil)))) (.cons 5 (.node (.cons 1 (.node (.cons 2 (.node (.cons 6 (.node (.cons 7 (.node (.cons 8 .leaf .nil)) .nil)) (.cons 7 (.node (.cons 6 (.node (.cons 8 .leaf .nil)) .nil)) .nil))) (.cons 7 (.node (.cons 2 (.node (.cons 6 (.node (.cons 8 .leaf .nil)) .nil)) .nil)) .nil))) (.cons 7 (.node (.cons 1 (.node (.cons 2 (.node (.cons 6 (.node (.cons 8 .leaf .nil)) .nil)) .nil)) .nil)) .nil))) (.cons 7 (.node (.cons 1 (.node (.cons 2 (.node (.cons 5 (.node (.cons 6 (.node (.cons 8 .leaf .nil)) .nil)) .nil)) (.cons 5 (.node (.cons 2 (.node (.cons 6 (.node (.cons 8 .leaf .nil)) .nil)) .nil)) .nil))) (.cons 5 (.node (.cons 1 (.node (.cons 2 (.node (.cons 6 (.node (.cons 8 .leaf .nil)) .nil)) .nil)) .nil)) .nil))) .nil)))) (.cons 5 (.node (.cons 0 (.node (.cons 1 (.node (.cons 2 (.node (.cons 6 (.node (.cons 7 (.node (.cons 8 .leaf .nil)) .nil)) (.cons 7 (.node (.cons 6 (.node (.cons 8 .leaf .nil)) .nil)) .nil))) (.cons 7 (.node (.cons 2 (.node (.cons 6 (.node (.cons 8 .leaf .nil)) .nil)) .nil)) .nil))) (.cons 7 (.node (.cons 1 (.node (.cons 2 (.node (.cons 6 (.node (.cons 8 .leaf .nil)) .nil)) .nil)) .nil)) .nil))) (.cons 7 (.node (.cons 0 (.node (.cons 1 (.node (.cons 2 (.node (.cons 6 (.node (.cons 8 .leaf .nil)) .nil)) .nil)) .nil)) .nil)) .nil))) (.cons 7 (.node (.cons 0 (.node (.cons 1 (.node (.cons 2 (.node (.cons 5 (.node (.cons 6 (.node (.cons 8 .leaf .nil)) .nil)) .nil)) (.cons 5 (.node (.cons 2 (.node (.cons 6 (.node (.cons 8 .leaf .nil)) .nil)) .nil)) .nil))) (.cons 5 (.node (.cons 1 (.node (.cons 2 (.node (.cons 6 (.node (.cons 8 .leaf .nil)) .nil)) .nil)) .nil)) .nil))) (.cons 5 (.node (.cons 0 (.node (.cons 1 (.node (.cons 2 (.node (.cons 6 (.node (.cons 8 .leaf .nil)) .nil)) .nil)) .nil)) .nil)) .nil))) .nil)))) (.cons 7 (.node (.cons 0 (.node (.cons 1 (.node (.cons 2 (.node (.cons 4 (.node (.cons 5 (.node (.cons 6 (.node (.cons 8 .leaf .nil)) .nil)) .nil)) .nil)) (.cons 4 (.node (.cons 2 (.node (.cons 5 (.node (.cons 6 (.node (.cons 8 .leaf .nil)) .nil)) .nil)) (.cons 5 (.node (.cons 2 (.node (.cons 6 (.node (.cons 8 .leaf .nil)) .nil)) .nil)) .nil))) .nil))) (.cons 4 (.node (.cons 1 (.node (.cons 2 (.node (.cons 5 (.node (.cons 6 (.node (.cons 8 .leaf .nil)) .nil)) .nil)) (.cons 5 (.node (.cons 2 (.node (.cons 6 (.node (.cons 8 .leaf .nil)) .nil)) .nil)) .nil))) (.cons 5 (.node (.cons 1 (.node (.cons 2 (.node (.cons 6 (.node (.cons 8 .leaf .nil)) .nil)) .nil)) .nil)) .nil))) .nil))) (.cons 4 (.node (.cons 0 (.node (.cons 1 (.node (.cons 2 (.node (.cons 5 (.node (.cons 6 (.node (.cons 8 .leaf .nil)) .nil)) .nil)) (.cons 5 (.node (.cons 2 (.node (.cons 6 (.node (.cons 8 .leaf .nil)) .nil)) .nil)) .nil))) (.cons 5 (.node (.cons 1 (.node (.cons 2 (.node (.cons 6 (.node (.cons 8 .leaf .nil)) .nil)) .nil)) .nil)) .nil))) (.cons 5 (.node (.cons 0 (.node (.cons 1 (.node (.cons 2 (.node (.cons 6 (.node (.cons 8 .leaf .nil)) .nil)) .nil)) .nil)) .nil)) .nil))) .nil))) .nil)))) (.cons 7 (.node (.cons 0 (.node (.cons 1 (.node (.cons 2 (.node (.cons 3 (.node (.cons 4 (.node (.cons 5 (.node (.cons 6 (.node (.cons 8 .leaf .nil)) .nil)) .nil)) .nil)) .nil)) (.cons 3 (.node (.cons 2 (.node (.cons 4 (.node (.cons 5 (.node (.cons 6 (.node (.cons 8 .leaf .nil)) .nil)) .nil)) .nil)) (.cons 4 (.node (.cons 2 (.node (.cons 5 (.node (.cons 6 (.node (.cons 8 .leaf .nil)) .nil)) .nil)) (.cons 5 (.node (.cons 2 (.node (.cons 6 (.node (.cons 8 .leaf .nil)) .nil)) .nil)) .nil))) .nil))) .nil))) (.cons 3 (.node (.cons 1 (.node (.cons 2 (.node (.cons 4 (.node (.cons 5 (.node (.cons 6 (.node (.cons 8 .leaf .nil)) .nil)) .nil)) .nil)) (.cons 4 (.node (.cons 2 (.node (.cons 5 (.node (.cons 6 (.node (.cons 8 .leaf .nil)) .nil)) .nil)) (.cons 5 (.node (.cons 2 (.node (.cons 6 (.node (.cons 8 .leaf .nil)) .nil)) .nil)) .nil))) .nil))) (.cons 4 (.node (.cons 1 (.node (.cons 2 (.node (.cons 5 (.node (.cons 6 (.node (.cons 8 .leaf .nil)) .nil)) .nil)) (.cons 5 (.node (.cons 2 (.node (.cons 6 (.node (.cons 8 .leaf .nil)) .nil)) .nil)) .nil))) (.cons 5 (.node (.cons 1 (.node (.cons 2 (.node (.cons 6 (.node (.cons 8 .leaf .nil)) .nil)) .nil)) .nil)) .nil))) .nil))) .nil))) (.cons 3 (.node (.cons 0 (.node (.cons 1 (.node (.cons 2 (.node (.cons 4 (.node (.cons 5 (.node (.cons 6 (.node (.cons 8 .leaf .nil)) .nil)) .nil)) .nil)) (.cons 4 (.node (.cons 2 (.node (.cons 5 (.node (.cons 6 (.node (.cons 8 .leaf .nil)) .nil)) .nil)) (.cons 5 (.node (.cons 2 (.node (.cons 6 (.node (.cons 8 .leaf .nil)) .nil)) .nil)) .nil))) .nil))) (.cons 4 (.node (.cons 1 (.node (.cons 2 (.node (.cons 5 (.node (.cons 6 (.node (.cons 8 .leaf .nil)) .nil)) .nil)) (.cons 5 (.node (.cons 2 (.node (.cons 6 (.node (.cons 8 .leaf .nil)) .nil)) .nil)) .nil))) (.cons 5 (.node (.cons 1 (.node (.cons 2 (.node (.cons 6 (.node (.cons 8 .leaf .nil)) .nil)) .nil)) .nil)) .nil))) .nil))) (.cons 4 (.node (.cons 0 (.node (.cons 1 (.node (.cons 2 (.node (.cons 5 (.node (.cons 6 (.node (.cons 8 .leaf .nil)) .nil)) .nil)) (.cons 5 (.node (.cons 2 (.node (.cons 6 (.node (.cons 8 .leaf .nil)) .nil)) .nil)) .nil))) (.cons 5 (.node (.cons 1 (.node (.cons 2 (.node (.cons 6 (.node (.cons 8 .leaf .nil)) .nil)) .nil)) .nil)) .nil))) (.cons 5 (.node (.cons 0 (.node (.cons 1 (.node (.cons 2 (.node (.cons 6 (.node (.cons 8 .leaf .nil)) .nil)) .nil)) .nil)) .nil)) .nil))) .nil))) .nil))) .nil))))
theorem fc_Apply (t : Tab) (d : Dl) (h : okTD t d) (hres : okTb (resT t d)) : FC Tryz.prog 8 [] [.agg (eTb t), .agg (eDl d)] (.ret (apOut t d)) := by
  have s1 := st_wr h
  have s2 := st_made h
  have s3 := st_row h
  have s4 := st_TC hres
  refine fcc2_of (fn := Tryz.f8) (r := 4) (q := 5) (i := 4) (C := tab [(21, c_wr t d), (22, c_made t d), (23, c_Clone 9 1), (24, c_row t d), (25, c_TC (resT t d))] [] [5001, 5004, 5005, 7005]) mixed (by kernel_rfl) (by kernel_rfl) rfl rfl tfTable (by kernel_rfl) (by intro ys h; cases h) ?_
  unfold eTb eDl
  simp +contextual (maxSteps := 5000000) only [go_sem, ↓reduceIte]
  refine M_join (fun _ : Unit => ⟨[(2, .loc 2 0), (3, .loc 3 0), (4, .loc 4 0), (6, .int .i64 (wrongF t d))], [(2, .blk (eTb t) false), (3, .blk (eDl d) false), (4, .blk [.nil, .nil] false)]⟩) (fun _ => True) ?_ ?_
  · simp +contextual (maxSteps := 5000000) only [go_sem, ↓reduceIte, c_wr, s1, eTb, eDl]
    exact ⟨(), trivial⟩
  intro _ _
  by_cases q1 : wrongF t d = 0
  · have e1 : apOut t d = if tchk (resT t d) ≠ 0 then .tup [tE, .int .i64 (tchk (resT t d))] else .tup [.agg (eTb (resT t d)), .int .i64 0] := by unfold apOut; rw [if_neg (fun h => h q1)]
    rw [e1]
    unfold eTb eDl
    simp +contextual (maxSteps := 5000000) only [go_sem, ↓reduceIte, q1]
    refine M_join (fun _ : Unit => ⟨[(3, .loc 3 0), (4, .loc 4 0), (7, .loc 7 0)], [(3, .blk (eDl d) false), (4, .blk [.nil, .nil] false), (7, .blk (eMk t d) false)]⟩) (fun _ => True) ?_ ?_
    · simp +contextual (maxSteps := 5000000) only [go_sem, ↓reduceIte, c_made, s2, eTb, eDl, eMk]
      exact ⟨(), trivial⟩
    intro _ _
    have hch : chkD d = 0 := by
      unfold wrongF at q1
      by_cases a : tchk t = 0
      · rw [if_neg (fun h => h a)] at q1
        by_cases b : chkD d = 0
        · exact b
        · rw [if_pos b] at q1; exact q1
      · rw [if_pos a] at q1; exact absurd q1 a
    have g := (chkD_zero d).1 hch
    have hn0 := g.rows.b0
    obtain ⟨n, hn⟩ : ∃ n : Nat, d.nb = n := ⟨d.nb.toNat, by omega⟩
    have hn2 := h.nb
    have hlB : d.B.length < 1000000000 := by have := h.dl.B; omega
    unfold eDl
    simp +contextual (maxSteps := 5000000) only [go_sem, ↓reduceIte]
    refine M_join (fun _ : Unit => ⟨[(3, .loc 3 0), (4, .loc 4 0), (7, .loc 7 0), (8, .loc 8 0)], [(3, .blk (eDl d) false), (4, .blk [.nil, .nil] false), (7, .blk (eMk t d) false), (8, .blk [.sl 1 (d.B.map eS), .vec 30 n] false), (30, .vec 22 1 (List.replicate n [.nil]) 0)]⟩) (fun _ => True) ?_ ?_
    · simp +contextual (maxSteps := 5000000) only [go_sem, ↓reduceIte]
      refine M_tree tree5 (by show chkTr _ _ _ _ = true; kernel_rfl) ?_
      unfold tree5
      have hex : (∃ _ : Unit, True) := ⟨(), trivial⟩
      have hnb2 : (n : Int) < 1099511627776 := by omega
      simp +contextual (maxSteps := 5000000) only [go_sem, ↓reduceIte, c_Clone, st_CloneS, eDl, eMk, hn, hex, hnb2, hlB]
    intro _ _
    have hn3 : d.nb.toNat = n := by omega
    have l1 : d.inss.length < 1000000 := h.dl.inss
    have l2 : d.rows.length < 1000000 := h.dl.rows
    generalize hM0 : (List.replicate n none : OR') = M0
    have hz : List.replicate n [D.nil] = M0.map eO := by rw [← hM0, List.map_replicate]; rfl
    have hM0l : M0.length = n := by rw [← hM0, List.length_replicate]
    have hfin : finO t d = rowO (nrow t d) (insO M0 d.inss) d.rows := by unfold finO; rw [hn3, hM0]
    rw [hz]
    unfold eDl
    simp +contextual (maxSteps := 5000000) only [go_sem, ↓reduceIte]
    refine fun _ => M_loopI (fun i : Nat => ⟨[(3, .loc 3 0), (4, .loc 4 0), (7, .loc 7 0), (8, .loc 8 0), (33, .sl 2 (d.inss.map eL)), (34, .int .i64 d.inss.length), (35, .int .i64 i)], [(3, .blk (eDl d) false), (4, .blk [.nil, .nil] false), (7, .blk (eMk t d) false), (8, .blk [.sl 1 (d.B.map eS), .vec 30 n] false), (30, .vec 22 1 ((insO M0 (d.inss.take i)).map eO) 0)]⟩) (fun i => d.inss.length - i) (fun i => i ≤ d.inss.length) 0 ?_ ?_
    · simp +contextual (maxSteps := 5000000) only [go_sem, ↓reduceIte, eDl, eMk, insO, setO, List.foldl_nil]
      rfl
    intro i hi
    by_cases hlt : i < d.inss.length
    · have hat := eL_at d.inss i hlt
      have ht : insO M0 (d.inss.take (i + 1)) = (insO M0 (d.inss.take i)).set (d.inss.getD i (0, [])).1.toNat (some (d.inss.getD i (0, [])).2) := setO_take hlt
      have hx := g.ins (getD_mem (d := ((0 : Int), ([] : List Str))) hlt)
      have hxl : (d.inss.getD i (0, [])).2.length < 1000000000 := h.cs _ (List.mem_append.2 (.inr (getD_mem (d := ((0 : Int), ([] : List Str))) hlt)))
      have hml : (insO M0 (d.inss.take i)).length = n := by unfold insO; rw [setO_len, hM0l]
      generalize d.inss.getD i (0, []) = x at hat ht hx hxl
      generalize insO M0 (d.inss.take i) = M1 at ht hml
      obtain ⟨k, hk⟩ : ∃ k : Nat, x.1 = k := ⟨x.1.toNat, by omega⟩
      rw [hk] at hat ht hx
      have hkn : k < n := by omega
      rw [Int.toNat_natCast] at ht
      have hdr := eO_drop (m := M1) (k := k) (by omega)
      simp +contextual (maxSteps := 5000000) only [go_sem, ↓reduceIte, hlt, hat, hkn, eDl, eMk, c_Clone, st_CloneS, gS, eO_set, hxl, hdr]
      exact ⟨hml, fun _ => ⟨by omega, fun _ => ⟨inR64 (by omega) (by omega), fun _ => ⟨i + 1, ⟨by simp, by rw [ht]⟩, by omega, by omega⟩⟩⟩⟩
    obtain rfl : i = d.inss.length := by omega
    simp +contextual (maxSteps := 5000000) only [go_sem, ↓reduceIte, hlt, Nat.lt_irrefl, List.take_length, eDl]
    clear hlt hi
    generalize hM1 : insO M0 d.inss = M1 at hfin
    have hM1l : M1.length = n := by rw [← hM1]; unfold insO; rw [setO_len, hM0l]
    refine fun _ => M_loopI (fun i : Nat => ⟨[(4, .loc 4 0), (7, .loc 7 0), (8, .loc 8 0), (11, .fn 24 [] []), (49, .sl 2 (d.rows.map eP)), (50, .int .i64 d.rows.length), (51, .int .i64 i)], [(4, .blk [.nil, .nil] false), (7, .blk (eMk t d) false), (8, .blk [.sl 1 (d.B.map eS), .vec 30 n] false), (30, .vec 22 1 ((rowO (nrow t d) M1 (d.rows.take i)).map eO) 0)]⟩) (fun i => d.rows.length - i) (fun i => i ≤ d.rows.length) 0 ?_ ?_
    · simp +contextual (maxSteps := 5000000) only [go_sem, ↓reduceIte, rowO, setO, List.foldl_nil, eMk]
      rfl
    intro i hi
    by_cases hlt : i < d.rows.length
    · have hat := eP_at d.rows i hlt
      have ht : rowO (nrow t d) M1 (d.rows.take (i + 1)) = (rowO (nrow t d) M1 (d.rows.take i)).set (d.rows.getD i (0, 0)).2.toNat (some (nrow t d (d.rows.getD i (0, 0)).1 (d.rows.getD i (0, 0)).2)) := setO_take (f := fun p : Int × Int => p.2) (v := fun p => nrow t d p.1 p.2) (dd := ((0 : Int), (0 : Int))) hlt
      have hx := g.row (getD_mem (d := ((0 : Int), (0 : Int))) hlt)
      have hml : (rowO (nrow t d) M1 (d.rows.take i)).length = n := by unfold rowO; rw [setO_len, hM1l]
      generalize d.rows.getD i (0, 0) = x at hat ht hx
      generalize rowO (nrow t d) M1 (d.rows.take i) = M2 at ht hml
      obtain ⟨k, hk⟩ : ∃ k : Nat, x.2 = k := ⟨x.2.toNat, by omega⟩
      rw [hk] at hat ht hx
      have hkn : k < n := by omega
      rw [Int.toNat_natCast] at ht
      have hdr := eO_drop (m := M2) (k := k) (by omega)
      simp +contextual (maxSteps := 5000000) only [go_sem, ↓reduceIte, hlt, hat, hkn, eMk, c_row, s3, gS, eO_set, hdr]
      exact ⟨hml, fun _ => ⟨by omega, fun _ => ⟨inR64 (by omega) (by omega), fun _ => ⟨i + 1, ⟨by simp, by rw [ht]⟩, by omega, by omega⟩⟩⟩⟩
    obtain rfl : i = d.rows.length := by omega
    have hfull := g.full t
    rw [hfin] at hfull
    have hT : eTb (resT t d) = [.sl 1 (d.B.map eS), .sl 1 ((resT t d).2.map eR)] := rfl
    have hrl : (resT t d).2.length = n := by
      have := congrArg List.length hfull
      rw [List.length_map, List.length_map] at this
      unfold rowO at this
      rw [setO_len, hM1l] at this
      exact this.symm
    by_cases q5 : tchk (resT t d) = 0
    · simp +contextual (maxSteps := 5000000) only [go_sem, ↓reduceIte, hlt, Nat.lt_irrefl, List.take_length, hfull, c_TC, s4, hT, q5, hrl, finC2, finCB2, locR]
      rfl
    · unfold tE
      simp +contextual (maxSteps := 5000000) only [go_sem, ↓reduceIte, hlt, Nat.lt_irrefl, List.take_length, hfull, c_TC, s4, hT, q5, hrl, finC2, finCB2, locR]
  · have e1 : apOut t d = .tup [tE, .int .i64 (wrongF t d)] := by unfold apOut; rw [if_pos q1]
    rw [e1]
    unfold tE
    simp +contextual (maxSteps := 5000000) only [go_sem, ↓reduceIte, q1, finC2, finCB2, locR]
end Go.Proofs.YtknkjakppikjeaaGreat

set_option linter.unusedSimpArgs false
namespace Go.Proofs.YtknkjakppikjeaaGreat
open Go.Tn
set_option maxHeartbeats 8000000
set_option maxRecDepth 100000
def apE (t : Tab) (d : Dl) : Int := if wrongF t d ≠ 0 then wrongF t d else tchk (resT t d)
theorem ap_cases (t : Tab) (d : Dl) : (apE t d ≠ 0 ∧ apOut t d = .tup [.agg [.nil, .nil], .int .i64 (apE t d)]) ∨ (apE t d = 0 ∧ apOut t d = .tup [.agg (eTb (resT t d)), .int .i64 0]) := by
  unfold apE apOut tE
  by_cases a : wrongF t d = 0
  · by_cases b : tchk (resT t d) = 0
    · right; rw [if_neg (fun h => h a), if_neg (fun h => h a), if_neg (fun h => h b)]; exact ⟨b, rfl⟩
    · left; rw [if_neg (fun h => h a), if_neg (fun h => h a), if_pos b]; exact ⟨b, rfl⟩
  · left; rw [if_pos a, if_pos a]; exact ⟨a, rfl⟩
def c_ap (t : Tab) (d : Dl) (caps args : List D) : Prop × Out := match caps, args with | [], [x, y] => (x = .agg (eTb t) ∧ y = .agg (eDl d), .ret (apOut t d)) | _, _ => (False, .ret .any)
theorem st_ap {t : Tab} {d : Dl} (h : okTD t d) (hres : okTb (resT t d)) : StC Tryz.prog 8 (c_ap t d) := by
  intro caps args; unfold c_ap; split
  · rintro ⟨rfl, rfl⟩; exact fc_Apply t d h hres
  · exact fun h => h.elim
def c_DT (d : Dl) (caps args : List D) : Prop × Out := match caps, args with | [], [x] => (x = .agg (eDl d), .ret (.agg (eDl (turnD d)))) | _, _ => (False, .ret .any)
theorem st_DT {d : Dl} (h : okDl d) (hc : ∀ x ∈ d.dels ++ d.inss, x.2.length < 1000000000) : StC Tryz.prog 30 (c_DT d) := by
  intro caps args; unfold c_DT; split
  · rintro rfl; exact fc_DTurn d h hc
  · exact fun h => h.elim
theorem eDl_litY (d : Dl) : eDl d = [.sl 1 (d.A.map eS), .sl 1 (d.B.map eS), .sl 2 (d.cols.map eP), .int .i64 d.na, .int .i64 d.nb, .sl 2 (d.rows.map eP), .sl 2 (d.dels.map eL), .sl 2 (d.inss.map eL), .sl 6 (d.sets.map eD6), .sl 3 (d.lost.map eSp), .sl 3 (d.gain.map eSp)] := rfl
theorem fc_Back (t : Tab) (d : Dl) (h : okTD t d) (h2 : okTD t (turnD d)) (hres : okTb (resT t (turnD d))) : FC Tryz.prog 10 [] [.agg (eTb t), .agg (eDl d)] (.ret (apOut t (turnD d))) := by
  have s1 := st_ap h2 hres
  have s2 := st_DT h.dl h.cs
  refine fcc2_of (fn := Tryz.f10) (r := 4) (q := 5) (i := 4) (C := tab [(8, c_ap t (turnD d)), (30, c_DT d)] [] [5000]) mixed (by kernel_rfl) (by kernel_rfl) rfl rfl tfTable (by kernel_rfl) (by intro ys h; rcases ap_cases t (turnD d) with ⟨_, e⟩ | ⟨_, e⟩ <;> rw [e] at h <;> cases h) ?_
  generalize hT : turnD d = d2 at h2 hres s1 ⊢
  unfold eTb eDl
  simp +contextual (maxSteps := 5000000) only [go_sem, ↓reduceIte]
  refine M_join (fun _ : Unit => ⟨[(2, .loc 2 0), (3, .loc 3 0), (4, .loc 4 0)], [(2, .blk (eTb t) false), (3, .blk (eDl d) false), (4, .blk [.nil, .nil] false)]⟩) (fun _ => True) ?_ ?_
  · simp +contextual (maxSteps := 5000000) only [go_sem, ↓reduceIte, eTb, eDl]
    exact ⟨(), trivial⟩
  intro _ _
  have hd := eDl_litY d
  have hd2 := eDl_litY d2
  rcases ap_cases t d2 with ⟨_, e⟩ | ⟨_, e⟩
  · rw [e]
    simp +contextual (maxSteps := 5000000) only [go_sem, ↓reduceIte, c_ap, s1, c_DT, s2, eTb, hd, hT, hd2, e, finC2, finCB2, locR]
  · rw [e]
    simp +contextual (maxSteps := 5000000) only [go_sem, ↓reduceIte, c_ap, s1, c_DT, s2, eTb, hd, hT, hd2, e, finC2, finCB2, locR]
end Go.Proofs.YtknkjakppikjeaaGreat

set_option linter.unusedSimpArgs false
namespace Go.Proofs.YtknkjakppikjeaaGreat
open Go.Tn
set_option maxHeartbeats 8000000
set_option maxRecDepth 100000
def pR (d : D) : List (List D) := match d with | .sl _ rows => rows | _ => []
def dDl (r : List D) : Dl := match r with
  | [a, b, co, .int _ na, .int _ nb, ro, de, ins, se, lo, ga] => ⟨(pR a).map dS, (pR b).map dS, (pR co).map dP, na, nb, (pR ro).map dP, (pR de).map dL, (pR ins).map dL, (pR se).map d6, (pR lo).map dSp, (pR ga).map dSp⟩
  | _ => ⟨[], [], [], 0, 0, [], [], [], [], [], []⟩
theorem dDl_eDl (d : Dl) : dDl (eDl d) = d := by
  simp only [eDl, dDl, pR, dS_eS, dP_eP, dL_eL, d6_eD6, dSp_eSp]
def dTb (r : List D) : Tab := match r with | [h, l] => ((pR h).map dS, (pR l).map dR) | _ => ([], [])
theorem dTb_eTb (t : Tab) : dTb (eTb t) = t := by
  simp only [eTb, dTb, pR, dS_eS, dR_eR]
theorem wk_agg1 {r s : List D} (h : wkL r s) : wkL [.agg r] [.agg s] := by simp only [wkL, wk]; exact ⟨h, trivial⟩
theorem wk_agg2 {r s r' s' : List D} (h : wkL r s) (h' : wkL r' s') : wkL [.agg r, .agg r'] [.agg s, .agg s'] := by simp only [wkL, wk]; exact ⟨h, h', trivial⟩
structure okAp (r s : List D) (d : Dl) : Prop where
  wr : wkL r (eTb (dTb r))
  ws : wkL s (eDl (dDl s))
  ok : okTD (dTb r) d
  res : okTb (resT (dTb r) d)
def c_Ap (caps args : List D) : Prop × Out := match caps, args with | [], [.agg r, .agg s] => (okAp r s (dDl s), .ret (apOut (dTb r) (dDl s))) | _, _ => (False, .ret .any)
theorem nyi_ap {t : Tab} {d : Dl} : ∀ ys, Out.ret (apOut t d) ≠ .seq ys := by intro ys h; cases h
theorem st_Ap : StC Tryz.prog 8 c_Ap := by
  intro caps args; unfold c_Ap; split
  · exact fun h => fc_wk (wkL_self []) (wk_agg2 h.wr h.ws) (by intro ys h; cases h) (fc_Apply _ _ h.ok h.res)
  · exact fun h => h.elim
noncomputable def c_Bk (caps args : List D) : Prop × Out := match caps, args with | [], [.agg r, .agg s] => (okAp r s (turnD (dDl s)) ∧ okTD (dTb r) (dDl s), .ret (apOut (dTb r) (turnD (dDl s)))) | _, _ => (False, .ret .any)
theorem st_Bk : StC Tryz.prog 10 c_Bk := by
  intro caps args; unfold c_Bk; split
  · exact fun h => fc_wk (wkL_self []) (wk_agg2 h.1.wr h.1.ws) (by intro ys h; cases h) (fc_Back _ _ h.2 h.1.ok h.1.res)
  · exact fun h => h.elim
def c_Hld (caps args : List D) : Prop × Out := match caps, args with | [], [.agg r, .agg s] => (wkL r (eTb (dTb r)) ∧ wkL s (eDl (dDl s)) ∧ okDl (dDl s), .ret (.bool (heldF (dTb r) (dDl s)))) | _, _ => (False, .ret .any)
theorem st_Hld : StC Tryz.prog 14 c_Hld := by
  intro caps args; unfold c_Hld; split
  · exact fun h => fc_wk (wkL_self []) (wk_agg2 h.1 h.2.1) (by intro ys h; cases h) (fc_Held _ _ h.2.2)
  · exact fun h => h.elim
def c_rTS (caps args : List D) : Prop × Out := match caps, args with | [], [.agg r, .agg s] => (wkL r (eTb (dTb r)) ∧ wkL s (eTb (dTb s)), .ret (.bool (sameT (dTb r) (dTb s)))) | _, _ => (False, .ret .any)
theorem st_rTS : StC Tryz.prog 12 c_rTS := by
  intro caps args; unfold c_rTS; split
  · exact fun h => fc_wk (wkL_self []) (wk_agg2 h.1 h.2) (by intro ys h; cases h) (fc_rTSame _ _)
  · exact fun h => h.elim
def c_fewT (caps args : List D) : Prop × Out := match caps, args with | [], [.agg r] => (wkL r (eTb (dTb r)) ∧ slen (dTb r).1 + rlen (dTb r).2 < 2000000000, .ret (.bool (few4 (dTb r)))) | _, _ => (False, .ret .any)
theorem st_fewT : StC Tryz.prog 6 c_fewT := by
  intro caps args; unfold c_fewT; split
  · exact fun h => fc_wk (wkL_self []) (wk_agg1 h.1) (by intro ys h; cases h) (fc_few4 _ h.2)
  · exact fun h => h.elim
def c_fewD (caps args : List D) : Prop × Out := match caps, args with | [], [.agg r] => (wkL r (eDl (dDl r)) ∧ okT (dDl r), .ret (.bool (fewF (dDl r)))) | _, _ => (False, .ret .any)
theorem st_fewD : StC Tryz.prog 7 c_fewD := by
  intro caps args; unfold c_fewD; split
  · exact fun h => fc_wk (wkL_self []) (wk_agg1 h.1) (by intro ys h; cases h) (fc_Few _ h.2)
  · exact fun h => h.elim
/- the literals of works -/
abbrev lH : D := .sl 1 [[.str [107]], [.str [118]]]
abbrev lA : List D := [lH, .sl 1 [[.sl 1 [[.str [49]], [.str [120]]]]]]
abbrev lB : List D := [lH, .sl 1 [[.sl 1 [[.str [49]], [.str [121]]]]]]
abbrev lC : List D := [lH, .sl 1 [[.sl 1 [[.str [49]], [.str [122]]]]]]
abbrev lD : List D := [lH, lH, .sl 2 [[.int .i64 0, .int .i64 0], [.int .i64 1, .int .i64 1]], .int .i64 1, .int .i64 1, .sl 2 [[.int .i64 0, .int .i64 0]], .nil, .nil, .sl 6 [[.int .i64 0, .int .i64 0, .int .i64 1, .int .i64 1, .str [120], .str [121]]], .nil, .nil]
abbrev lI : List D := [.sl 1 [[.str [107]]], .nil]
abbrev lJ : List D := [lH, .nil]
def tA : Tab := ([[107], [118]], [[[49], [120]]])
def tB : Tab := ([[107], [118]], [[[49], [121]]])
def tC : Tab := ([[107], [118]], [[[49], [122]]])
def tI : Tab := ([[107]], [])
def tJ : Tab := ([[107], [118]], [])
def dD : Dl := ⟨[[107], [118]], [[107], [118]], [(0, 0), (1, 1)], 1, 1, [(0, 0)], [], [], [⟨0, 0, 1, 1, [120], [121]⟩], [], []⟩
def dE : Dl := ⟨[[107], [118]], [[107], [118]], [(0, 0), (1, 1)], 1, 1, [(0, 0)], [], [], [⟨0, 0, 1, 1, [121], [120]⟩], [], []⟩
theorem xA : dTb lA = tA := rfl
theorem xB : dTb lB = tB := rfl
theorem xC : dTb lC = tC := rfl
theorem xI : dTb lI = tI := rfl
theorem xJ : dTb lJ = tJ := rfl
theorem xD : dDl lD = dD := rfl
theorem xE : turnD dD = dE := by
  have h1 : turnP [(0, 0)] = [(0, 0)] := Ps.srt_id (by simp)
  have h3 : turnP [(0, 0), (1, 1)] = [(0, 0), (1, 1)] := Ps.srt_id (by simp [leB, sw])
  have h2 : turnSs [⟨0, 0, 1, 1, [120], [121]⟩] = [⟨0, 0, 1, 1, [121], [120]⟩] := Ps.srt_id (by simp)
  unfold turnD dD
  simp only [h1, h2, h3]
  rfl
theorem wA : wkL lA (eTb tA) := by simp [wkL, wk, eTb, tA, eS, eR]
theorem wB : wkL lB (eTb tB) := by simp [wkL, wk, eTb, tB, eS, eR]
theorem wC : wkL lC (eTb tC) := by simp [wkL, wk, eTb, tC, eS, eR]
theorem wI : wkL lI (eTb tI) := by simp [wkL, wk, eTb, tI, eS, eR]
theorem wJ : wkL lJ (eTb tJ) := by simp [wkL, wk, eTb, tJ, eS, eR]
theorem wD : wkL lD (eDl dD) := by simp [wkL, wk, eDl, dD, eS, eP, eD6]
theorem r1 : resT tA dD = tB := by decide +kernel
theorem r2 : resT tB dE = tA := by decide +kernel
theorem v1 : wrongF tA dD = 0 ∧ tchk tB = 0 := by decide +kernel
theorem v2 : wrongF tB dE = 0 ∧ tchk tA = 0 := by decide +kernel
theorem v3 : wrongF tC dD = 16 := by decide +kernel
theorem v4 : wrongF tI dD = 14 := by decide +kernel
theorem v5 : wrongF tJ dD = 15 := by decide +kernel
theorem tdD {t : Tab} (h : okTb t) : okTD t dD := ⟨h, by constructor <;> decide +kernel, by decide +kernel, by decide +kernel, by decide +kernel⟩
theorem tdE {t : Tab} (h : okTb t) : okTD t dE := ⟨h, by constructor <;> decide +kernel, by decide +kernel, by decide +kernel, by decide +kernel⟩
theorem bA : okTb tA := by constructor <;> decide +kernel
theorem bB : okTb tB := by constructor <;> decide +kernel
theorem bC : okTb tC := by constructor <;> decide +kernel
theorem bI : okTb tI := by constructor <;> decide +kernel
theorem bJ : okTb tJ := by constructor <;> decide +kernel
theorem o1 : okAp lA lD (dDl lD) := ⟨wA, wD, tdD bA, by rw [xA, xD, r1]; exact bB⟩
theorem o2 : okAp lB lD (turnD (dDl lD)) ∧ okTD (dTb lB) (dDl lD) := ⟨⟨wB, wD, by rw [xD, xE]; exact tdE bB, by rw [xB, xD, xE, r2]; exact bA⟩, tdD bB⟩
theorem o3 : okAp lC lD (dDl lD) := ⟨wC, wD, tdD bC, by constructor <;> decide +kernel⟩
theorem o4 : okAp lI lD (dDl lD) := ⟨wI, wD, tdD bI, by constructor <;> decide +kernel⟩
theorem o5 : okAp lJ lD (dDl lD) := ⟨wJ, wD, tdD bJ, by constructor <;> decide +kernel⟩
theorem p1 : apOut (dTb lA) (dDl lD) = .tup [.agg lB, .int .i64 0] := by
  rw [xA, xD]; unfold apOut; rw [if_neg (by rw [v1.1]; simp), r1, if_neg (by rw [v1.2]; simp)]; rfl
theorem p2 : apOut (dTb lB) (turnD (dDl lD)) = .tup [.agg lA, .int .i64 0] := by
  rw [xB, xD, xE]; unfold apOut; rw [if_neg (by rw [v2.1]; simp), r2, if_neg (by rw [v2.2]; simp)]; rfl
theorem p3 : apOut (dTb lC) (dDl lD) = .tup [.agg [.nil, .nil], .int .i64 16] := by
  rw [xC, xD]; unfold apOut; rw [if_pos (by rw [v3]; simp), v3]; rfl
theorem p4 : apOut (dTb lI) (dDl lD) = .tup [.agg [.nil, .nil], .int .i64 14] := by
  rw [xI, xD]; unfold apOut; rw [if_pos (by rw [v4]; simp), v4]; rfl
theorem p5 : apOut (dTb lJ) (dDl lD) = .tup [.agg [.nil, .nil], .int .i64 15] := by
  rw [xJ, xD]; unfold apOut; rw [if_pos (by rw [v5]; simp), v5]; rfl
theorem h1 : heldF (dTb lA) (dDl lD) = true := by decide +kernel
theorem h2 : heldF (dTb lC) (dDl lD) = false := by decide +kernel
theorem e1 : sameT (dTb lB) (dTb lB) = true := by rw [sameT_iff]
theorem e2 : sameT (dTb lA) (dTb lA) = true := by rw [sameT_iff]
theorem g1 : wkL lA (eTb (dTb lA)) := wA
theorem g2 : wkL lB (eTb (dTb lB)) := wB
theorem g3 : (wkL lA (eTb (dTb lA)) ∧ wkL lD (eDl (dDl lD)) ∧ okDl (dDl lD)) := ⟨wA, wD, (tdD bA).dl⟩
theorem g4 : (wkL lC (eTb (dTb lC)) ∧ wkL lD (eDl (dDl lD)) ∧ okDl (dDl lD)) := ⟨wC, wD, (tdD bA).dl⟩
end Go.Proofs.YtknkjakppikjeaaGreat

set_option linter.unusedSimpArgs false
namespace Go.Proofs.YtknkjakppikjeaaGreat
open Go.Tn
set_option maxHeartbeats 8000000
set_option maxRecDepth 100000
theorem fc_works : FC Tryz.prog 5 [] [] (.ret (.bool true)) := by
  refine fc_M (fn := Tryz.f5) (C := (tab [(8, c_Ap), (10, c_Bk), (14, c_Hld), (12, c_rTS)] [] [5001, 5002, 5003, 5004, 5005, 5006, 5007, 5008, 5009, 5010])) (rs := [0]) mixed (by kernel_rfl) (by kernel_rfl) rfl rfl (by kernel_rfl) (by intro ys h; cases h) ?_
  simp +contextual (maxSteps := 5000000) only [go_sem, ↓reduceIte]
  refine M_join (fun _ : Unit => ⟨[(1, .loc 1 0)], [(1, .blk [.vec 16 2, .vec 18 1] false), (16, .vec 9 1 [[.str [107]], [.str [118]]] 0), (18, .vec 22 1 [[.sl 1 [[.str [49]], [.str [120]]]]] 0)]⟩) (fun _ => True) ?_ ?_
  · simp +contextual (maxSteps := 5000000) only [go_sem, ↓reduceIte, Int.reduceEq, Int.reduceNe, Int.reduceLT, Int.reduceLE, Int.reduceToNat, Int.cast_ofNat_Int]
    exact ⟨(), trivial⟩
  intro _ _
  simp +contextual (maxSteps := 5000000) only [go_sem, ↓reduceIte]
  refine M_join (fun _ : Unit => ⟨[(1, .loc 1 0), (2, .loc 2 0)], [(1, .blk [.vec 16 2, .vec 18 1] false), (16, .vec 9 1 [[.str [107]], [.str [118]]] 0), (18, .vec 22 1 [[.sl 1 [[.str [49]], [.str [120]]]]] 0), (2, .blk [.vec 20 2, .vec 22 1] false), (20, .vec 9 1 [[.str [107]], [.str [118]]] 0), (22, .vec 22 1 [[.sl 1 [[.str [49]], [.str [121]]]]] 0)]⟩) (fun _ => True) ?_ ?_
  · simp +contextual (maxSteps := 5000000) only [go_sem, ↓reduceIte, Int.reduceEq, Int.reduceNe, Int.reduceLT, Int.reduceLE, Int.reduceToNat, Int.cast_ofNat_Int]
    exact ⟨(), trivial⟩
  intro _ _
  simp +contextual (maxSteps := 5000000) only [go_sem, ↓reduceIte]
  refine M_join (fun _ : Unit => ⟨[(1, .loc 1 0), (2, .loc 2 0), (3, .loc 3 0)], [(1, .blk [.vec 16 2, .vec 18 1] false), (16, .vec 9 1 [[.str [107]], [.str [118]]] 0), (18, .vec 22 1 [[.sl 1 [[.str [49]], [.str [120]]]]] 0), (2, .blk [.vec 20 2, .vec 22 1] false), (20, .vec 9 1 [[.str [107]], [.str [118]]] 0), (22, .vec 22 1 [[.sl 1 [[.str [49]], [.str [121]]]]] 0), (3, .blk [.vec 24 2, .vec 26 1] false), (24, .vec 9 1 [[.str [107]], [.str [118]]] 0), (26, .vec 22 1 [[.sl 1 [[.str [49]], [.str [122]]]]] 0)]⟩) (fun _ => True) ?_ ?_
  · simp +contextual (maxSteps := 5000000) only [go_sem, ↓reduceIte, Int.reduceEq, Int.reduceNe, Int.reduceLT, Int.reduceLE, Int.reduceToNat, Int.cast_ofNat_Int]
    exact ⟨(), trivial⟩
  intro _ _
  simp +contextual (maxSteps := 5000000) only [go_sem, ↓reduceIte]
  refine M_join (fun _ : Unit => ⟨[(1, .loc 1 0), (2, .loc 2 0), (3, .loc 3 0), (4, .loc 4 0)], [(1, .blk [.vec 16 2, .vec 18 1] false), (16, .vec 9 1 [[.str [107]], [.str [118]]] 0), (18, .vec 22 1 [[.sl 1 [[.str [49]], [.str [120]]]]] 0), (2, .blk [.vec 20 2, .vec 22 1] false), (20, .vec 9 1 [[.str [107]], [.str [118]]] 0), (22, .vec 22 1 [[.sl 1 [[.str [49]], [.str [121]]]]] 0), (3, .blk [.vec 24 2, .vec 26 1] false), (24, .vec 9 1 [[.str [107]], [.str [118]]] 0), (26, .vec 22 1 [[.sl 1 [[.str [49]], [.str [122]]]]] 0), (4, .blk [.vec 16 2, .vec 16 2, .vec 34 2, .int .i64 1, .int .i64 1, .vec 36 1, .nil, .nil, .vec 38 1, .nil, .nil] false), (34, .vec 45 2 [[.int .i64 0, .int .i64 0], [.int .i64 1, .int .i64 1]] 0), (36, .vec 45 2 [[.int .i64 0, .int .i64 0]] 0), (38, .vec 47 6 [[.int .i64 0, .int .i64 0, .int .i64 1, .int .i64 1, .str [120], .str [121]]] 0)]⟩) (fun _ => True) ?_ ?_
  · simp +contextual (maxSteps := 5000000) only [go_sem, ↓reduceIte, Int.reduceEq, Int.reduceNe, Int.reduceLT, Int.reduceLE, Int.reduceToNat, Int.cast_ofNat_Int]
    exact ⟨(), trivial⟩
  intro _ _
  simp +contextual (maxSteps := 5000000) only [go_sem, ↓reduceIte]
  refine M_join (fun _ : Unit => ⟨[(1, .loc 1 0), (2, .loc 2 0), (3, .loc 3 0), (4, .loc 4 0), (5, .loc 5 0), (6, .int .i64 0)], [(1, .blk [.vec 16 2, .vec 18 1] false), (16, .vec 9 1 [[.str [107]], [.str [118]]] 2), (18, .vec 22 1 [[.sl 1 [[.str [49]], [.str [120]]]]] 1), (2, .blk [.vec 20 2, .vec 22 1] false), (20, .vec 9 1 [[.str [107]], [.str [118]]] 0), (22, .vec 22 1 [[.sl 1 [[.str [49]], [.str [121]]]]] 0), (3, .blk [.vec 24 2, .vec 26 1] false), (24, .vec 9 1 [[.str [107]], [.str [118]]] 0), (26, .vec 22 1 [[.sl 1 [[.str [49]], [.str [122]]]]] 0), (4, .blk [.vec 16 2, .vec 16 2, .vec 34 2, .int .i64 1, .int .i64 1, .vec 36 1, .nil, .nil, .vec 38 1, .nil, .nil] false), (34, .vec 45 2 [[.int .i64 0, .int .i64 0], [.int .i64 1, .int .i64 1]] 2), (36, .vec 45 2 [[.int .i64 0, .int .i64 0]] 1), (38, .vec 47 6 [[.int .i64 0, .int .i64 0, .int .i64 1, .int .i64 1, .str [120], .str [121]]] 1), (5, .blk lB false)]⟩) (fun _ => True) ?_ ?_
  · simp +contextual (maxSteps := 5000000) only [go_sem, ↓reduceIte, Int.reduceEq, Int.reduceNe, Int.reduceLT, Int.reduceLE, Int.reduceToNat, Int.cast_ofNat_Int, c_Ap, st_Ap, o1, p1]
    exact ⟨(), trivial⟩
  intro _ _
  simp +contextual (maxSteps := 5000000) only [go_sem, ↓reduceIte]
  refine M_join (fun _ : Unit => ⟨[(1, .loc 1 0), (2, .loc 2 0), (3, .loc 3 0), (4, .loc 4 0), (5, .loc 5 0), (6, .int .i64 0), (7, .loc 7 0), (8, .int .i64 0)], [(1, .blk [.vec 16 2, .vec 18 1] false), (16, .vec 9 1 [[.str [107]], [.str [118]]] 2), (18, .vec 22 1 [[.sl 1 [[.str [49]], [.str [120]]]]] 1), (2, .blk [.vec 20 2, .vec 22 1] false), (20, .vec 9 1 [[.str [107]], [.str [118]]] 2), (22, .vec 22 1 [[.sl 1 [[.str [49]], [.str [121]]]]] 1), (3, .blk [.vec 24 2, .vec 26 1] false), (24, .vec 9 1 [[.str [107]], [.str [118]]] 0), (26, .vec 22 1 [[.sl 1 [[.str [49]], [.str [122]]]]] 0), (4, .blk [.vec 16 2, .vec 16 2, .vec 34 2, .int .i64 1, .int .i64 1, .vec 36 1, .nil, .nil, .vec 38 1, .nil, .nil] false), (34, .vec 45 2 [[.int .i64 0, .int .i64 0], [.int .i64 1, .int .i64 1]] 2), (36, .vec 45 2 [[.int .i64 0, .int .i64 0]] 1), (38, .vec 47 6 [[.int .i64 0, .int .i64 0, .int .i64 1, .int .i64 1, .str [120], .str [121]]] 1), (5, .blk lB false), (7, .blk lA false)]⟩) (fun _ => True) ?_ ?_
  · simp +contextual (maxSteps := 5000000) only [go_sem, ↓reduceIte, Int.reduceEq, Int.reduceNe, Int.reduceLT, Int.reduceLE, Int.reduceToNat, Int.cast_ofNat_Int, c_Bk, st_Bk, o2, p2]
    exact ⟨(), trivial⟩
  intro _ _
  simp +contextual (maxSteps := 5000000) only [go_sem, ↓reduceIte]
  refine M_join (fun _ : Unit => ⟨[(1, .loc 1 0), (2, .loc 2 0), (3, .loc 3 0), (4, .loc 4 0), (5, .loc 5 0), (6, .int .i64 0), (7, .loc 7 0), (8, .int .i64 0), (10, .int .i64 16)], [(1, .blk [.vec 16 2, .vec 18 1] false), (16, .vec 9 1 [[.str [107]], [.str [118]]] 2), (18, .vec 22 1 [[.sl 1 [[.str [49]], [.str [120]]]]] 1), (2, .blk [.vec 20 2, .vec 22 1] false), (20, .vec 9 1 [[.str [107]], [.str [118]]] 2), (22, .vec 22 1 [[.sl 1 [[.str [49]], [.str [121]]]]] 1), (3, .blk [.vec 24 2, .vec 26 1] false), (24, .vec 9 1 [[.str [107]], [.str [118]]] 2), (26, .vec 22 1 [[.sl 1 [[.str [49]], [.str [122]]]]] 1), (4, .blk [.vec 16 2, .vec 16 2, .vec 34 2, .int .i64 1, .int .i64 1, .vec 36 1, .nil, .nil, .vec 38 1, .nil, .nil] false), (34, .vec 45 2 [[.int .i64 0, .int .i64 0], [.int .i64 1, .int .i64 1]] 2), (36, .vec 45 2 [[.int .i64 0, .int .i64 0]] 1), (38, .vec 47 6 [[.int .i64 0, .int .i64 0, .int .i64 1, .int .i64 1, .str [120], .str [121]]] 1), (5, .blk lB false), (7, .blk lA false)]⟩) (fun _ => True) ?_ ?_
  · simp +contextual (maxSteps := 5000000) only [go_sem, ↓reduceIte, Int.reduceEq, Int.reduceNe, Int.reduceLT, Int.reduceLE, Int.reduceToNat, Int.cast_ofNat_Int, c_Ap, st_Ap, o3, p3]
    exact ⟨(), trivial⟩
  intro _ _
  simp +contextual (maxSteps := 5000000) only [go_sem, ↓reduceIte]
  refine M_join (fun _ : Unit => ⟨[(1, .loc 1 0), (2, .loc 2 0), (3, .loc 3 0), (4, .loc 4 0), (5, .loc 5 0), (6, .int .i64 0), (7, .loc 7 0), (8, .int .i64 0), (10, .int .i64 16), (12, .int .i64 14)], [(1, .blk [.vec 16 2, .vec 18 1] false), (16, .vec 9 1 [[.str [107]], [.str [118]]] 2), (18, .vec 22 1 [[.sl 1 [[.str [49]], [.str [120]]]]] 1), (2, .blk [.vec 20 2, .vec 22 1] false), (20, .vec 9 1 [[.str [107]], [.str [118]]] 2), (22, .vec 22 1 [[.sl 1 [[.str [49]], [.str [121]]]]] 1), (3, .blk [.vec 24 2, .vec 26 1] false), (24, .vec 9 1 [[.str [107]], [.str [118]]] 2), (26, .vec 22 1 [[.sl 1 [[.str [49]], [.str [122]]]]] 1), (4, .blk [.vec 16 2, .vec 16 2, .vec 34 2, .int .i64 1, .int .i64 1, .vec 36 1, .nil, .nil, .vec 38 1, .nil, .nil] false), (34, .vec 45 2 [[.int .i64 0, .int .i64 0], [.int .i64 1, .int .i64 1]] 2), (36, .vec 45 2 [[.int .i64 0, .int .i64 0]] 1), (38, .vec 47 6 [[.int .i64 0, .int .i64 0, .int .i64 1, .int .i64 1, .str [120], .str [121]]] 1), (5, .blk lB false), (7, .blk lA false)]⟩) (fun _ => True) ?_ ?_
  · simp +contextual (maxSteps := 5000000) only [go_sem, ↓reduceIte, Int.reduceEq, Int.reduceNe, Int.reduceLT, Int.reduceLE, Int.reduceToNat, Int.cast_ofNat_Int, c_Ap, st_Ap, o4, p4]
    exact ⟨(), trivial⟩
  intro _ _
  simp +contextual (maxSteps := 5000000) only [go_sem, ↓reduceIte]
  refine M_join (fun _ : Unit => ⟨[(1, .loc 1 0), (2, .loc 2 0), (3, .loc 3 0), (4, .loc 4 0), (5, .loc 5 0), (6, .int .i64 0), (7, .loc 7 0), (8, .int .i64 0), (10, .int .i64 16), (12, .int .i64 14), (14, .int .i64 15)], [(1, .blk [.vec 16 2, .vec 18 1] false), (16, .vec 9 1 [[.str [107]], [.str [118]]] 2), (18, .vec 22 1 [[.sl 1 [[.str [49]], [.str [120]]]]] 1), (2, .blk [.vec 20 2, .vec 22 1] false), (20, .vec 9 1 [[.str [107]], [.str [118]]] 2), (22, .vec 22 1 [[.sl 1 [[.str [49]], [.str [121]]]]] 1), (3, .blk [.vec 24 2, .vec 26 1] false), (24, .vec 9 1 [[.str [107]], [.str [118]]] 2), (26, .vec 22 1 [[.sl 1 [[.str [49]], [.str [122]]]]] 1), (4, .blk [.vec 16 2, .vec 16 2, .vec 34 2, .int .i64 1, .int .i64 1, .vec 36 1, .nil, .nil, .vec 38 1, .nil, .nil] false), (34, .vec 45 2 [[.int .i64 0, .int .i64 0], [.int .i64 1, .int .i64 1]] 2), (36, .vec 45 2 [[.int .i64 0, .int .i64 0]] 1), (38, .vec 47 6 [[.int .i64 0, .int .i64 0, .int .i64 1, .int .i64 1, .str [120], .str [121]]] 1), (5, .blk lB false), (7, .blk lA false)]⟩) (fun _ => True) ?_ ?_
  · simp +contextual (maxSteps := 5000000) only [go_sem, ↓reduceIte, Int.reduceEq, Int.reduceNe, Int.reduceLT, Int.reduceLE, Int.reduceToNat, Int.cast_ofNat_Int, c_Ap, st_Ap, o5, p5]
    exact ⟨(), trivial⟩
  intro _ _
  simp +contextual (maxSteps := 5000000) only [go_sem, ↓reduceIte]
  refine M_join (fun _ : Unit => ⟨[(1, .loc 1 0), (3, .loc 3 0), (4, .loc 4 0), (6, .int .i64 0), (8, .int .i64 0), (10, .int .i64 16), (12, .int .i64 14), (14, .int .i64 15), (15, .bool true)], [(1, .blk [.vec 16 2, .vec 18 1] false), (16, .vec 9 1 [[.str [107]], [.str [118]]] 2), (18, .vec 22 1 [[.sl 1 [[.str [49]], [.str [120]]]]] 1), (3, .blk [.vec 24 2, .vec 26 1] false), (24, .vec 9 1 [[.str [107]], [.str [118]]] 2), (26, .vec 22 1 [[.sl 1 [[.str [49]], [.str [122]]]]] 1), (4, .blk [.vec 16 2, .vec 16 2, .vec 34 2, .int .i64 1, .int .i64 1, .vec 36 1, .nil, .nil, .vec 38 1, .nil, .nil] false), (34, .vec 45 2 [[.int .i64 0, .int .i64 0], [.int .i64 1, .int .i64 1]] 2), (36, .vec 45 2 [[.int .i64 0, .int .i64 0]] 1), (38, .vec 47 6 [[.int .i64 0, .int .i64 0, .int .i64 1, .int .i64 1, .str [120], .str [121]]] 1)]⟩) (fun _ => True) ?_ ?_
  · simp +contextual (maxSteps := 5000000) only [go_sem, ↓reduceIte, Int.reduceEq, Int.reduceNe, Int.reduceLT, Int.reduceLE, Int.reduceToNat, Int.cast_ofNat_Int, c_rTS, st_rTS, e1, e2, g1, g2]
    exact ⟨(), trivial⟩
  intro _ _
  simp +contextual (maxSteps := 5000000) only [go_sem, ↓reduceIte, Int.reduceEq, Int.reduceNe, Int.reduceLT, Int.reduceLE, Int.reduceToNat, Int.cast_ofNat_Int, c_Hld, st_Hld, h1, h2, g3, g4]
end Go.Proofs.YtknkjakppikjeaaGreat

set_option linter.unusedSimpArgs false
namespace Go.Proofs.YtknkjakppikjeaaGreat
open Go.Tn
set_option maxHeartbeats 8000000
set_option maxRecDepth 100000
/- what few gives: sizes -/
theorem sum_le {l : List Str} {c : Nat} (h : ∀ s ∈ l, s.length ≤ c) : (l.map List.length).sum ≤ l.length * c := by
  induction l with
  | nil => simp
  | cons x l ih =>
    have h1 := ih (fun s hs => h s (List.mem_cons.2 (.inr hs)))
    have h2 := h x (by simp)
    rw [List.map_cons, List.sum_cons, List.length_cons, Nat.succ_mul]; omega
theorem flat_len {l : List (List Str)} {c : Nat} (h : ∀ r ∈ l, r.length ≤ c) : l.flatten.length ≤ l.length * c := by
  induction l with
  | nil => simp
  | cons x l ih =>
    have h1 := ih (fun s hs => h s (List.mem_cons.2 (.inr hs)))
    have h2 := h x (by simp)
    rw [List.flatten_cons, List.length_append, List.length_cons, Nat.succ_mul]; omega
theorem gup_mem {m : MP} {k : Int × Int} {v : Str} {x : (Int × Int) × Str} (h : x ∈ gup m k v) : x ∈ m ∨ x = (k, v) := by
  induction m with
  | nil => simp only [gup, List.mem_cons, List.not_mem_nil, or_false] at h; exact .inr h
  | cons y m ih =>
    simp only [gup] at h
    split at h
    · rcases List.mem_cons.1 h with h | h
      · exact .inr h
      · exact .inl (List.mem_cons.2 (.inr h))
    · rcases List.mem_cons.1 h with h | h
      · exact .inl (List.mem_cons.2 (.inl h))
      · rcases ih h with h | h
        · exact .inl (List.mem_cons.2 (.inr h))
        · exact .inr h
theorem glk_mem {m : MP} {k : Int × Int} : glk [] m k = [] ∨ ∃ x ∈ m, x.2 = glk [] m k := by
  induction m with
  | nil => exact .inl rfl
  | cons y m ih =>
    simp only [glk]
    split
    · exact .inr ⟨y, by simp, rfl⟩
    · rcases ih with h | ⟨x, hx, e⟩
      · exact .inl h
      · exact .inr ⟨x, List.mem_cons.2 (.inr hx), e⟩
theorem gainM_mem {l : List Sp} {m : MP} {x : (Int × Int) × Str} (h : x ∈ l.foldl (fun m x => gup m (x.1, x.2.1) x.2.2) m) : x ∈ m ∨ x.2 ∈ txP l := by
  induction l generalizing m with
  | nil => exact .inl h
  | cons y l ih =>
    rcases ih h with h | h
    · rcases gup_mem h with h | h
      · exact .inl h
      · exact .inr (by rw [h]; simp [txP])
    · exact .inr (by simp only [txP, List.map_cons, List.mem_cons] at h ⊢; exact .inr h)
theorem setM_mem {l : List St6} {m : MP} {x : (Int × Int) × Str} (h : x ∈ setM m l) : x ∈ m ∨ x.2 ∈ txS l := by
  unfold setM at h
  induction l generalizing m with
  | nil => exact .inl h
  | cons y l ih =>
    rcases ih h with h | h
    · rcases gup_mem h with h | h
      · exact .inl h
      · exact .inr (by rw [h]; simp [txS])
    · exact .inr (by simp only [txS, List.flatMap_cons, List.mem_append] at h ⊢; exact .inr h)
theorem setO_mem {β : Type} {f : β → Int} {v : β → List Str} : ∀ {l : List β} {m : OR'} {o : Option (List Str)}, o ∈ setO f v m l → o ∈ m ∨ ∃ x ∈ l, o = some (v x)
  | [], _, _, h => .inl h
  | x :: l, m, o, h => by
    rcases setO_mem (l := l) (m := m.set (f x).toNat (some (v x))) h with h | ⟨y, hy, e⟩
    · rcases List.mem_or_eq_of_mem_set h with h | h
      · exact .inl h
      · exact .inr ⟨x, by simp, h⟩
    · exact .inr ⟨y, by simp [hy], e⟩
structure Sm (d : Dl) : Prop where
  cnt : cntN d ≤ 300
  na : d.na ≤ 60
  nb : d.nb ≤ 60
  dels : (txL d.dels).length ≤ 2000
  inss : (txL d.inss).length ≤ 2000
  texts : ∀ s ∈ txF d, s.length ≤ 2000
theorem mxL_le {l : List Str} {s : Str} (h : s ∈ l) : s.length ≤ mxL l := by
  suffices ∀ (l : List Str) (n : Nat), n ≤ l.foldl (fun n s => max n s.length) n ∧ ∀ s ∈ l, s.length ≤ l.foldl (fun n s => max n s.length) n from (this l 0).2 s h
  intro l
  induction l with
  | nil => intro n; simp
  | cons x l ih =>
    intro n
    have := ih (max n x.length)
    refine ⟨by have := this.1; simp only [List.foldl_cons]; omega, fun s hs => ?_⟩
    rcases List.mem_cons.1 hs with rfl | hs
    · have := this.1; simp only [List.foldl_cons]; omega
    · exact this.2 s hs
theorem few_sm {d : Dl} (h : fewF d = true) : Sm d := by
  unfold fewF at h
  simp only [Bool.and_eq_true, decide_eq_true_eq] at h
  obtain ⟨⟨hn, h1, h2⟩, hm⟩ := h
  exact ⟨hn, h1, h2, by omega, by omega, fun s hs => by have := mxL_le hs; omega⟩
theorem txF_turn (d : Dl) (s : Str) : s ∈ txF (turnD d) ↔ s ∈ txF d := by
  have e1 : ∀ a b : List Ln, txL (a ++ b) = txL a ++ txL b := fun a b => by unfold txL; simp
  have e2 : ∀ a b : List Sp, txP (a ++ b) = txP a ++ txP b := fun a b => by unfold txP; simp
  have e3 : s ∈ txS (turnSs d.sets) ↔ s ∈ txS d.sets := by
    unfold txS turnSs
    simp only [List.mem_flatMap]
    constructor
    · rintro ⟨x, hx, hs⟩
      have hx := (perm_turnSs d.sets).mem_iff.1 hx
      obtain ⟨y, hy, rfl⟩ := List.mem_map.1 hx
      refine ⟨y, hy, ?_⟩
      simp only [turnS, List.mem_cons, List.not_mem_nil, or_false] at hs ⊢
      exact hs.symm
    · rintro ⟨x, hx, hs⟩
      refine ⟨turnS x, (perm_turnSs d.sets).mem_iff.2 (List.mem_map.2 ⟨x, hx, rfl⟩), ?_⟩
      simp only [turnS, List.mem_cons, List.not_mem_nil, or_false] at hs ⊢
      exact hs.symm
  unfold txF
  simp only [turnD, e1, e2, List.mem_append, e3]
  constructor <;> · rintro ((((h | h) | h | h) | h) | h | h) <;> simp [h]
theorem Sm.turn {d : Dl} (h : Sm d) : Sm (turnD d) := by
  have c := h.cnt
  refine ⟨?_, h.nb, h.na, h.inss, h.dels, fun s hs => h.texts s ((txF_turn d s).1 hs)⟩
  unfold cntN at c ⊢
  simp only [turnD, turnP_len, turnSs_len]
  omega
theorem line_le {l : List Ln} {x : Ln} (h : x ∈ l) : x.2.length ≤ (txL l).length := by
  unfold txL
  obtain ⟨a, b, rfl⟩ := List.append_of_mem h
  simp; omega
theorem Sm.okDl {d : Dl} (h : Sm d) : okDl d := by
  have c := h.cnt
  have := h.dels
  have := h.inss
  unfold cntN at c
  have hc : (txL (d.dels ++ d.inss)).length = (txL d.dels).length + (txL d.inss).length := by unfold txL; simp
  constructor <;> omega
theorem Sm.okTD {d : Dl} (h : Sm d) {t : Tab} (ht : okTb t) : okTD t d := by
  have := h.na
  have := h.nb
  refine ⟨ht, h.okDl, by omega, by omega, fun x hx => ?_⟩
  have := line_le hx
  have hc : (txL (d.dels ++ d.inss)).length = (txL d.dels).length + (txL d.inss).length := by unfold txL; simp
  have := h.dels
  have := h.inss
  omega
/- a table whose texts are small -/
structure SmT (t : Tab) : Prop where
  ok : okTb t
  texts : ∀ s ∈ alF t, s.length ≤ 8000
theorem cell_small {t : Tab} (h : SmT t) (i j : Int) : (cellF t i j).length ≤ 8000 := by
  unfold cellF
  split
  · simp
  · rename_i g
    refine h.texts _ ?_
    unfold alF
    refine List.mem_flatten.2 ⟨t.2.getD i.toNat [], List.mem_cons.2 (.inr (getD_mem (by omega))), getD_mem (by omega)⟩
theorem few3_sz : ∀ {l : List (List Str)} {n : Nat}, fewOut l n = true → ∀ r ∈ l, r.length ≤ 60
  | [], _, _, r, hr => by simp at hr
  | x :: l, n, h, r, hr => by
    simp only [fewOut] at h
    split at h
    · cases h
    · rename_i hx
      rcases List.mem_cons.1 hr with rfl | hr
      · omega
      · cases hf : fewIn x n with
        | none => rw [hf] at h; cases h
        | some m => rw [hf] at h; exact few3_sz (n := m) h r hr
theorem alF_sum (t : Tab) : ((alF t).map List.length).sum = slen t.1 + rlen t.2 := by
  have : ∀ l : List (List Str), (l.flatten.map List.length).sum = rlen l := by
    intro l
    induction l with
    | nil => rfl
    | cons x l ih => rw [List.flatten_cons, List.map_append, List.sum_append, ih]; rfl
  unfold alF
  rw [this]; rfl
theorem mem_sum {l : List Str} {s : Str} (h : s ∈ l) : s.length ≤ (l.map List.length).sum := by
  obtain ⟨a, b, rfl⟩ := List.append_of_mem h
  simp; omega
theorem few4_sm {t : Tab} (h : few4 t = true) : SmT t := by
  unfold few4 at h
  simp only [Bool.and_eq_true, decide_eq_true_eq] at h
  obtain ⟨⟨h1, h2⟩, h3⟩ := h
  have hs := alF_sum t
  unfold few3 at h1
  have hr : t.2.length ≤ 60 := by
    by_cases g : 60 < t.2.length
    · rw [if_pos g] at h1; cases h1
    · omega
  refine ⟨⟨by omega, by omega, by omega⟩, fun s hs' => ?_⟩
  have := mem_sum hs'
  omega
theorem resT_len (t : Tab) (d : Dl) : (resT t d).2.length = d.nb.toNat := by
  unfold resT finO rowO insO
  rw [List.length_map, setO_len, setO_len, List.length_replicate]
theorem ce_small {t : Tab} {d : Dl} (ht : SmT t) (h : Sm d) (i k q : Int) : (ceF t (toldM d) (fromM d.cols) i k q).length ≤ 8000 := by
  unfold ceF
  split
  · rcases glk_mem (m := toldM d) (k := (k, q)) with e | ⟨x, hx, e⟩
    · rw [e]; simp
    · rw [← e]
      have e2 : ∀ a b : List Sp, txP (a ++ b) = txP a ++ txP b := fun a b => by unfold txP; simp
      have : x.2 ∈ txF d := by
        unfold txF
        rw [e2]
        simp only [List.mem_append]
        rcases setM_mem hx with hx | hx
        · rcases gainM_mem hx with hx | hx
          · cases hx
          · exact .inr (.inr hx)
        · exact .inl (.inr hx)
      have := h.texts _ this
      omega
  · exact cell_small ht _ _
theorem res_rows {t : Tab} {d : Dl} (ht : SmT t) (h : Sm d) : ∀ r ∈ (resT t d).2, r.length ≤ 2000 ∧ ∀ s ∈ r, s.length ≤ 8000 := by
  intro r hr
  unfold resT at hr
  obtain ⟨o, ho, rfl⟩ := List.mem_map.1 hr
  unfold finO rowO at ho
  rcases setO_mem ho with ho | ⟨p, hp, rfl⟩
  · unfold insO at ho
    rcases setO_mem ho with ho | ⟨x, hx, rfl⟩
    · obtain ⟨_, rfl⟩ := List.mem_replicate.1 ho
      simp
    · have h1 := line_le hx
      have h2 := h.inss
      refine ⟨by simp only [Option.getD_some]; omega, fun s hs => ?_⟩
      have e1 : ∀ a b : List Ln, txL (a ++ b) = txL a ++ txL b := fun a b => by unfold txL; simp
      have : s ∈ txF d := by
        unfold txF
        rw [e1]
        simp only [List.mem_append]
        exact .inl (.inl (.inr (.inr (List.mem_flatMap.2 ⟨x, hx, hs⟩))))
      have := h.texts _ this
      omega
  · have c := h.cnt
    unfold cntN at c
    simp only [Option.getD_some]
    refine ⟨by unfold nrow rowF; rw [List.length_map, List.length_range]; omega, fun s hs => ?_⟩
    unfold nrow rowF at hs
    obtain ⟨q, _, rfl⟩ := List.mem_map.1 hs
    exact ce_small ht h _ _ _
theorem res_sm {t : Tab} {d : Dl} (ht : SmT t) (h : Sm d) : SmT (resT t d) := by
  have hr := res_rows ht h
  have hl := resT_len t d
  have c := h.cnt
  have hb := h.nb
  unfold cntN at c
  have htx : ∀ s ∈ alF (resT t d), s.length ≤ 8000 := by
    intro s hs
    unfold alF at hs
    obtain ⟨r, hr', hs⟩ := List.mem_flatten.1 hs
    rcases List.mem_cons.1 hr' with rfl | hr'
    · have : s ∈ txF d := by
        unfold txF
        simp only [List.mem_append]
        exact .inl (.inl (.inl (.inr hs)))
      have := h.texts _ this
      omega
    · exact (hr r hr').2 s hs
  have hB : (resT t d).1.length ≤ 300 := by show d.B.length ≤ 300; omega
  have h1 := sum_le htx
  have h2 : (alF (resT t d)).length ≤ 122000 := by
    unfold alF
    have := flat_len (l := (resT t d).1 :: (resT t d).2) (c := 2000) (fun r h' => by
      rcases List.mem_cons.1 h' with rfl | h'
      · omega
      · exact (hr r h').1)
    rw [List.length_cons] at this
    omega
  generalize resT t d = u at *
  refine ⟨⟨by omega, by omega, ?_⟩, htx⟩
  omega
theorem few_ap {t : Tab} {d : Dl} (h1 : few4 t = true) (h2 : fewF d = true) : okAp (eTb t) (eDl d) (dDl (eDl d)) := by
  rw [dDl_eDl]
  refine ⟨?_, ?_, ?_, ?_⟩
  · rw [dTb_eTb]; exact wkL_self _
  · rw [dDl_eDl]; exact wkL_self _
  · rw [dTb_eTb]; exact (few_sm h2).okTD (few4_sm h1).ok
  · rw [dTb_eTb]; exact (res_sm (few4_sm h1) (few_sm h2)).ok
end Go.Proofs.YtknkjakppikjeaaGreat

set_option linter.unusedSimpArgs false
namespace Go.Proofs.YtknkjakppikjeaaGreat
open Go.Tn
set_option maxHeartbeats 8000000
set_option maxRecDepth 100000
theorem tk1 {t : Tab} (h : t.1.length = 0) : tchk t = 8 := by
  have e : tc1 t = 8 := by unfold tc1; rw [if_neg (by omega)]
  unfold tchk; rw [e]; rfl
theorem tk2 {t : Tab} (h : 0 < t.1.length) {i : Nat} (hi : i < t.2.length) (h2 : (t.2.getD i []).length ≠ t.1.length) : tchk t = 9 := by
  have e : tc1 t = 0 := by unfold tc1; rw [if_pos h]
  have e2 : tc2 t = 9 := by unfold tc2; rw [if_pos (List.any_eq_true.2 ⟨_, getD_mem hi, decide_eq_true h2⟩)]
  unfold tchk; rw [e, e2]; rfl
theorem tk2' {t : Tab} (h : ∀ i, i < t.2.length → (t.2.getD i []).length = t.1.length) : tc2 t = 0 := by
  unfold tc2
  rw [if_neg]
  intro g
  obtain ⟨r, hr, e⟩ := List.any_eq_true.1 g
  obtain ⟨k, hk, rfl⟩ := List.getElem_of_mem hr
  have := h k hk
  rw [List.getD_eq_getElem?_getD, List.getElem?_eq_getElem hk, Option.getD_some] at this
  exact of_decide_eq_true e this
theorem tk3 {t : Tab} (h : 0 < t.1.length) (h2 : ∀ i, i < t.2.length → (t.2.getD i []).length = t.1.length) (h3 : onceF t.1 = false) : tchk t = 10 := by
  have e : tc1 t = 0 := by unfold tc1; rw [if_pos h]
  have e3 : tc3 t = 10 := by unfold tc3; rw [h3]; rfl
  unfold tchk; rw [e, tk2' h2, e3]; rfl
def bigT (t : Tab) : Bool := decide (40 < t.1.length) || decide (400 < t.2.length) || lonF t.1
theorem lon_iff (t : Tab) : (∃ s ∈ alF t, 1000 < s.length) ↔ (lonF t.1 || t.2.any lonF) = true := by
  unfold alF lonF
  simp only [List.flatten_cons, List.mem_append, List.mem_flatten, Bool.or_eq_true, List.any_eq_true, decide_eq_true_eq]
  constructor
  · rintro ⟨s, hs | ⟨r, hr, hs⟩, h⟩
    · exact .inl ⟨s, hs, h⟩
    · exact .inr ⟨r, hr, s, hs, h⟩
  · rintro (⟨s, hs, h⟩ | ⟨r, hr, s, hs, h⟩)
    · exact ⟨s, .inl hs, h⟩
    · exact ⟨s, .inr ⟨r, hr, hs⟩, h⟩
theorem tk4 {t : Tab} (h : 0 < t.1.length) (h2 : ∀ i, i < t.2.length → (t.2.getD i []).length = t.1.length) (h3 : onceF t.1 = true) : tchk t = if (bigT t || t.2.any lonF) = true then 7 else if 40000 < slen t.1 + rlen t.2 then 7 else 0 := by
  have e : tc1 t = 0 := by unfold tc1; rw [if_pos h]
  have e3 : tc3 t = 0 := by unfold tc3; rw [h3]; rfl
  have hs : totF (alF t) = slen t.1 + rlen t.2 := alF_sum t
  have hl := lon_iff t
  unfold tchk; rw [e, tk2' h2, e3]
  simp only [ne_eq, not_true_eq_false, if_false]
  unfold tc4 bigT
  rw [hs]
  by_cases q1 : 40 < t.1.length
  · rw [if_pos (.inl q1), decide_eq_true q1]; rfl
  by_cases q2 : 400 < t.2.length
  · rw [if_pos (.inr q2), decide_eq_true q2]; simp
  rw [if_neg (by omega), decide_eq_false q1, decide_eq_false q2]
  simp only [Bool.false_or]
  by_cases q3 : ∃ s ∈ alF t, 1000 < s.length
  · rw [if_pos q3, if_pos (hl.1 q3)]
  · rw [if_neg q3, if_neg (fun g => q3 (hl.2 g))]
    by_cases q4 : 40000 < slen t.1 + rlen t.2
    · rw [if_neg (by omega), if_pos q4]
    · rw [if_pos (by omega), if_neg q4]
theorem any_take {α : Type} {p : α → Bool} {l : List α} {i : Nat} {d : α} (h : i < l.length) : (l.take (i + 1)).any p = ((l.take i).any p || p (l.getD i d)) := by
  have e : l.take (i + 1) = l.take i ++ [l.getD i d] := by
    rw [List.take_add_one, List.getElem?_eq_getElem h, List.getD_eq_getElem?_getD, List.getElem?_eq_getElem h]; rfl
  rw [e, List.any_append, List.any_cons, List.any_nil, Bool.or_false]
def c_Fnd (t : Tab) (caps args : List D) : Prop × Out := match caps, args with | [], [x, .str s] => (x = .agg (eTb t), .ret (.int .i64 (fnd s t.1 0))) | _, _ => (False, .ret .any)
theorem st_Fnd (t : Tab) : StC Tryz.prog 65 (c_Fnd t) := by
  intro caps args; unfold c_Fnd; split
  · rintro rfl; exact fc_Find t _
  · exact fun h => h.elim
def c_lon (caps args : List D) : Prop × Out := match caps, args with | [], [.sl 1 l] => (l = (l.map dS).map eS, .ret (.bool (lonF (l.map dS)))) | _, _ => (False, .ret .any)
theorem st_lon : StC Tryz.prog 66 c_lon := by
  intro caps args; unfold c_lon; split
  · rename_i l
    intro h
    have := fc_long (l.map dS)
    rwa [← h] at this
  · exact fun h => h.elim
def c_Tot (t : Tab) (caps args : List D) : Prop × Out := match caps, args with | [], [x] => (x = .agg (eTb t) ∧ slen t.1 + rlen t.2 < 2000000000, .ret (.int .i64 (slen t.1 + rlen t.2 : Nat))) | _, _ => (False, .ret .any)
theorem st_Tot (t : Tab) : StC Tryz.prog 19 (c_Tot t) := by
  intro caps args; unfold c_Tot; split
  · rintro ⟨rfl, h⟩; exact fc_Total t h
  · exact fun h => h.elim
theorem fc_rTCheck (t : Tab) (h : okTb t) : FC Tryz.prog 26 [] [.agg (eTb t)] (.ret (.int .i64 (tchk t))) := by
  obtain ⟨hh, hr, ht⟩ := h
  rw [alF_sum] at ht
  have hs1 := st_Fnd t
  have hs2 := st_Tot t
  have k1 := @tk1 t
  have k2 := @tk2 t
  have k3 := @tk3 t
  have k4 := @tk4 t
  obtain ⟨E, hE⟩ : ∃ E, tchk t = E := ⟨_, rfl⟩
  rw [hE] at k1 k3 k4 ⊢
  simp only [hE] at k2
  unfold eTb
  refine fc_M (fn := Tryz.f26) (C := (tab [(65, c_Fnd t), (66, c_lon), (19, c_Tot t)] [] [5013])) (rs := [2]) mixed (by kernel_rfl) (by kernel_rfl) rfl rfl (by kernel_rfl) (by intro ys h; cases h) ?_
  by_cases a1 : 0 < t.1.length
  rotate_left
  · have a1' : (t.1.length : Int) = 0 := by omega
    obtain rfl := k1 (by omega)
    simp +contextual (maxSteps := 5000000) only [go_sem, ↓reduceIte, a1']
  have a1' : ¬ (t.1.length : Int) = 0 := by omega
  simp +contextual (maxSteps := 5000000) only [go_sem, ↓reduceIte, a1']
  refine fun _ => M_loopI (fun i : Nat => ⟨[(1, .loc 1 0), (3, .int .i64 i)], [(1, .blk (eTb t) false)]⟩) (fun i => t.2.length - i) (fun i => i ≤ t.2.length ∧ ∀ j, j < i → (t.2.getD j []).length = t.1.length) 0 ?_ ?_
  · simp +contextual (maxSteps := 5000000) only [go_sem, ↓reduceIte, eTb]
    rfl
  rintro i ⟨hi, hf⟩
  by_cases hlt : i < t.2.length
  · have hat := eR_at t.2 i hlt
    by_cases q : (t.2.getD i []).length = t.1.length
    · simp +contextual (maxSteps := 5000000) only [go_sem, ↓reduceIte, hlt, hat, q, eTb]
      refine fun _ => ⟨inR64 (by omega) (by omega), fun _ => ⟨i + 1, by simp, by omega, by omega, fun j hj => ?_⟩⟩
      rcases lt_cases hj with h | rfl
      · exact hf j h
      · exact q
    · obtain rfl := k2 a1 hlt q
      simp +contextual (maxSteps := 5000000) only [go_sem, ↓reduceIte, hlt, hat, q, eTb]
  have hw : ∀ i, i < t.2.length → (t.2.getD i []).length = t.1.length := fun j hj => hf j (by omega)
  have k3 := k3 a1 hw
  have k4 := k4 a1 hw
  clear k1 k2 hf hi
  simp +contextual (maxSteps := 5000000) only [go_sem, ↓reduceIte, hlt, eTb]
  clear hlt
  refine fun _ => M_loopI (fun i : Nat => ⟨[(1, .loc 1 0), (4, .int .i64 i)], [(1, .blk (eTb t) false)]⟩) (fun i => t.1.length - i) (fun i => i ≤ t.1.length ∧ ∀ j, j < i → fnd (t.1.getD j []) t.1 0 = j) 0 ?_ ?_
  · simp +contextual (maxSteps := 5000000) only [go_sem, ↓reduceIte, eTb]
    rfl
  rintro i ⟨hi, hf⟩
  by_cases hlt : i < t.1.length
  · have hat := eS_at t.1 i hlt
    by_cases q : fnd (t.1.getD i []) t.1 0 = i
    · unfold eTb
      simp +contextual (maxSteps := 5000000) only [go_sem, ↓reduceIte, hlt, hat, q, c_Fnd, hs1]
      refine fun _ => ⟨rfl, inR64 (by omega) (by omega), fun _ => ⟨i + 1, by simp, by omega, by omega, fun j hj => ?_⟩⟩
      rcases lt_cases hj with h | rfl
      · exact hf j h
      · exact q
    · obtain rfl := k3 (by
        cases h : onceF t.1 with
        | false => rfl
        | true => exact absurd ((nodup_fnd t.1).1 ((onceF_iff t.1).1 h) i hlt) q)
      unfold eTb
      simp +contextual (maxSteps := 5000000) only [go_sem, ↓reduceIte, hlt, hat, q, c_Fnd, hs1]
      exact fun _ => rfl
  have k4 := k4 ((onceF_iff t.1).2 ((nodup_fnd t.1).2 fun j hj => hf j (by omega)))
  clear hf k3 hi
  unfold eTb
  simp +contextual (maxSteps := 5000000) only [go_sem, ↓reduceIte, hlt]
  clear hlt
  refine fun _ => M_join (fun _ : Unit => ⟨[(1, .loc 1 0), (5, .bool (bigT t))], [(1, .blk (eTb t) false)]⟩) (fun _ => True) ?_ ?_
  · unfold bigT
    by_cases b1 : 40 < t.1.length
    · have b1' : (40 : Int) < t.1.length := by omega
      rw [decide_eq_true b1]
      simp +contextual (maxSteps := 5000000) only [go_sem, ↓reduceIte, eTb, b1']
      exact fun _ => ⟨(), trivial⟩
    · have b1' : ¬ (40 : Int) < t.1.length := by omega
      rw [decide_eq_false b1]
      by_cases b2 : 400 < t.2.length
      · have b2' : (400 : Int) < t.2.length := by omega
        rw [decide_eq_true b2]
        simp +contextual (maxSteps := 5000000) only [go_sem, ↓reduceIte, eTb, b1', b2']
        exact fun _ _ => ⟨(), trivial⟩
      · have b2' : ¬ (400 : Int) < t.2.length := by omega
        rw [decide_eq_false b2]
        simp +contextual (maxSteps := 5000000) only [go_sem, ↓reduceIte, eTb, b1', b2', c_lon, st_lon, dS_eS]
        exact fun _ _ => ⟨(), trivial⟩
  intro _ _
  generalize bigT t = bt at k4
  unfold eTb
  simp +contextual (maxSteps := 5000000) only [go_sem, ↓reduceIte]
  refine M_loopI (fun i : Nat => ⟨[(1, .loc 1 0), (5, .bool (bt || (t.2.take i).any lonF)), (6, .int .i64 i)], [(1, .blk (eTb t) false)]⟩) (fun i => t.2.length - i) (fun i => i ≤ t.2.length) 0 ?_ ?_
  · simp +contextual (maxSteps := 5000000) only [go_sem, ↓reduceIte, eTb]
    exact ⟨by simp, rfl⟩
  intro i hi
  by_cases hlt : i < t.2.length
  · have hat := eR_at t.2 i hlt
    have ha := any_take (p := lonF) (d := []) hlt
    unfold eTb
    cases hb : (bt || (t.2.take i).any lonF)
    · simp +contextual (maxSteps := 5000000) only [go_sem, ↓reduceIte, hlt, hat, c_lon, st_lon, dS_eS]
      exact fun _ => ⟨inR64 (by omega) (by omega), fun _ => ⟨i + 1, ⟨by rw [ha, ← Bool.or_assoc, hb, Bool.false_or], by simp⟩, by omega, by omega⟩⟩
    · simp +contextual (maxSteps := 5000000) only [go_sem, ↓reduceIte, hlt, hat, c_lon, st_lon, dS_eS]
      exact fun _ => ⟨inR64 (by omega) (by omega), fun _ => ⟨i + 1, ⟨by rw [ha, ← Bool.or_assoc, hb, Bool.true_or], by simp⟩, by omega, by omega⟩⟩
  obtain rfl : i = t.2.length := by omega
  rw [List.take_length]
  cases hb : (bt || t.2.any lonF)
  · rw [hb, if_neg (by simp)] at k4
    by_cases q : 40000 < slen t.1 + rlen t.2
    · have q' : (40000 : Int) < (slen t.1 + rlen t.2 : Nat) := by omega
      rw [if_pos q] at k4
      subst k4
      unfold eTb
      simp +contextual (maxSteps := 5000000) only [go_sem, ↓reduceIte, hlt, Nat.lt_irrefl, c_Tot, hs2, q', ht]
      exact fun _ => rfl
    · have q' : ¬ (40000 : Int) < (slen t.1 + rlen t.2 : Nat) := by omega
      rw [if_neg q] at k4
      subst k4
      unfold eTb
      simp +contextual (maxSteps := 5000000) only [go_sem, ↓reduceIte, hlt, Nat.lt_irrefl, c_Tot, hs2, q', ht]
      exact fun _ => rfl
  · rw [hb, if_pos rfl] at k4
    subst k4
    unfold eTb
    simp +contextual (maxSteps := 5000000) only [go_sem, ↓reduceIte, hlt, Nat.lt_irrefl]
def c_rTC (caps args : List D) : Prop × Out := match caps, args with | [], [.agg r] => (wkL r (eTb (dTb r)) ∧ okTb (dTb r), .ret (.int .i64 (tchk (dTb r)))) | _, _ => (False, .ret .any)
theorem st_rTC : StC Tryz.prog 26 c_rTC := by
  intro caps args; unfold c_rTC; split
  · rintro ⟨h, h2⟩
    exact fc_wk (wkL_self []) (by simp only [wkL, wk]; exact ⟨h, trivial⟩) (by intro ys h; cases h) (fc_rTCheck _ h2)
  · exact fun h => h.elim
end Go.Proofs.YtknkjakppikjeaaGreat

set_option linter.unusedSimpArgs false
namespace Go.Proofs.YtknkjakppikjeaaGreat
open Go.Tn
set_option maxHeartbeats 8000000
set_option maxRecDepth 100000
def c_works (caps args : List D) : Prop × Out := match caps, args with | [], [] => (True, .ret (.bool true)) | _, _ => (False, .ret .any)
theorem st_works : StC Tryz.prog 5 c_works := by
  intro caps args; unfold c_works; split
  · exact fun _ => fc_works
  · exact fun h => h.elim
def c_DChk (caps args : List D) : Prop × Out := match caps, args with | [], [.agg r] => (wkL r (eDl (dDl r)) ∧ okDl (dDl r) ∧ (dDl r).na < 1000000000 ∧ (dDl r).nb < 1000000000, .ret (.int .i64 (chkD (dDl r)))) | _, _ => (False, .ret .any)
theorem st_DChk : StC Tryz.prog 54 c_DChk := by
  intro caps args; unfold c_DChk; split
  · exact fun h => fc_wk (wkL_self []) (wk_agg1 h.1) (by intro ys h; cases h) (fc_DCheck _ h.2.1 h.2.2.1 h.2.2.2)
  · exact fun h => h.elim
theorem eTb_lit (t : Tab) : eTb t = [.sl 1 (t.1.map eS), .sl 1 (t.2.map eR)] := rfl
theorem wrong_zero {t : Tab} {d : Dl} (h : wrongF t d = 0) : tchk t = 0 ∧ chkD d = 0 ∧ t.1 = d.A ∧ (t.2.length : Int) = d.na ∧ heldF t d = true := by
  unfold wrongF at h
  by_cases a : tchk t = 0
  · rw [if_neg (fun h => h a)] at h
    by_cases b : chkD d = 0
    · rw [if_neg (fun h => h b)] at h
      by_cases c : t.1 = d.A
      · rw [if_neg (fun h => h c)] at h
        by_cases e : (t.2.length : Int) = d.na
        · rw [if_neg (fun h => h e)] at h
          cases g : heldF t d with
          | false => rw [if_pos g] at h; cases h
          | true => exact ⟨a, b, c, e, rfl⟩
        · rw [if_pos e] at h; cases h
      · rw [if_pos c] at h; cases h
    · rw [if_pos b] at h; exact absurd h b
  · rw [if_pos a] at h; exact absurd h a
theorem ap_zero {t : Tab} {d : Dl} (h : apE t d = 0) : wrongF t d = 0 ∧ tchk (resT t d) = 0 := by
  unfold apE at h
  by_cases a : wrongF t d = 0
  · rw [if_neg (fun h => h a)] at h; exact ⟨a, h⟩
  · rw [if_pos a] at h; exact absurd h a
structure HeldP (t : Tab) (d : Dl) : Prop where
  dels : ∀ x ∈ d.dels, 0 ≤ x.1 ∧ x.1 < t.2.length ∧ t.2.getD x.1.toNat [] = x.2
  sets : ∀ x ∈ d.sets, cellF t x.i x.p = x.o
  lost : ∀ x ∈ d.lost, cellF t x.1 x.2.1 = x.2.2
theorem heldF_iff (t : Tab) (d : Dl) : heldF t d = true ↔ HeldP t d := by
  unfold heldF
  simp only [Bool.and_eq_true, Bool.not_eq_true', List.any_eq_false, delF, setF, lostF, Bool.or_eq_true, decide_eq_true_eq, not_or, Classical.not_not]
  constructor
  · rintro ⟨⟨h1, h2⟩, h3⟩
    exact ⟨fun x hx => by have := h1 x hx; exact ⟨by omega, by omega, this.2⟩, h2, h3⟩
  · rintro ⟨h1, h2, h3⟩
    exact ⟨⟨fun x hx => by have := h1 x hx; exact ⟨⟨by omega, by omega⟩, this.2.2⟩, h2⟩, h3⟩
end Go.Proofs.YtknkjakppikjeaaGreat

set_option linter.unusedSimpArgs false
namespace Go.Proofs.YtknkjakppikjeaaGreat
open Go.Tn
set_option maxHeartbeats 8000000
set_option maxRecDepth 100000
/- what a map answers -/
def gof (m : MP) (k : Int × Int) : Option Str := match m with | [] => none | x :: r => if x.1 = k then some x.2 else gof r k
theorem gof_glk (m : MP) (k : Int × Int) : glk [] m k = (gof m k).getD [] := by
  induction m with
  | nil => rfl
  | cons x m ih =>
    simp only [glk, gof]
    split
    · rfl
    · exact ih
theorem gof_has (m : MP) (k q : Int) : hasM m k q = (gof m (k, q)).isSome := by
  unfold hasM
  induction m with
  | nil => rfl
  | cons x m ih =>
    rw [List.any_cons, ih]
    simp only [gof]
    by_cases e : x.1 = (k, q) <;> simp [e]
theorem gof_gup (m : MP) (k : Int × Int) (v : Str) (j : Int × Int) : gof (gup m k v) j = if k = j then some v else gof m j := by
  induction m with
  | nil => simp only [gup, gof]
  | cons x m ih =>
    simp only [gup]
    by_cases e : x.1 = k
    · rw [if_pos e]
      simp only [gof]
      by_cases e2 : k = j
      · simp [e2]
      · rw [if_neg e2, if_neg e2, if_neg (by rw [e]; exact e2)]
    · rw [if_neg e]
      simp only [gof, ih]
      by_cases e2 : x.1 = j
      · rw [if_pos e2, if_pos e2, if_neg (fun h => e (by rw [e2, h]))]
      · rw [if_neg e2, if_neg e2]
def putM {β : Type} (f : β → Int × Int) (v : β → Str) (m : MP) (l : List β) : MP := l.foldl (fun m x => gup m (f x) (v x)) m
theorem putM_no {β : Type} {f : β → Int × Int} {v : β → Str} {k : Int × Int} : ∀ {l : List β} {m : MP}, (∀ x ∈ l, f x ≠ k) → gof (putM f v m l) k = gof m k
  | [], _, _ => rfl
  | x :: l, m, h => by
    have e : putM f v m (x :: l) = putM f v (gup m (f x) (v x)) l := rfl
    rw [e, putM_no (fun y hy => h y (List.mem_cons.2 (.inr hy))), gof_gup, if_neg (h x (by simp))]
theorem putM_at {β : Type} {f : β → Int × Int} {v : β → Str} {y : β} : ∀ {l : List β} {m : MP}, (l.map f).Nodup → y ∈ l → gof (putM f v m l) (f y) = some (v y)
  | x :: l, m, hn, hy => by
    have e : putM f v m (x :: l) = putM f v (gup m (f x) (v x)) l := rfl
    rw [List.map_cons, List.nodup_cons] at hn
    rw [e]
    rcases List.mem_cons.1 hy with rfl | hy
    · rw [putM_no (fun z hz h => hn.1 (List.mem_map.2 ⟨z, hz, h⟩)), gof_gup, if_pos rfl]
    · exact putM_at hn.2 hy
theorem told_put (d : Dl) : toldM d = putM keyS (·.n) (putM (fun x : Sp => (x.1, x.2.1)) (·.2.2) [] d.gain) d.sets := rfl
theorem mlk_mup (m : List (Int × Int)) (k v j : Int) : mlk (mup m k v) j = if k = j then v else mlk m j := by
  induction m with
  | nil => simp only [mup, mlk]
  | cons x m ih =>
    simp only [mup]
    by_cases e : x.1 = k
    · rw [if_pos e]
      simp only [mlk]
      by_cases e2 : k = j
      · simp [e2]
      · rw [if_neg e2, if_neg e2, if_neg (by rw [e]; exact e2)]
    · rw [if_neg e]
      simp only [mlk, ih]
      by_cases e2 : x.1 = j
      · rw [if_pos e2, if_pos e2, if_neg (fun h => e (by rw [e2, h]))]
      · rw [if_neg e2, if_neg e2]
theorem from_no {k : Int} : ∀ {l m : List (Int × Int)}, (∀ x ∈ l, x.2 ≠ k) → mlk (l.foldl (fun m p => mup m p.2 p.1) m) k = mlk m k
  | [], _, _ => rfl
  | x :: l, m, h => by
    rw [List.foldl_cons, from_no (fun y hy => h y (List.mem_cons.2 (.inr hy))), mlk_mup, if_neg (h x (by simp))]
theorem from_at {y : Int × Int} : ∀ {l m : List (Int × Int)}, (l.map (·.2)).Nodup → y ∈ l → mlk (l.foldl (fun m p => mup m p.2 p.1) m) y.2 = y.1
  | x :: l, m, hn, hy => by
    rw [List.map_cons, List.nodup_cons] at hn
    rw [List.foldl_cons]
    rcases List.mem_cons.1 hy with rfl | hy
    · rw [from_no (fun z hz h => hn.1 (List.mem_map.2 ⟨z, hz, h⟩)), mlk_mup, if_pos rfl]
    · exact from_at hn.2 hy
theorem setO_no {β : Type} {f : β → Int} {v : β → List Str} {k : Nat} : ∀ {l : List β} {m : OR'}, (∀ x ∈ l, (f x).toNat ≠ k) → (setO f v m l)[k]? = m[k]?
  | [], _, _ => rfl
  | x :: l, m, h => by
    have e : setO f v m (x :: l) = setO f v (m.set (f x).toNat (some (v x))) l := rfl
    rw [e, setO_no (fun y hy => h y (List.mem_cons.2 (.inr hy))), List.getElem?_set_ne (h x (by simp))]
theorem setO_at {β : Type} {f : β → Int} {v : β → List Str} {y : β} : ∀ {l : List β} {m : OR'}, (l.map f).Nodup → (∀ x ∈ l, 0 ≤ f x) → y ∈ l → (f y).toNat < m.length → (setO f v m l)[(f y).toNat]? = some (some (v y))
  | x :: l, m, hn, h0, hy, hk => by
    have e : setO f v m (x :: l) = setO f v (m.set (f x).toNat (some (v x))) l := rfl
    rw [List.map_cons, List.nodup_cons] at hn
    rw [e]
    rcases List.mem_cons.1 hy with rfl | hy
    · rw [setO_no (fun z hz h => hn.1 (List.mem_map.2 ⟨z, hz, ?_⟩)), List.getElem?_set_self hk]
      have := h0 z (by simp [hz])
      have := h0 y (by simp)
      omega
    · exact setO_at hn.2 (fun z hz => h0 z (by simp [hz])) hy (by rw [List.length_set]; exact hk)
/- what a good delta tells -/
theorem mtF_map {α β : Type} {q : α → β → Bool} {f : α → β} (h : ∀ x y, q x y = true → f x = y) : ∀ {l : List α} {r : List β}, mtF q l r = true → l.map f = r
  | [], [], _ => rfl
  | x :: l, y :: r, g => by
    simp only [mtF, Bool.and_eq_true] at g
    rw [List.map_cons, h x y g.1, mtF_map h g.2]
theorem OkD.insK {d : Dl} (g : OkD d) : d.inss.map (·.1) = newR' d := mtF_map (fun x y h => by simp only [isL, decide_eq_true_eq] at h; exact h.1) g.lines.2
theorem OkD.gainK {d : Dl} (g : OkD d) : d.gain.map (fun x : Sp => (x.1, x.2.1)) = crF (wiF (newR' d) d.nb.toNat) (newC d) := mtF_map (fun x y h => by simp only [isS, decide_eq_true_eq] at h; rw [h.1, h.2]) g.spots.2
theorem mem_crF {a b : List Int} {x : Int × Int} : x ∈ crF a b ↔ x.1 ∈ a ∧ x.2 ∈ b := by
  unfold crF
  rw [List.mem_flatMap]
  constructor
  · rintro ⟨i, hi, h⟩
    obtain ⟨p, hp, rfl⟩ := List.mem_map.1 h
    exact ⟨hi, hp⟩
  · rintro ⟨h1, h2⟩
    exact ⟨x.1, h1, List.mem_map.2 ⟨x.2, h2, rfl⟩⟩
theorem crF_nodup {b : List Int} (hb : b.Nodup) : ∀ {a : List Int}, a.Nodup → (crF a b).Nodup
  | [], _ => by simp [crF]
  | i :: a, ha => by
    rw [List.nodup_cons] at ha
    have e : crF (i :: a) b = (b.map fun p => (i, p)) ++ crF a b := rfl
    rw [e, List.nodup_append]
    refine ⟨?_, crF_nodup hb ha.2, fun x hx y hy h => ?_⟩
    · refine (List.pairwise_map).2 (hb.imp fun h => fun e => h (by simpa using e))
    · obtain ⟨p, _, rfl⟩ := List.mem_map.1 hx
      subst h
      exact ha.1 (mem_crF.1 hy).1
theorem OkD.gainN {d : Dl} (g : OkD d) : (d.gain.map (fun x : Sp => (x.1, x.2.1))).Nodup := by
  rw [g.gainK]
  exact crF_nodup (rsL_nodup _ _) (rsL_nodup _ _)
theorem OkD.gainM {d : Dl} (g : OkD d) {x : Sp} (hx : x ∈ d.gain) : (∃ p ∈ d.rows, p.2 = x.1) ∧ x.2.1 ∈ newC d := by
  have h : (x.1, x.2.1) ∈ d.gain.map (fun x : Sp => (x.1, x.2.1)) := List.mem_map.2 ⟨x, hx, rfl⟩
  rw [g.gainK] at h
  have h := mem_crF.1 h
  refine ⟨?_, h.2⟩
  have h1 := mem_rsL.1 h.1
  by_cases hm : x.1 ∈ d.rows.map (·.2)
  · obtain ⟨p, hp, e⟩ := List.mem_map.1 hm
    exact ⟨p, hp, e⟩
  · exact absurd (mem_rsL.2 ⟨h1.1, hm⟩) h1.2
theorem OkD.gainE {d : Dl} (g : OkD d) {p : Int × Int} (hp : p ∈ d.rows) {q : Int} (hq : q ∈ newC d) : ∃ x ∈ d.gain, (x.1, x.2.1) = (p.2, q) := by
  have h : (p.2, q) ∈ d.gain.map (fun x : Sp => (x.1, x.2.1)) := by
    rw [g.gainK]
    refine mem_crF.2 ⟨mem_rsL.2 ⟨?_, fun h => (mem_rsL.1 h).2 (List.mem_map.2 ⟨p, hp, rfl⟩)⟩, hq⟩
    have := (g.rows.inn p hp).2.2
    have := g.rows.b0
    omega
  exact List.mem_map.1 h
theorem OkD.told_set {d : Dl} (g : OkD d) {s : St6} (hs : s ∈ d.sets) : gof (toldM d) (s.j, s.q) = some s.n := by
  rw [told_put]
  exact putM_at (f := keyS) (v := (·.n)) g.keys.1 hs
theorem OkD.set_new {d : Dl} (g : OkD d) {s : St6} (hs : s ∈ d.sets) : s.q ∉ newC d := fun h =>
  (mem_rsL.1 h).2 (List.mem_map.2 ⟨_, (g.sets.mem s hs).1.2, rfl⟩)
theorem OkD.told_gain {d : Dl} (g : OkD d) {x : Sp} (hx : x ∈ d.gain) : gof (toldM d) (x.1, x.2.1) = some x.2.2 := by
  rw [told_put, putM_no (fun s hs h => ?_)]
  · exact putM_at (f := fun x : Sp => (x.1, x.2.1)) (v := (·.2.2)) g.gainN hx
  · refine g.set_new hs ?_
    simp only [keyS, Prod.mk.injEq] at h
    rw [h.2]
    exact (g.gainM hx).2
theorem told_none {d : Dl} {k : Int × Int} (h1 : ∀ s ∈ d.sets, keyS s ≠ k) (h2 : ∀ x ∈ d.gain, (x.1, x.2.1) ≠ k) : gof (toldM d) k = none := by
  rw [told_put, putM_no h1, putM_no h2]; rfl
theorem OkD.from_col {d : Dl} (g : OkD d) {p : Int × Int} (hp : p ∈ d.cols) : mlk (fromM d.cols) p.2 = p.1 := from_at g.cols.nb hp
theorem OkD.row_at {d : Dl} (g : OkD d) (t : Tab) {p : Int × Int} (hp : p ∈ d.rows) : (resT t d).2[p.2.toNat]? = some (nrow t d p.1 p.2) := by
  have hl := (g.row hp).2
  have h := setO_at (f := fun p : Int × Int => p.2) (v := fun p => nrow t d p.1 p.2) (m := insO (List.replicate d.nb.toNat none) d.inss) g.rows.nb (fun x hx => (g.row hx).1) hp (by unfold insO; rw [setO_len, List.length_replicate]; exact hl)
  show ((finO t d).map fun x => x.getD [])[p.2.toNat]? = _
  rw [List.getElem?_map]
  have e : (finO t d)[p.2.toNat]? = some (some (nrow t d p.1 p.2)) := h
  rw [e]; rfl
theorem OkD.ins_at {d : Dl} (g : OkD d) (t : Tab) {x : Ln} (hx : x ∈ d.inss) : (resT t d).2[x.1.toNat]? = some x.2 := by
  have hl := g.ins hx
  have hk : x.1 ∈ newR' d := by rw [← g.insK]; exact List.mem_map.2 ⟨x, hx, rfl⟩
  have hn : (d.inss.map (·.1)).Nodup := by rw [g.insK]; exact rsL_nodup _ _
  have h := setO_at (f := fun x : Ln => x.1) (v := fun x => x.2) (m := List.replicate d.nb.toNat none) hn (fun x hx => (g.ins hx).1) hx (by rw [List.length_replicate]; exact hl.2)
  show ((finO t d).map fun x => x.getD [])[x.1.toNat]? = _
  rw [List.getElem?_map]
  have e : (finO t d)[x.1.toNat]? = some (some x.2) := by
    unfold finO rowO
    rw [setO_no (fun p hp h => (mem_rsL.1 hk).2 (List.mem_map.2 ⟨p, hp, ?_⟩))]
    · exact h
    · have := (g.row hp).1; omega
  rw [e]; rfl
theorem cell_of {t : Tab} {i : Int} {r : List Str} {c : Nat} (h0 : 0 ≤ i) (h : t.2[i.toNat]? = some r) (hc : c < r.length) : cellF t i c = r.getD c [] := by
  have hl : i.toNat < t.2.length := by
    by_cases g : i.toNat < t.2.length
    · exact g
    · rw [List.getElem?_eq_none (by omega)] at h; cases h
  have e : t.2.getD i.toNat [] = r := by rw [List.getD_eq_getElem?_getD, h]; rfl
  unfold cellF
  rw [e, if_neg (by omega), Int.toNat_natCast]
theorem nrow_at (t : Tab) (d : Dl) (i k : Int) {q : Nat} (h : q < d.B.length) : (nrow t d i k).getD q [] = ceF t (toldM d) (fromM d.cols) i k q := by
  unfold nrow rowF
  rw [List.getD_eq_getElem?_getD, List.getElem?_map, List.getElem?_range h]; rfl
theorem nrow_len (t : Tab) (d : Dl) (i k : Int) : (nrow t d i k).length = d.B.length := by
  unfold nrow rowF; rw [List.length_map, List.length_range]
theorem OkD.cell_at {d : Dl} (g : OkD d) (t : Tab) {p : Int × Int} (hp : p ∈ d.rows) {q : Nat} (h : q < d.B.length) : cellF (resT t d) p.2 q = ceF t (toldM d) (fromM d.cols) p.1 p.2 q := by
  rw [cell_of (g.row hp).1 (g.row_at t hp) (by rw [nrow_len]; exact h), nrow_at t d _ _ h]
theorem ce_some {t : Tab} {m : MP} {fr : List (Int × Int)} {i k q : Int} {v : Str} (h : gof m (k, q) = some v) : ceF t m fr i k q = v := by
  unfold ceF
  rw [if_pos (by rw [gof_has, h]; rfl), gof_glk, h]; rfl
theorem ce_none {t : Tab} {m : MP} {fr : List (Int × Int)} {i k q : Int} (h : gof m (k, q) = none) : ceF t m fr i k q = cellF t i (mlk fr q) := by
  unfold ceF
  rw [if_neg (by rw [gof_has, h]; simp)]
theorem tc2_zero {t : Tab} (h : tchk t = 0) : ∀ r ∈ t.2, r.length = t.1.length := by
  unfold tchk at h
  by_cases a : tc1 t = 0
  · rw [if_neg (fun h => h a)] at h
    by_cases b : tc2 t = 0
    · intro r hr
      unfold tc2 at b
      by_cases c : (t.2.any fun r => decide (r.length ≠ t.1.length)) = true
      · rw [if_pos c] at b; cases b
      · have := List.any_eq_false.1 (by simpa only [Bool.not_eq_true] using c) r hr
        simpa using this
    · rw [if_pos b] at h; exact absurd h b
  · rw [if_pos a] at h; exact absurd h a
theorem held_back {t : Tab} {d : Dl} (g : OkD d) : HeldP (resT t d) (turnD d) := by
  have hcols := g.cols
  refine ⟨fun x hx => ?_, fun s hs => ?_, fun x hx => ?_⟩
  · have hx : x ∈ d.inss := hx
    have h1 := g.ins hx
    have h2 := g.ins_at t hx
    have h3 := resT_len t d
    refine ⟨h1.1, by omega, ?_⟩
    rw [List.getD_eq_getElem?_getD, h2]; rfl
  · have hs := mem_turnSs.1 hs
    have hm := (g.sets.mem _ hs).1
    have hq := hcols.inn _ hm.2
    have h0 : 0 ≤ s.p ∧ s.p < d.B.length := hq.2.2
    obtain ⟨q, hq⟩ : ∃ q : Nat, s.p = q := ⟨s.p.toNat, by omega⟩
    have h1 := g.cell_at t hm.1 (q := q) (by omega)
    have h2 := g.told_set hs
    have e : cellF (resT t d) s.i q = s.o := by
      refine h1.trans (ce_some ?_)
      have : (turnS s).q = q := hq
      rw [← this]
      exact h2
    rw [hq]; exact e
  · have hx : x ∈ d.gain := hx
    obtain ⟨⟨p, hp, e⟩, hq⟩ := g.gainM hx
    have h0 := (mem_rsL.1 hq).1
    obtain ⟨q, hq2⟩ : ∃ q : Nat, x.2.1 = q := ⟨x.2.1.toNat, by omega⟩
    have h1 := g.cell_at t hp (q := q) (by omega)
    have h2 := g.told_gain hx
    rw [hq2] at h2 ⊢
    rw [← e] at h2 ⊢
    exact h1.trans (ce_some h2)
theorem back_cell {t : Tab} {d : Dl} (g : OkD d) (hh : HeldP t d) {p : Int × Int} (hp : p ∈ d.rows) {c : Nat} (hc : c < d.A.length) : ceF (resT t d) (toldM (turnD d)) (fromM (turnD d).cols) p.2 p.1 c = cellF t p.1 c := by
  have gt := g.turn
  by_cases a : ∃ s ∈ d.sets, (s.i, s.p) = (p.1, (c : Int))
  · obtain ⟨s, hs, e⟩ := a
    simp only [Prod.mk.injEq] at e
    have hs2 : turnS s ∈ (turnD d).sets := mem_turnSs.2 hs
    have h1 := gt.told_set hs2
    have h2 : gof (toldM (turnD d)) (p.1, (c : Int)) = some s.o := by rw [← e.1, ← e.2]; exact h1
    rw [ce_some h2, ← hh.sets s hs, e.1, e.2]
  · by_cases b : ∃ x ∈ d.lost, (x.1, x.2.1) = (p.1, (c : Int))
    · obtain ⟨x, hx, e⟩ := b
      simp only [Prod.mk.injEq] at e
      have h1 := gt.told_gain (x := x) hx
      rw [e.1, e.2] at h1
      rw [ce_some h1, ← hh.lost x hx, e.1, e.2]
    · have hno : gof (toldM (turnD d)) (p.1, (c : Int)) = none := by
        refine told_none (fun s hs h => ?_) (fun x hx h => b ⟨x, hx, h⟩)
        exact a ⟨turnS s, mem_turnSs.1 hs, h⟩
      rw [ce_none hno]
      have hin : (c : Int) ∈ d.cols.map (·.1) := by
        by_cases hm : (c : Int) ∈ d.cols.map (·.1)
        · exact hm
        · exfalso
          have hg : (c : Int) ∈ newC (turnD d) := by rw [newC_t]; exact mem_rsL.2 ⟨⟨by omega, by omega⟩, hm⟩
          have hp2 : (p.2, p.1) ∈ (turnD d).rows := mem_turnP.2 hp
          obtain ⟨x, hx, e⟩ := gt.gainE hp2 hg
          exact b ⟨x, hx, e⟩
      obtain ⟨w, hw, e⟩ := List.mem_map.1 hin
      have hw2 : (w.2, w.1) ∈ (turnD d).cols := mem_turnP.2 hw
      have hf := gt.from_col hw2
      simp only at hf e
      rw [← e, hf]
      have hb := (g.cols.inn w hw).2.2
      obtain ⟨q, hq⟩ : ∃ q : Nat, w.2 = q := ⟨w.2.toNat, by omega⟩
      have hq2 : q < d.B.length := by omega
      rw [hq, g.cell_at t hp hq2, ce_none, ← hq, g.from_col hw]
      refine told_none (fun s hs h => a ⟨s, hs, ?_⟩) (fun x hx h => ?_)
      · simp only [keyS, Prod.mk.injEq] at h
        have hm := (g.sets.mem s hs).1
        have e1 := inj_at g.rows.nb hm.1 hp h.1
        have e2 := inj_at g.cols.nb hm.2 hw (by rw [hq]; exact h.2)
        simp only [Prod.ext_iff] at e1 e2
        rw [e1.1, e2.1, e]
      · simp only [Prod.mk.injEq] at h
        refine (mem_rsL.1 (g.gainM hx).2).2 ?_
        rw [h.2]
        exact List.mem_map.2 ⟨w, hw, hq⟩
theorem back_tab {t : Tab} {d : Dl} (h : wrongF t d = 0) : resT (resT t d) (turnD d) = t := by
  obtain ⟨h1, h2, h3, h4, h5⟩ := wrong_zero h
  have g := (chkD_zero d).1 h2
  have gt := g.turn
  have hh := (heldF_iff t d).1 h5
  have hrl := tc2_zero h1
  have hlen := resT_len (resT t d) (turnD d)
  have hnb : (turnD d).nb = d.na := rfl
  rw [hnb] at hlen
  refine Prod.ext (by rw [h3]; rfl) (List.ext_getElem (by omega) fun i hi hi2 => ?_)
  have key : ∀ r, (resT (resT t d) (turnD d)).2[i]? = some r → (resT (resT t d) (turnD d)).2[i] = r := fun r hr => by
    rw [List.getElem?_eq_getElem hi, Option.some.injEq] at hr; exact hr
  by_cases hm : (i : Int) ∈ d.rows.map (·.1)
  · obtain ⟨p, hp, e⟩ := List.mem_map.1 hm
    have hp2 : (p.2, p.1) ∈ (turnD d).rows := mem_turnP.2 hp
    have hr := gt.row_at (resT t d) hp2
    simp only at hr
    rw [e, Int.toNat_natCast] at hr
    rw [key _ hr]
    have hrow := hrl _ (List.getElem_mem hi2)
    rw [h3] at hrow
    refine List.ext_getElem (by rw [nrow_len, hrow]; rfl) fun c hc hc2 => ?_
    have hcA : c < d.A.length := by omega
    have e1 := nrow_at (resT t d) (turnD d) p.2 (i : Int) (q := c) hcA
    rw [List.getD_eq_getElem?_getD, List.getElem?_eq_getElem hc, Option.getD_some] at e1
    rw [e1, ← e, back_cell g hh hp hcA, e]
    have e2 := cell_of (t := t) (i := (i : Int)) (r := t.2[i]) (c := c) (by omega) (by rw [Int.toNat_natCast, List.getElem?_eq_getElem hi2]) hc2
    rw [e2, List.getD_eq_getElem?_getD, List.getElem?_eq_getElem hc2, Option.getD_some]
  · have hg : (i : Int) ∈ goneR d := mem_rsL.2 ⟨⟨by omega, by omega⟩, hm⟩
    rw [← newR_t, ← gt.insK] at hg
    obtain ⟨x, hx, e⟩ := List.mem_map.1 hg
    have hr := gt.ins_at (resT t d) hx
    rw [e, Int.toNat_natCast] at hr
    rw [key _ hr]
    have hx : x ∈ d.dels := hx
    have := (hh.dels x hx).2.2
    rw [e, Int.toNat_natCast, List.getD_eq_getElem?_getD, List.getElem?_eq_getElem hi2, Option.getD_some] at this
    exact this.symm
theorem wrong_of {t : Tab} {d : Dl} (h1 : tchk t = 0) (h2 : chkD d = 0) (h3 : t.1 = d.A) (h4 : (t.2.length : Int) = d.na) (h5 : heldF t d = true) : wrongF t d = 0 := by
  unfold wrongF
  rw [if_neg (fun h => h h1), if_neg (fun h => h h2), if_neg (fun h => h h3), if_neg (fun h => h h4), if_neg (by rw [h5]; simp)]
theorem back_zero {t : Tab} {d : Dl} (h : apE t d = 0) : apE (resT t d) (turnD d) = 0 ∧ resT (resT t d) (turnD d) = t := by
  obtain ⟨hw, hr⟩ := ap_zero h
  have hb := back_tab hw
  obtain ⟨h1, h2, h3, h4, h5⟩ := wrong_zero hw
  have g := (chkD_zero d).1 h2
  refine ⟨?_, hb⟩
  have hw2 : wrongF (resT t d) (turnD d) = 0 := wrong_of hr ((chkD_zero _).2 g.turn) rfl (by rw [resT_len]; have := g.rows.b0; show ((d.nb.toNat : Nat) : Int) = d.nb; omega) ((heldF_iff _ _).2 (held_back g))
  unfold apE
  rw [if_neg (fun h => h hw2), hb]; exact h1
end Go.Proofs.YtknkjakppikjeaaGreat

set_option linter.unusedSimpArgs false
namespace Go.Proofs.YtknkjakppikjeaaGreat
open Go.Tn
set_option maxHeartbeats 8000000
set_option maxRecDepth 100000
theorem fc_rCell (t : Tab) (r c : Int) : FC Tryz.prog 34 [] [dTab t, .int .i64 r, .int .i64 c] (.ret (.str (cellF t r c))) := by
  refine fc_M (fn := Tryz.f34) (C := (tab [] [])) (rs := [6]) mixed (by kernel_rfl) (by kernel_rfl) rfl rfl (by kernel_rfl) (by intro ys h; cases h) ?_
  unfold cellF
  by_cases h0 : r < 0
  · simp +contextual (maxSteps := 5000000) only [go_sem, ↓reduceIte, h0]
  · by_cases h1 : t.2.length ≤ r
    · simp +contextual (maxSteps := 5000000) only [go_sem, ↓reduceIte, h0, h1]
    · obtain ⟨i, rfl⟩ : ∃ i : Nat, r = i := ⟨r.toNat, by omega⟩
      have hi : i < t.2.length := by omega
      by_cases h2 : c < 0
      · simp +contextual (maxSteps := 5000000) only [go_sem, ↓reduceIte, h0, h1, hi, eR_at, h2]
        all_goals (try simp)
        all_goals (try omega)
      · obtain ⟨k, rfl⟩ : ∃ i : Nat, c = i := ⟨c.toNat, by omega⟩
        by_cases h3 : k < (t.2.getD i []).length
        · simp +contextual (maxSteps := 5000000) only [go_sem, ↓reduceIte, h0, h1, hi, eR_at, eS_at, h2, h3]
          all_goals omega
        · simp +contextual (maxSteps := 5000000) only [go_sem, ↓reduceIte, h0, h1, hi, eR_at, eS_at, h2, h3]
          all_goals omega
end Go.Proofs.YtknkjakppikjeaaGreat

set_option linter.unusedSimpArgs false
namespace Go.Proofs.YtknkjakppikjeaaGreat
open Go.Tn
set_option maxHeartbeats 8000000
set_option maxRecDepth 100000
def c_rCl (t : Tab) (caps args : List D) : Prop × Out := match caps, args with | [], [x, .int .i64 r, .int .i64 c] => (x = .agg (eTb t), .ret (.str (cellF t r c))) | _, _ => (False, .ret .any)
theorem st_rCl (t : Tab) : StC Tryz.prog 34 (c_rCl t) := by
  intro caps args; unfold c_rCl; split
  · rintro rfl; exact fc_rCell t _ _
  · exact fun h => h.elim
theorem held_d {t : Tab} {d : Dl} (h : d.dels.any (delF t) = true) : heldF t d = false := by unfold heldF; rw [h]; rfl
theorem held_s {t : Tab} {d : Dl} (h : d.sets.any (setF t) = true) : heldF t d = false := by unfold heldF; rw [h]; simp
theorem held_l {t : Tab} {d : Dl} (h : d.lost.any (lostF t) = true) : heldF t d = false := by unfold heldF; rw [h]; simp
theorem any_at {α : Type} {p : α → Bool} {l : List α} {i : Nat} {d : α} (h : i < l.length) (h2 : p (l.getD i d) = true) : l.any p = true := List.any_eq_true.2 ⟨_, getD_mem h, h2⟩
theorem fc_rHeld (t : Tab) (d : Dl) : FC Tryz.prog 13 [] [.agg (eTb t), .agg (eDl d)] (.ret (.bool (heldF t d))) := by
  have hsC := st_rCl t
  have kd := @held_d t d
  have ks := @held_s t d
  have kl := @held_l t d
  have k0 : d.dels.any (delF t) = false → d.sets.any (setF t) = false → d.lost.any (lostF t) = false → heldF t d = true := fun a b c => by unfold heldF; rw [a, b, c]; rfl
  generalize heldF t d = E at kd ks kl k0 ⊢
  refine fc_M (fn := Tryz.f13) (C := (tab [(34, c_rCl t), (28, c_RefS)] [] [])) (rs := [4]) mixed (by kernel_rfl) (by kernel_rfl) rfl rfl (by kernel_rfl) (by intro ys h; cases h) ?_
  unfold eTb eDl
  simp +contextual (maxSteps := 5000000) only [go_sem, ↓reduceIte]
  refine M_loopI (fun i : Nat => ⟨[(2, .loc 2 0), (3, .loc 3 0), (5, .int .i64 i)], [(2, .blk (eTb t) false), (3, .blk (eDl d) false)]⟩) (fun i => d.dels.length - i) (fun i => i ≤ d.dels.length ∧ (d.dels.drop i).any (delF t) = d.dels.any (delF t)) 0 ?_ ?_
  · simp +contextual (maxSteps := 5000000) only [go_sem, ↓reduceIte, eTb, eDl]
    rfl
  rintro i ⟨hi, hf⟩
  by_cases hlt : i < d.dels.length
  · have hat := eL_at d.dels i hlt
    rw [any_drop (d := (0, [])) hlt] at hf
    have kx := fun h => kd (any_at (p := delF t) (d := ((0 : Int), ([] : List Str))) hlt h)
    generalize hx : d.dels.getD i (0, []) = x at hat hf kx
    unfold eTb eDl
    by_cases h0 : x.1 < 0
    · obtain rfl := kx (by unfold delF; rw [decide_eq_true h0]; rfl)
      simp +contextual (maxSteps := 5000000) only [go_sem, ↓reduceIte, hlt, hat, h0]
    by_cases h1 : (t.2.length : Int) ≤ x.1
    · obtain rfl := kx (by unfold delF; rw [decide_eq_true h1]; simp)
      simp +contextual (maxSteps := 5000000) only [go_sem, ↓reduceIte, hlt, hat, h0, h1]
    obtain ⟨k, hk⟩ : ∃ k : Nat, x.1 = k := ⟨x.1.toNat, by omega⟩
    have hkl : k < t.2.length := by omega
    have hat2 := eR_at t.2 k hkl
    rw [hk] at h0 h1 hat
    by_cases e : t.2.getD k [] = x.2
    · have hz : delF t x = false := by
        unfold delF
        rw [hk, decide_eq_false h0, decide_eq_false h1, Int.toNat_natCast, decide_eq_false (fun g => g e)]; rfl
      rw [hz, Bool.false_or] at hf
      simp +contextual (maxSteps := 5000000) only [go_sem, ↓reduceIte, hlt, hat, h0, h1, hkl, hat2, c_RefS, st_RefS, dS_eS, e]
      exact fun _ _ => ⟨inR64 (by omega) (by omega), fun _ => ⟨i + 1, by simp, by omega, by omega, hf⟩⟩
    · obtain rfl := kx (by
        unfold delF
        rw [hk, Int.toNat_natCast, decide_eq_true e]; simp)
      simp +contextual (maxSteps := 5000000) only [go_sem, ↓reduceIte, hlt, hat, h0, h1, hkl, hat2, c_RefS, st_RefS, dS_eS, e]
  rw [List.drop_of_length_le (by omega)] at hf
  have k0 := k0 hf.symm
  clear kd hf hi
  unfold eTb eDl
  simp +contextual (maxSteps := 5000000) only [go_sem, ↓reduceIte, hlt]
  clear hlt
  refine fun _ => M_loopI (fun i : Nat => ⟨[(2, .loc 2 0), (3, .loc 3 0), (8, .int .i64 i)], [(2, .blk (eTb t) false), (3, .blk (eDl d) false)]⟩) (fun i => d.sets.length - i) (fun i => i ≤ d.sets.length ∧ (d.sets.drop i).any (setF t) = d.sets.any (setF t)) 0 ?_ ?_
  · simp +contextual (maxSteps := 5000000) only [go_sem, ↓reduceIte, eTb, eDl]
    rfl
  rintro i ⟨hi, hf⟩
  by_cases hlt : i < d.sets.length
  · have hat := eD6_at d.sets i hlt
    rw [any_drop (d := default) hlt] at hf
    have kx := fun h => ks (any_at (p := setF t) (d := default) hlt h)
    generalize hx : d.sets.getD i default = x at hat hf kx
    unfold eTb eDl
    by_cases e : cellF t x.i x.p = x.o
    · have hz : setF t x = false := by unfold setF; rw [decide_eq_false (fun g => g e)]
      rw [hz, Bool.false_or] at hf
      simp +contextual (maxSteps := 5000000) only [go_sem, ↓reduceIte, hlt, hat, c_rCl, hsC, e]
      exact fun _ => ⟨rfl, inR64 (by omega) (by omega), fun _ => ⟨i + 1, by simp, by omega, by omega, hf⟩⟩
    · obtain rfl := kx (by unfold setF; rw [decide_eq_true e])
      simp +contextual (maxSteps := 5000000) only [go_sem, ↓reduceIte, hlt, hat, c_rCl, hsC, e]
      exact fun _ => rfl
  rw [List.drop_of_length_le (by omega)] at hf
  have k0 := k0 hf.symm
  clear ks hf hi
  unfold eTb eDl
  simp +contextual (maxSteps := 5000000) only [go_sem, ↓reduceIte, hlt]
  clear hlt
  refine fun _ => M_loopI (fun i : Nat => ⟨[(2, .loc 2 0), (3, .loc 3 0), (9, .int .i64 i)], [(2, .blk (eTb t) false), (3, .blk (eDl d) false)]⟩) (fun i => d.lost.length - i) (fun i => i ≤ d.lost.length ∧ (d.lost.drop i).any (lostF t) = d.lost.any (lostF t)) 0 ?_ ?_
  · simp +contextual (maxSteps := 5000000) only [go_sem, ↓reduceIte, eTb, eDl]
    rfl
  rintro i ⟨hi, hf⟩
  by_cases hlt : i < d.lost.length
  · have hat := eSp_at d.lost i hlt
    rw [any_drop (d := ((0 : Int), (0 : Int), ([] : Str))) hlt] at hf
    have kx := fun h => kl (any_at (p := lostF t) (d := ((0 : Int), (0 : Int), ([] : Str))) hlt h)
    generalize hx : d.lost.getD i ((0 : Int), (0 : Int), ([] : Str)) = x at hat hf kx
    unfold eTb eDl
    by_cases e : cellF t x.1 x.2.1 = x.2.2
    · have hz : lostF t x = false := by unfold lostF; rw [decide_eq_false (fun g => g e)]
      rw [hz, Bool.false_or] at hf
      simp +contextual (maxSteps := 5000000) only [go_sem, ↓reduceIte, hlt, hat, c_rCl, hsC, e]
      exact fun _ => ⟨rfl, inR64 (by omega) (by omega), fun _ => ⟨i + 1, by simp, by omega, by omega, hf⟩⟩
    · obtain rfl := kx (by unfold lostF; rw [decide_eq_true e])
      simp +contextual (maxSteps := 5000000) only [go_sem, ↓reduceIte, hlt, hat, c_rCl, hsC, e]
      exact fun _ => rfl
  rw [List.drop_of_length_le (by omega)] at hf
  obtain rfl := k0 hf.symm
  unfold eTb eDl
  simp +contextual (maxSteps := 5000000) only [go_sem, ↓reduceIte, hlt]
end Go.Proofs.YtknkjakppikjeaaGreat
