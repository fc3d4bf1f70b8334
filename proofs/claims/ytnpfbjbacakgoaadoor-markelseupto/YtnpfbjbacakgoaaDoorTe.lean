/-
  A prover for first-order facts about the program: symbolic data, what the operations do to it, and the law that joins them. By an AI agent.
-/
import Derived.Test.YtnpfbjbacakgoaaDoorTn30
set_option linter.unusedSimpArgs false
set_option linter.unusedVariables false
set_option linter.unusedSectionVars false

/- How lists, pairs and tables are written as data, and how they are read back; tables of contracts. -/
namespace Go.Tn
def eI (n : Int) : List D := [.int .i64 n]
def eP (x : Int × Int) : List D := [.int .i64 x.1, .int .i64 x.2]
def eT (x : Int × Int × Int) : List D := [.int .i64 x.1, .int .i64 x.2.1, .int .i64 x.2.2]
def eS (s : List UInt8) : List D := [.str s]
def eR (r : List (List UInt8)) : List D := [.sl 1 (r.map eS)]
abbrev Tab := List (List UInt8) × List (List (List UInt8))
def eTab (t : Tab) : List D := [.sl 1 (t.1.map eS), .sl 1 (t.2.map eR)]
def iOf : D → Int | .int _ n => n | _ => 0
def sOf : D → List UInt8 | .str s => s | _ => []
def rowsOf : D → List (List D) | .sl _ r => r | _ => []
def dI (r : List D) : Int := iOf (r.headD .any)
def dP (r : List D) : Int × Int := (iOf (r.headD .any), iOf (r.tail.headD .any))
def dT (r : List D) : Int × Int × Int := (iOf (r.headD .any), iOf (r.tail.headD .any), iOf (r.tail.tail.headD .any))
def dS (r : List D) : List UInt8 := sOf (r.headD .any)
def dR (r : List D) : List (List UInt8) := (rowsOf (r.headD .any)).map dS
theorem dI_eI (l : List Int) : (l.map eI).map dI = l := by induction l <;> simp_all [eI, dI, iOf]
theorem dP_eP (l : List (Int × Int)) : (l.map eP).map dP = l := by induction l <;> simp_all [eP, dP, iOf]
theorem dT_eT (l : List (Int × Int × Int)) : (l.map eT).map dT = l := by induction l <;> simp_all [eT, dT, iOf]
theorem dS_eS (l : List (List UInt8)) : (l.map eS).map dS = l := by induction l <;> simp_all [eS, dS, sOf]
theorem dR_eR (l : List (List (List UInt8))) : (l.map eR).map dR = l := by
  induction l with
  | nil => rfl
  | cons x l ih =>
    rw [List.map_cons, List.map_cons, ih]
    simp only [dR, eR, List.headD_cons, rowsOf]
    rw [dS_eS]
theorem at_of {α : Type} (e : α → List D) (d : α) (l : List α) (i : Nat) (h : i < l.length) : (l.map e).getD i [] = e (l.getD i d) := by
  simp [List.getD_eq_getElem?_getD, h]
theorem eI_at (l : List Int) (i : Nat) (h : i < l.length) : (l.map eI).getD i [] = [.int .i64 (l.getD i 0)] := at_of eI 0 l i h
theorem eP_at (l : List (Int × Int)) (i : Nat) (h : i < l.length) : (l.map eP).getD i [] = [.int .i64 (l.getD i (0, 0)).1, .int .i64 (l.getD i (0, 0)).2] := at_of eP (0, 0) l i h
theorem eT_at (l : List (Int × Int × Int)) (i : Nat) (h : i < l.length) : (l.map eT).getD i [] = [.int .i64 (l.getD i (0, 0, 0)).1, .int .i64 (l.getD i (0, 0, 0)).2.1, .int .i64 (l.getD i (0, 0, 0)).2.2] := at_of eT (0, 0, 0) l i h
theorem eS_at (l : List (List UInt8)) (i : Nat) (h : i < l.length) : (l.map eS).getD i [] = [.str (l.getD i [])] := at_of eS [] l i h
theorem eR_at (l : List (List (List UInt8))) (i : Nat) (h : i < l.length) : (l.map eR).getD i [] = [.sl 1 ((l.getD i []).map eS)] := at_of eR [] l i h
theorem gndR_of {α : Type} (e : α → List D) (he : ∀ x, gndL (e x) = true) (l : List α) : gndR (l.map e) = true := by
  unfold gndR
  induction l with
  | nil => rfl
  | cons x l ih =>
    rw [List.map_cons, List.flatten_cons]
    have : ∀ a b : List D, gndL (a ++ b) = (gndL a && gndL b) := fun a b => by induction a <;> simp_all [gndL, Bool.and_assoc]
    rw [this, he, ih]; rfl
theorem gnd_eI (l : List Int) : gndR (l.map eI) = true := gndR_of eI (fun _ => rfl) l
theorem gnd_eP (l : List (Int × Int)) : gndR (l.map eP) = true := gndR_of eP (fun _ => rfl) l
theorem gnd_eT (l : List (Int × Int × Int)) : gndR (l.map eT) = true := gndR_of eT (fun _ => rfl) l
theorem gnd_eS (l : List (List UInt8)) : gndR (l.map eS) = true := gndR_of eS (fun _ => rfl) l
theorem inR64 {n : Int} (h0 : -9223372036854775808 ≤ n) (h1 : n ≤ 9223372036854775807) : InR .i64 n := ⟨h0, h1⟩

/-- a contract holds of what is told more closely -/
theorem fc_wk {P : Program} {f : Nat} {caps caps' args args' : List D} {out : Out} (hc : wkL caps caps') (ha : wkL args args') (hns : ∀ ys, out ≠ .seq ys) (h : FC P f caps' args' out) : FC P f caps args out := by
  cases out with
  | ret d => exact ⟨h.1, fun S w cs vs hla hx h1 h2 => h.2 S w cs vs hla hx (wkL_ok _ _ hc h1) (wkL_ok _ _ ha h2)⟩
  | own e sz rows => exact ⟨h.1, fun S w cs vs hla hx h1 h2 => h.2 S w cs vs hla hx (wkL_ok _ _ hc h1) (wkL_ok _ _ ha h2)⟩
  | seq ys => exact absurd rfl (hns ys)
  | pan d => exact ⟨h.1, fun S w cs vs hla hx h1 h2 => h.2 S w cs vs hla hx (wkL_ok _ _ hc h1) (wkL_ok _ _ ha h2)⟩
theorem eq_of_at {α : Type} (d : α) {l k : List α} (hl : l.length = k.length) (h : ∀ j, j < l.length → l.getD j d = k.getD j d) : l = k := by
  apply List.ext_getElem hl
  intro j h1 h2
  have := h j h1
  rwa [List.getD_eq_getElem?_getD, List.getD_eq_getElem?_getD, List.getElem?_eq_getElem h1, List.getElem?_eq_getElem h2] at this
theorem lt_cases {j i : Nat} (h : j < i + 1) : j < i ∨ j = i := by omega
theorem take_map_succ {α : Type} (e : α → List D) (d : α) (l : List α) (i : Nat) (h : i < l.length) : (l.take i).map e ++ [e (l.getD i d)] = (l.take (i + 1)).map e := by
  rw [List.take_add_one, List.getElem?_eq_getElem h, List.map_append, List.getD_eq_getElem?_getD, List.getElem?_eq_getElem h]
  rfl

/-! tables of contracts -/
def spc : List (Nat × (List D → List D → Prop × Out)) → Nat → List D → List D → Prop × Out
  | [], _ => fun _ _ => (False, .ret .any)
  | (g, c) :: l, f => if f = g then c else spc l f
def mps : List (Nat × List Nat × (List D → Hp → MS)) → Nat → List Nat
  | [], _ => []
  | (g, ps, _) :: l, f => if f = g then ps else mps l f
def mms : List (Nat × List Nat × (List D → Hp → MS)) → Nat → List D → Hp → MS
  | [], _ => fun _ _ => .bad
  | (g, _, c) :: l, f => if f = g then c else mms l f
def tab (l : List (Nat × (List D → List D → Prop × Out))) (m : List (Nat × List Nat × (List D → Hp → MS))) (js : List Nat := []) : Spec := ⟨spc l, mps m, mms m, js⟩
def StC (P : Program) (f : Nat) (c : List D → List D → Prop × Out) : Prop := ∀ caps args, (c caps args).1 → FC P f caps args (c caps args).2
def StMC (P : Program) (f : Nat) (ps : List Nat) (c : List D → Hp → MS) : Prop := ∀ ds H pre mu o1 out, c ds H = .yes pre mu o1 out → pre → FCM P f (flg ps 0 ds) (objs H mu) o1 out
section
variable {P : Program} {f g : Nat} {l : List (Nat × (List D → List D → Prop × Out))} {m : List (Nat × List Nat × (List D → Hp → MS))} {c : List D → List D → Prop × Out} {k : List D → Hp → MS} {ps js : List Nat}
theorem tab_c : (tab l m js).c f = spc l f := rfl
theorem tab_mp : (tab l m js).mp f = mps m f := rfl
theorem tab_m : (tab l m js).m f = mms m f := rfl
theorem tab_js : (tab l m js).js = js := rfl
theorem isJ_nil {i : Nat} : isJ [] i = false := rfl
theorem isJ_cons {i j : Nat} {r : List Nat} : isJ (j :: r) i = (decide (i = j) || isJ r i) := by
  simp only [isJ]
  congr 1
  by_cases h : i = j
  · subst h; simp
  · have h2 : Nat.beq i j = false := Bool.eq_false_iff.2 fun e => h (Nat.eq_of_beq_eq_true e)
    simp [h, h2]
theorem St_tab : St P (tab l m js) f = StC P f (spc l f) := rfl
theorem StM_tab : StM P (tab l m js) f = StMC P f (mps m f) (mms m f) := rfl
theorem spc_cons : spc ((g, c) :: l) f = if f = g then c else spc l f := rfl
theorem mps_nil : mps [] f = [] := rfl
theorem mps_cons : mps ((g, ps, k) :: m) f = if f = g then ps else mps m f := rfl
theorem mms_cons : mms ((g, ps, k) :: m) f = if f = g then k else mms m f := rfl
end
end Go.Tn
namespace Go.Tn
theorem aa {a b : Prop} : (a ∧ (a → b)) = (a ∧ b) := propext ⟨fun h => ⟨h.1, h.2 h.1⟩, fun h => ⟨h.1, fun _ => h.2⟩⟩
theorem inR_iff {n : Int} : InR .i64 n = (-9223372036854775808 ≤ n ∧ n ≤ 9223372036854775807) := rfl
theorem inR_u64 {n : Int} : InR .u64 n = (0 ≤ n ∧ n ≤ 18446744073709551615) := rfl
theorem tn_add (a b : Nat) : ((a : Int) + (b : Int)).toNat = a + b := by omega
theorem tn_add1 (a : Nat) : ((a : Int) + 1).toNat = a + 1 := by omega
theorem tn_sub (a b : Nat) : ((a : Int) - (b : Int)).toNat = a - b := by omega
theorem tn_sub1 (a : Nat) : ((a : Int) - 1).toNat = a - 1 := by omega
theorem eI_set (l : List Int) (k : Nat) (x : Int) : (l.map eI).set k [.int .i64 x] = (l.set k x).map eI := by rw [List.map_set]; rfl
end Go.Tn
namespace Go.Tn
theorem sh1 (x : Int) : x / 2 ^ (1 : Int).toNat = x / 2 := rfl
theorem sh1b : ((1 : Int).toNat ≤ IntKind.bits .u64) = True := eq_true (by decide)
theorem half_cast (i j : Nat) : ((i : Int) + (j : Int)) / 2 = (((i + j) / 2 : Nat) : Int) := by omega
end Go.Tn

/- Stable sorting in place, told without any program: segments, turns, merges. -/
namespace Go.Tn.Ps
variable {α : Type}

/-! places read elsewhere -/
def reidx (φ : Nat → Nat) (l : List α) : List α := (List.range l.length).filterMap fun p => l[φ p]?
theorem reidx_get {φ : Nat → Nat} {l : List α} (h : ∀ p, p < l.length → φ p < l.length) (p : Nat) : (reidx φ l)[p]? = if p < l.length then l[φ p]? else none := by
  have e : reidx φ l = (List.range l.length).pmap (fun p hp => l[φ p]'(h p hp)) (fun p hp => List.mem_range.1 hp) := by
    unfold reidx
    have : ∀ (r : List Nat) (hr : ∀ p ∈ r, p < l.length), (r.filterMap fun p => l[φ p]?) = r.pmap (fun p hp => l[φ p]'(h p hp)) hr := by
      intro r
      induction r with
      | nil => intro _; rfl
      | cons p r ih =>
        intro hr
        have hp := h p (hr p (by simp))
        rw [List.filterMap_cons, List.getElem?_eq_getElem hp, List.pmap_cons, ih (fun q hq => hr q (by simp [hq]))]
    exact this _ _
  rw [e]
  by_cases hp : p < l.length
  · rw [if_pos hp, List.getElem?_pmap]
    simp [hp, h p hp]
  · rw [if_neg hp]
    simp; omega
theorem reidx_len {φ : Nat → Nat} {l : List α} (h : ∀ p, p < l.length → φ p < l.length) : (reidx φ l).length = l.length := by
  have h1 := reidx_get h l.length
  rw [if_neg (Nat.lt_irrefl _)] at h1
  have h2 : (reidx φ l).length ≤ l.length := by simpa using h1
  rcases Nat.lt_or_eq_of_le h2 with h3 | h3
  · have h4 := reidx_get h (reidx φ l).length
    rw [if_pos h3, List.getElem?_eq_none (Nat.le_refl _)] at h4
    have := h _ h3
    rw [List.getElem?_eq_getElem this] at h4; cases h4
  · exact h3
theorem eq_reidx {φ : Nat → Nat} {l k : List α} (h : ∀ p, p < l.length → φ p < l.length) (hl : k.length = l.length) (hk : ∀ p, p < l.length → k[p]? = l[φ p]?) : k = reidx φ l := by
  apply List.ext_getElem?
  intro p
  rw [reidx_get h]
  split
  · rename_i hp; exact hk p hp
  · rename_i hp; rw [List.getElem?_eq_none (by omega)]
theorem reidx_map {β : Type} (f : α → β) {φ : Nat → Nat} {l : List α} (h : ∀ p, p < l.length → φ p < l.length) : (reidx φ l).map f = reidx φ (l.map f) := by
  refine eq_reidx (by simpa using h) (by simp [reidx_len h]) fun p hp => ?_
  have hp' : p < l.length := by simpa using hp
  rw [List.getElem?_map, reidx_get h, if_pos hp', List.getElem?_map]

/-- two places change about -/
def swp (d : α) (l : List α) (i j : Nat) : List α := (l.set i (l.getD j d)).set j (l.getD i d)
theorem swp_len (d : α) (l : List α) (i j : Nat) : (swp d l i j).length = l.length := by simp [swp]
theorem swp_get (d : α) {l : List α} {i j : Nat} (hi : i < l.length) (hj : j < l.length) (p : Nat) : (swp d l i j)[p]? = if p = j then l[i]? else if p = i then l[j]? else l[p]? := by
  unfold swp
  rw [List.getElem?_set]
  by_cases h1 : j = p
  · subst h1; simp [hi, hj, List.getD_eq_getElem?_getD]
  · rw [if_neg h1, if_neg (Ne.symm h1), List.getElem?_set]
    by_cases h2 : i = p
    · subst h2; simp [hi, hj, List.getD_eq_getElem?_getD]
    · rw [if_neg h2, if_neg (Ne.symm h2)]
theorem swp_perm (d : α) {l : List α} {i j : Nat} (hi : i < l.length) (hj : j < l.length) : (swp d l i j).Perm l := by
  have := List.set_set_perm (as := l) hi hj
  unfold swp
  rwa [List.getD_eq_getElem?_getD, List.getD_eq_getElem?_getD, List.getElem?_eq_getElem hi, List.getElem?_eq_getElem hj]

/-! n places from a on change about with n places from b on -/
def swF (a b n p : Nat) : Nat := if a ≤ p ∧ p < a + n then p - a + b else if b ≤ p ∧ p < b + n then p - b + a else p
def swr (l : List α) (a b n : Nat) : List α := reidx (swF a b n) l
theorem swF_lt {a b n m p : Nat} (h1 : a + n ≤ b) (h2 : b + n ≤ m) (hp : p < m) : swF a b n p < m := by unfold swF; (repeat' split) <;> omega
theorem swr_len {l : List α} {a b n : Nat} (h1 : a + n ≤ b) (h2 : b + n ≤ l.length) : (swr l a b n).length = l.length := reidx_len fun _ hp => swF_lt h1 h2 hp
theorem swr_get {l : List α} {a b n : Nat} (h1 : a + n ≤ b) (h2 : b + n ≤ l.length) (p : Nat) : (swr l a b n)[p]? = if p < l.length then l[swF a b n p]? else none := reidx_get (fun _ hp => swF_lt h1 h2 hp) p
theorem swr_zero (l : List α) (a b : Nat) : swr l a b 0 = l := by
  refine (eq_reidx (φ := swF a b 0) (fun p hp => ?_) rfl fun p hp => ?_).symm
  · unfold swF; (repeat' split) <;> omega
  · have : swF a b 0 p = p := by unfold swF; (repeat' split) <;> omega
    rw [this]
theorem swr_succ (d : α) {l : List α} {a b n : Nat} (h1 : a + (n + 1) ≤ b) (h2 : b + (n + 1) ≤ l.length) : swp d (swr l a b n) (a + n) (b + n) = swr l a b (n + 1) := by
  have hl := swr_len (l := l) (a := a) (b := b) (n := n) (by omega) (by omega)
  refine eq_reidx (fun p hp => swF_lt h1 h2 hp) (by rw [swp_len, hl]) fun p hp => ?_
  rw [swp_get d (by omega) (by omega)]
  simp only [swr_get (l := l) (a := a) (b := b) (n := n) (by omega) (by omega)]
  rw [if_pos (show a + n < l.length by omega), if_pos (show b + n < l.length by omega), if_pos hp]
  have e1 : swF a b n (a + n) = a + n := by unfold swF; (repeat' split) <;> omega
  have e2 : swF a b n (b + n) = b + n := by unfold swF; (repeat' split) <;> omega
  rw [e1, e2]
  by_cases c1 : p = b + n
  · subst c1
    have : swF a b (n + 1) (b + n) = a + n := by unfold swF; (repeat' split) <;> omega
    rw [if_pos rfl, this]
  · rw [if_neg c1]
    by_cases c2 : p = a + n
    · subst c2
      have : swF a b (n + 1) (a + n) = b + n := by unfold swF; (repeat' split) <;> omega
      rw [if_pos rfl, this]
    · rw [if_neg c2]
      have : swF a b (n + 1) p = swF a b n p := by
        unfold swF
        repeat' split
        all_goals omega
      rw [this]

/-! what stands from a to m, and what stands from m to b, change about -/
def roF (a m b p : Nat) : Nat := if a ≤ p ∧ p < a + (b - m) then p - a + m else if a + (b - m) ≤ p ∧ p < b then p - (b - m) else p
def rot (l : List α) (a m b : Nat) : List α := reidx (roF a m b) l
theorem roF_lt {a m b k p : Nat} (h1 : a ≤ m) (h2 : m ≤ b) (h3 : b ≤ k) (hp : p < k) : roF a m b p < k := by unfold roF; (repeat' split) <;> omega
theorem rot_len {l : List α} {a m b : Nat} (h1 : a ≤ m) (h2 : m ≤ b) (h3 : b ≤ l.length) : (rot l a m b).length = l.length := reidx_len fun _ hp => roF_lt h1 h2 h3 hp
theorem rot_get {l : List α} {a m b : Nat} (h1 : a ≤ m) (h2 : m ≤ b) (h3 : b ≤ l.length) (p : Nat) : (rot l a m b)[p]? = if p < l.length then l[roF a m b p]? else none := reidx_get (fun _ hp => roF_lt h1 h2 h3 hp) p
theorem rot_great {l : List α} {m i j : Nat} (hj : j ≤ i) (h1 : i ≤ m) (h2 : m + j ≤ l.length) : rot (swr l (m - i) m j) (m - i + j) m (m + j) = rot l (m - i) m (m + j) := by
  have hl := swr_len (l := l) (a := m - i) (b := m) (n := j) (by omega) (by omega)
  refine eq_reidx (fun p hp => roF_lt (by omega) (by omega) h2 hp) (by rw [rot_len (by omega) (by omega) (by omega), hl]) fun p hp => ?_
  rw [rot_get (by omega) (by omega) (by omega), hl, if_pos hp, swr_get (by omega) (by omega), if_pos (roF_lt (by omega) (by omega) h2 hp)]
  congr 1
  unfold roF swF
  repeat' split
  all_goals omega
theorem rot_small {l : List α} {m i j : Nat} (hi : i ≤ j) (h1 : i ≤ m) (h2 : m + j ≤ l.length) : rot (swr l (m - i) (m + j - i) i) (m - i) m (m + j - i) = rot l (m - i) m (m + j) := by
  have hl := swr_len (l := l) (a := m - i) (b := m + j - i) (n := i) (by omega) (by omega)
  refine eq_reidx (fun p hp => roF_lt (by omega) (by omega) h2 hp) (by rw [rot_len (by omega) (by omega) (by omega), hl]) fun p hp => ?_
  rw [rot_get (by omega) (by omega) (by omega), hl, if_pos hp, swr_get (by omega) (by omega), if_pos (roF_lt (by omega) (by omega) (by omega) hp)]
  congr 1
  unfold roF swF
  repeat' split
  all_goals omega
theorem rot_same {l : List α} {m i : Nat} (h1 : i ≤ m) (h2 : m + i ≤ l.length) : swr l (m - i) m i = rot l (m - i) m (m + i) := by
  refine eq_reidx (fun p hp => roF_lt (by omega) (by omega) h2 hp) (swr_len (by omega) (by omega)) fun p hp => ?_
  rw [swr_get (by omega) (by omega), if_pos hp]
  congr 1
  unfold roF swF
  repeat' split
  all_goals omega
theorem seg_get (l : List α) (a b p : Nat) : ((l.take b).drop a)[p]? = if a + p < b then l[a + p]? else none := by
  rw [List.getElem?_drop, List.getElem?_take]
theorem rot_eq {l : List α} {a m b : Nat} (h1 : a ≤ m) (h2 : m ≤ b) (h3 : b ≤ l.length) : rot l a m b = l.take a ++ ((l.take b).drop m ++ ((l.take m).drop a ++ l.drop b)) := by
  apply List.ext_getElem?
  intro p
  rw [rot_get h1 h2 h3]
  simp only [List.getElem?_append, List.length_take, List.length_drop, seg_get, List.getElem?_take, List.getElem?_drop, roF]
  repeat' split
  all_goals first | (exfalso; omega) | (congr 1; omega) | (exact (List.getElem?_eq_none (by omega)).symm) | (exact List.getElem?_eq_none (by omega)) | rfl
end Go.Tn.Ps

/- Stable sorting, by what stands ahead of what. -/
namespace Go.Tn.Ps
variable {α : Type} {le : α → α → Bool}

def srt (le : α → α → Bool) (l : List α) : List α := l.mergeSort le
def seg (f : List α → List α) (l : List α) (a b : Nat) : List α := l.take a ++ (f ((l.take b).drop a) ++ l.drop b)
structure Pre (le : α → α → Bool) : Prop where
  tr : ∀ a b c, le a b = true → le b c = true → le a c = true
  to : ∀ a b, le a b = true ∨ le b a = true
theorem Pre.tot (h : Pre le) (a b : α) : (le a b || le b a) = true := by rcases h.to a b with h | h <;> simp [h]
theorem Pre.lt (h : Pre le) {a b : α} (hl : le a b = false) : le b a = true := by
  rcases h.to a b with h | h
  · rw [hl] at h; cases h
  · exact h

abbrev lx (le : α → α → Bool) (x y : α × Nat) : Prop := List.zipIdxLE le x y = true
theorem lx_iff {x y : α × Nat} : lx le x y ↔ le x.1 y.1 = true ∧ (le y.1 x.1 = true → x.2 ≤ y.2) := by
  unfold lx List.zipIdxLE
  cases le x.1 y.1 <;> cases le y.1 x.1 <;> simp
theorem lx_tr (h : Pre le) {x y z : α × Nat} (h1 : lx le x y) (h2 : lx le y z) : lx le x z := List.zipIdxLE_trans h.tr _ _ _ h1 h2

/-- tags that rise -/
abbrev Rise (X : List (α × Nat)) : Prop := X.Pairwise (fun a b => a.2 < b.2)
theorem rise_inj {X : List (α × Nat)} (h : Rise X) {x y : α × Nat} (hx : x ∈ X) (hy : y ∈ X) (e : x.2 = y.2) : x = y := by
  obtain ⟨i, hi, rfl⟩ := List.getElem_of_mem hx
  obtain ⟨j, hj, rfl⟩ := List.getElem_of_mem hy
  have h1 := List.pairwise_iff_getElem.1 h
  rcases Nat.lt_trichotomy i j with h2 | h2 | h2
  · have := h1 i j hi hj h2; omega
  · subst h2; rfl
  · have := h1 j i hj hi h2; omega
theorem srt_of_rise (_h : Pre le) {X : List (α × Nat)} (hr : Rise X) : (X.mergeSort (List.zipIdxLE le)).map (·.1) = srt le (X.map (·.1)) := by
  let Z := X.zipIdx
  let r : (α × Nat) × Nat → (α × Nat) × Nat → Bool := fun a b => List.zipIdxLE le a.1 b.1
  have h1 : X = Z.map (·.1) := (List.zipIdx_map_fst 0 X).symm
  have h2 : (X.map (·.1)).zipIdx = Z.map (fun z => (z.1.1, z.2)) := by
    simp only [Z]
    rw [List.zipIdx_map]
    apply List.map_congr_left
    intro z _; rfl
  have e1 : (Z.mergeSort r).map (·.1) = X.mergeSort (List.zipIdxLE le) := by
    conv => rhs; rw [h1]
    exact List.map_mergeSort (fun a _ b _ => rfl)
  have e2 : (Z.mergeSort r).map (fun z => (z.1.1, z.2)) = ((X.map (·.1)).zipIdx).mergeSort (List.zipIdxLE le) := by
    rw [h2]
    refine List.map_mergeSort (fun a ha b hb => ?_)
    obtain ⟨i, hi, rfl⟩ := List.getElem_of_mem ha
    obtain ⟨j, hj, rfl⟩ := List.getElem_of_mem hb
    have hi' : i < X.length := by simpa [Z] using hi
    have hj' : j < X.length := by simpa [Z] using hj
    simp only [r, Z, List.getElem_zipIdx]
    have hh := List.pairwise_iff_getElem.1 hr
    have key : (X[i].2 ≤ X[j].2) ↔ (i ≤ j) := by
      rcases Nat.lt_trichotomy i j with h2 | h2 | h2
      · have := hh i j hi' hj' h2; omega
      · subst h2; simp
      · have := hh j i hj' hi' h2; omega
    unfold List.zipIdxLE
    simp only [Nat.zero_add, key]
  rw [← e1]
  have := congrArg (List.map (fun x : α × Nat => x.1)) e2
  rw [List.mergeSort_zipIdx] at this
  unfold srt
  rw [← this]
  simp [List.map_map, Function.comp_def]
theorem srt_uniq (h : Pre le) {X Y : List (α × Nat)} (hr : Rise X) (hp : Y.Perm X) (hs : Y.Pairwise (lx le)) : Y.map (·.1) = srt le (X.map (·.1)) := by
  rw [← srt_of_rise h hr]
  congr 1
  refine List.Perm.eq_of_pairwise (le := lx le) (fun a b ha hb h1 h2 => ?_) hs (List.pairwise_mergeSort (List.zipIdxLE_trans h.tr) (List.zipIdxLE_total h.tot) X) (hp.trans (List.mergeSort_perm X _).symm)
  have ha' := hp.mem_iff.1 ha
  have hb' := (List.mergeSort_perm X (List.zipIdxLE le)).mem_iff.1 hb
  refine rise_inj hr ha' hb' ?_
  obtain ⟨a1, a2⟩ := lx_iff.1 h1
  obtain ⟨b1, b2⟩ := lx_iff.1 h2
  have := a2 b1
  have := b2 a1
  omega
theorem rise_zip (l : List α) (k : Nat) : Rise (l.zipIdx k) := by
  refine List.pairwise_iff_getElem.2 fun i j hi hj hij => ?_
  simp only [List.getElem_zipIdx]; omega
theorem zip_fst (l : List α) (k : Nat) : (l.zipIdx k).map (·.1) = l := List.zipIdx_map_fst k l
theorem srt_len (l : List α) : (srt le l).length = l.length := List.length_mergeSort l
theorem srt_mem {l : List α} {x : α} : x ∈ srt le l ↔ x ∈ l := (List.mergeSort_perm l le).mem_iff
theorem srt_id {l : List α} (h : l.Pairwise (fun a b => le a b = true)) : srt le l = l := List.mergeSort_of_pairwise h
theorem srt_sorted (h : Pre le) (l : List α) : (srt le l).Pairwise (fun a b => le a b = true) := List.pairwise_mergeSort h.tr h.tot l

theorem tag_of {l : List α} {k : Nat} {x : α × Nat} (h : x ∈ l.zipIdx k) : k ≤ x.2 ∧ x.2 < k + l.length ∧ x.1 ∈ l := by
  obtain ⟨i, hi, rfl⟩ := List.getElem_of_mem h
  have hi' : i < l.length := by simpa using hi
  simp only [List.getElem_zipIdx]
  exact ⟨by omega, by omega, List.getElem_mem hi'⟩
/-- two halves, each told apart where the other one is: sorted part by part -/
theorem srt_split (h : Pre le) (A1 A2 B1 B2 : List α) (h1 : ∀ x ∈ A1, ∀ y ∈ A2, le x y = true) (h2 : ∀ x ∈ A1, ∀ y ∈ B2, le x y = true) (h3 : ∀ x ∈ B1, ∀ y ∈ A2, le y x = false) (h4 : ∀ x ∈ B1, ∀ y ∈ B2, le x y = true) :
    srt le ((A1 ++ A2) ++ (B1 ++ B2)) = srt le (A1 ++ B1) ++ srt le (A2 ++ B2) := by
  let a1 := A1.zipIdx 0
  let a2 := A2.zipIdx A1.length
  let b1 := B1.zipIdx (A1.length + A2.length)
  let b2 := B2.zipIdx (A1.length + A2.length + B1.length)
  have hX : ((A1 ++ A2) ++ (B1 ++ B2)).zipIdx = (a1 ++ a2) ++ (b1 ++ b2) := by
    simp only [List.zipIdx_append, a1, a2, b1, b2, List.length_append, Nat.zero_add, Nat.add_assoc]
  have r1 : Rise (a1 ++ b1) := by
    refine List.pairwise_append.2 ⟨rise_zip _ _, rise_zip _ _, fun x hx y hy => ?_⟩
    have := tag_of hx; have := tag_of hy; omega
  have r2 : Rise (a2 ++ b2) := by
    refine List.pairwise_append.2 ⟨rise_zip _ _, rise_zip _ _, fun x hx y hy => ?_⟩
    have := tag_of hx; have := tag_of hy; omega
  have sm : ∀ {X : List (α × Nat)} {x : α × Nat}, x ∈ X.mergeSort (List.zipIdxLE le) ↔ x ∈ X := fun {X x} => (List.mergeSort_perm X (List.zipIdxLE le)).mem_iff
  have main := srt_uniq h (X := ((A1 ++ A2) ++ (B1 ++ B2)).zipIdx) (Y := (a1 ++ b1).mergeSort (List.zipIdxLE le) ++ (a2 ++ b2).mergeSort (List.zipIdxLE le)) (rise_zip _ _) ?_ ?_
  · rw [zip_fst, List.map_append, srt_of_rise h r1, srt_of_rise h r2] at main
    rw [← main]
    simp only [List.map_append, a1, a2, b1, b2, zip_fst]
  · rw [hX]
    refine (List.Perm.append (List.mergeSort_perm _ _) (List.mergeSort_perm _ _)).trans ?_
    simp only [List.append_assoc]
    refine List.Perm.append_left _ ?_
    exact List.perm_append_comm_assoc _ _ _
  · refine List.pairwise_append.2 ⟨List.pairwise_mergeSort (List.zipIdxLE_trans h.tr) (List.zipIdxLE_total h.tot) _, List.pairwise_mergeSort (List.zipIdxLE_trans h.tr) (List.zipIdxLE_total h.tot) _, fun x hx y hy => lx_iff.2 ?_⟩
    rcases List.mem_append.1 (sm.1 hx) with hx | hx <;> rcases List.mem_append.1 (sm.1 hy) with hy | hy
    · have tx := tag_of hx; have ty := tag_of hy
      exact ⟨h1 _ tx.2.2 _ ty.2.2, fun _ => by omega⟩
    · have tx := tag_of hx; have ty := tag_of hy
      exact ⟨h2 _ tx.2.2 _ ty.2.2, fun _ => by omega⟩
    · have tx := tag_of hx; have ty := tag_of hy
      have hf := h3 _ tx.2.2 _ ty.2.2
      exact ⟨h.lt hf, fun e => by rw [hf] at e; cases e⟩
    · have tx := tag_of hx; have ty := tag_of hy
      exact ⟨h4 _ tx.2.2 _ ty.2.2, fun _ => by omega⟩

/-- the end: all in order by value and by place -/
theorem seg_of_tags (h : Pre le) {l : List α} {t : List (α × Nat)} {a b : Nat} (hab : a ≤ b) (hb : b ≤ l.length) (hp : t.Perm l.zipIdx) (ho : ∀ p, p < a ∨ b ≤ p → t[p]? = l.zipIdx[p]?)
    (hs : ∀ p q x y, a ≤ p → p < q → q < b → t[p]? = some x → t[q]? = some y → lx le x y) : t.map (·.1) = seg (srt le) l a b := by
  have hlen : t.length = l.length := by rw [hp.length_eq]; simp
  have e1 : t.take a = l.zipIdx.take a := by
    apply List.ext_getElem?; intro p
    rw [List.getElem?_take, List.getElem?_take]
    split
    · exact ho p (.inl (by assumption))
    · rfl
  have e2 : t.drop b = l.zipIdx.drop b := by
    apply List.ext_getElem?; intro p
    rw [List.getElem?_drop, List.getElem?_drop]
    exact ho _ (.inr (by omega))
  have sp : ∀ k : List (α × Nat), k = k.take a ++ ((k.take b).drop a ++ k.drop b) := fun k => by
    have h1 : k.take a ++ (k.take b).drop a = k.take b := by
      have := List.take_append_drop a (k.take b)
      rwa [List.take_take, Nat.min_eq_left hab] at this
    rw [← List.append_assoc, h1, List.take_append_drop]
  have hmid : ((t.take b).drop a).Perm ((l.zipIdx.take b).drop a) := by
    have h1 := hp
    rw [sp t, sp l.zipIdx, e1, e2] at h1
    exact (List.perm_append_right_iff _).1 ((List.perm_append_left_iff _).1 h1)
  have hsr : ((t.take b).drop a).Pairwise (lx le) := by
    refine List.pairwise_iff_getElem.2 fun i j hi hj hij => ?_
    have hi' : a + i < b := by simp at hi; omega
    have hj' : a + j < b := by simp at hj; omega
    have g : ∀ k (hk : k < ((t.take b).drop a).length), t[a + k]? = some ((t.take b).drop a)[k] := fun k hk => by
      have := seg_get t a b k
      rw [List.getElem?_eq_getElem hk] at this
      simp at hk
      rw [if_pos (by omega)] at this
      exact this.symm
    exact hs (a + i) (a + j) _ _ (by omega) (by omega) hj' (g i hi) (g j hj)
  have hr : Rise ((l.zipIdx.take b).drop a) := ((rise_zip l 0).sublist (List.take_sublist _ _)).sublist (List.drop_sublist _ _)
  have hm := srt_uniq h hr hmid hsr
  have hmap : ((l.zipIdx.take b).drop a).map (·.1) = (l.take b).drop a := by rw [List.map_drop, List.map_take, zip_fst]
  rw [hmap] at hm
  conv => lhs; rw [sp t]
  unfold seg
  rw [List.map_append, List.map_append, hm, e1, e2, List.map_take, List.map_drop, zip_fst]
theorem seg_len {f : List α → List α} (hf : ∀ l, (f l).length = l.length) {l : List α} {a b : Nat} (hab : a ≤ b) (hb : b ≤ l.length) : (seg f l a b).length = l.length := by
  unfold seg; simp [hf]; omega
end Go.Tn.Ps

/- Sorting by insertion; merging by turning. -/
namespace Go.Tn.Ps
variable {α : Type} {le : α → α → Bool}

theorem Pre.rfl (h : Pre le) (a : α) : le a a = true := by rcases h.to a a with h | h <;> exact h
structure OutI (le : α → α → Bool) (l : List α) (a : Nat) (t : List (α × Nat)) (i : Nat) : Prop where
  pm : t.Perm l.zipIdx
  out : ∀ p, p < a ∨ i ≤ p → t[p]? = l.zipIdx[p]?
  ss : ∀ p q x y, a ≤ p → p < q → q < i → t[p]? = some x → t[q]? = some y → lx le x y
  tg : ∀ p x, a ≤ p → p < i → t[p]? = some x → x.2 < i
  st : i = a + 1 → t = l.zipIdx
structure InI (le : α → α → Bool) (l : List α) (a i : Nat) (t : List (α × Nat)) (j : Nat) : Prop where
  pm : t.Perm l.zipIdx
  aj : a ≤ j
  ji : j ≤ i
  out : ∀ p, p < a ∨ i + 1 ≤ p → t[p]? = l.zipIdx[p]?
  cur : t[j]? = l.zipIdx[i]?
  s1 : ∀ p q x y, a ≤ p → p < q → q ≤ i → p ≠ j → q ≠ j → t[p]? = some x → t[q]? = some y → lx le x y
  s2 : ∀ q x y, j < q → q ≤ i → t[j]? = some x → t[q]? = some y → lx le x y
  tg : ∀ p x, a ≤ p → p ≤ i → p ≠ j → t[p]? = some x → x.2 < i

theorem out_start (l : List α) (a : Nat) : OutI le l a l.zipIdx (a + 1) := by
  refine ⟨List.Perm.refl _, fun _ _ => rfl, fun p q x y h1 h2 h3 => by omega, fun p x h1 h2 hx => ?_, fun _ => rfl⟩
  rw [List.getElem?_zipIdx] at hx
  obtain ⟨z, _, rfl⟩ := Option.map_eq_some_iff.1 hx
  simp; omega
theorem in_start {l : List α} {a i : Nat} {t : List (α × Nat)} (h : OutI le l a t i) (ha : a ≤ i) : InI le l a i t i :=
  ⟨h.pm, ha, Nat.le_refl _, fun p hp => h.out p (by omega), h.out i (.inr (Nat.le_refl _)), fun p q x y h1 h2 h3 h4 h5 => h.ss p q x y h1 h2 (by omega), fun q x y h1 h2 => by omega, fun p x h1 h2 h3 => h.tg p x h1 (by omega)⟩
theorem in_len {l : List α} {a i j : Nat} {t : List (α × Nat)} (h : InI le l a i t j) : t.length = l.length := by rw [h.pm.length_eq]; simp
theorem in_step (hp : Pre le) {l : List α} {a i j : Nat} {t : List (α × Nat)} (d : α × Nat) (h : InI le l a i t j) (hi : i < l.length) (hj : a < j) (hlt : ∀ x y, t[j]? = some x → t[j - 1]? = some y → le y.1 x.1 = false) :
    InI le l a i (swp d t j (j - 1)) (j - 1) := by
  have hlen := in_len h
  have hji := h.ji
  have g := fun p => swp_get d (l := t) (i := j) (j := j - 1) (by omega) (by omega) p
  refine ⟨(swp_perm d (by omega) (by omega)).trans h.pm, by omega, by omega, fun p hp => ?_, ?_, fun p q x y h1 h2 h3 h4 h5 hx hy => ?_, fun q x y h1 h2 hx hy => ?_, fun p x h1 h2 h3 hx => ?_⟩
  · rw [g, if_neg (by omega), if_neg (by omega)]; exact h.out p hp
  · rw [g, if_pos rfl]; exact h.cur
  · rw [g, if_neg h4] at hx
    rw [g, if_neg h5] at hy
    by_cases c1 : p = j
    · rw [if_pos c1] at hx
      rw [if_neg (by omega)] at hy
      exact h.s1 (j - 1) q x y (by omega) (by omega) h3 (by omega) (by omega) hx hy
    · rw [if_neg c1] at hx
      by_cases c2 : q = j
      · rw [if_pos c2] at hy
        exact h.s1 p (j - 1) x y h1 (by omega) (by omega) c1 (by omega) hx hy
      · rw [if_neg c2] at hy
        exact h.s1 p q x y h1 h2 h3 c1 c2 hx hy
  · rw [g, if_pos rfl] at hx
    rw [g, if_neg (by omega)] at hy
    by_cases c : q = j
    · rw [if_pos c] at hy
      have := hlt x y hx hy
      exact lx_iff.2 ⟨hp.lt this, fun e => by rw [this] at e; cases e⟩
    · rw [if_neg c] at hy
      exact h.s2 q x y (by omega) h2 hx hy
  · rw [g, if_neg h3] at hx
    by_cases c : p = j
    · rw [if_pos c] at hx; exact h.tg (j - 1) x (by omega) (by omega) (by omega) hx
    · rw [if_neg c] at hx; exact h.tg p x h1 h2 c hx
theorem in_end (hp : Pre le) {l : List α} {a i j : Nat} {t : List (α × Nat)} (h : InI le l a i t j) (ha : a < i) (hi : i < l.length) (he : j = a ∨ ∀ x y, t[j]? = some x → t[j - 1]? = some y → le y.1 x.1 = true) : OutI le l a t (i + 1) := by
  have hlen := in_len h
  have hji := h.ji
  have haj := h.aj
  have hcur : ∀ x, t[j]? = some x → x.2 = i := fun x hx => by
    rw [h.cur, List.getElem?_zipIdx] at hx
    obtain ⟨z, _, rfl⟩ := Option.map_eq_some_iff.1 hx
    simp
  refine ⟨h.pm, fun p hp => h.out p hp, fun p q x y h1 h2 h3 hx hy => ?_, fun p x h1 h2 hx => ?_, fun e => by omega⟩
  · by_cases c1 : p = j
    · subst c1; exact h.s2 q x y h2 (by omega) hx hy
    · by_cases c2 : q = j
      · subst c2
        rcases he with he | he
        · omega
        · have hz : ∃ z, t[q - 1]? = some z := ⟨t[q - 1]'(by omega), List.getElem?_eq_getElem (by omega)⟩
          obtain ⟨z, hz⟩ := hz
          have h4 := he y z hy hz
          have h5 : le x.1 z.1 = true := by
            by_cases c3 : p = q - 1
            · rw [← c3, hx] at hz; cases hz
              rcases hp.to x.1 x.1 with h | h <;> exact h
            · exact (lx_iff.1 (h.s1 p (q - 1) x z h1 (by omega) (by omega) c1 (by omega) hx hz)).1
          refine lx_iff.2 ⟨hp.tr _ _ _ h5 h4, fun _ => ?_⟩
          have := h.tg p x h1 (by omega) c1 hx
          have := hcur y hy
          omega
      · exact h.s1 p q x y h1 h2 (by omega) c1 c2 hx hy
  · by_cases c : p = j
    · subst c; have := hcur x hx; omega
    · have := h.tg p x h1 (by omega) c hx; omega
theorem out_end (hp : Pre le) {l : List α} {a b i : Nat} {t : List (α × Nat)} (h : OutI le l a t i) (hab : a ≤ b) (hb : b ≤ l.length) (hi : b ≤ i) (hi2 : i ≤ b ∨ i = a + 1) : t.map (·.1) = seg (srt le) l a b := by
  by_cases c : i = a + 1
  · rw [h.st c]
    exact seg_of_tags hp hab hb (List.Perm.refl _) (fun _ _ => rfl) (fun p q x y h1 h2 h3 => by omega)
  · have : i = b := by omega
    subst this
    exact seg_of_tags hp hab hb h.pm h.out h.ss

/-! merging -/
def Sd (le : α → α → Bool) (l : List α) (a b : Nat) : Prop := ∀ p q x y, a ≤ p → p < q → q < b → l[p]? = some x → l[q]? = some y → le x y = true
theorem Sd.mid {l : List α} {a b : Nat} (h : Sd le l a b) : ((l.take b).drop a).Pairwise (fun x y => le x y = true) := by
  refine List.pairwise_iff_getElem.2 fun i j hi hj hij => ?_
  have g : ∀ k (hk : k < ((l.take b).drop a).length), l[a + k]? = some ((l.take b).drop a)[k] ∧ a + k < b := fun k hk => by
    have := seg_get l a b k
    rw [List.getElem?_eq_getElem hk] at this
    simp at hk
    rw [if_pos (by omega)] at this
    exact ⟨this.symm, by omega⟩
  exact h (a + i) (a + j) _ _ (by omega) (by omega) (g j hj).2 (g i hi).1 (g j hj).1
theorem split3 (l : List α) {a b : Nat} (hab : a ≤ b) : l = l.take a ++ ((l.take b).drop a ++ l.drop b) := by
  have h1 : l.take a ++ (l.take b).drop a = l.take b := by
    have := List.take_append_drop a (l.take b)
    rwa [List.take_take, Nat.min_eq_left hab] at this
  rw [← List.append_assoc, h1, List.take_append_drop]
theorem seg_id {l : List α} {a b : Nat} (hab : a ≤ b) (h : Sd le l a b) : seg (srt le) l a b = l := by
  unfold seg
  rw [srt_id h.mid]
  exact (split3 l hab).symm
theorem mem_mid {l : List α} {a b : Nat} {x : α} (h : x ∈ (l.take b).drop a) : ∃ p, a ≤ p ∧ p < b ∧ l[p]? = some x := by
  obtain ⟨i, hi, rfl⟩ := List.getElem_of_mem h
  have := seg_get l a b i
  rw [List.getElem?_eq_getElem hi] at this
  simp at hi
  rw [if_pos (by omega)] at this
  exact ⟨a + i, by omega, by omega, this.symm⟩
theorem rot_triv {l : List α} {a m b : Nat} (h1 : a ≤ m) (h2 : m ≤ b) (h3 : b ≤ l.length) (h : a = m ∨ m = b) : rot l a m b = l := by
  refine (eq_reidx (φ := roF a m b) (fun p hp => roF_lt h1 h2 h3 hp) rfl fun p hp => ?_).symm
  have : roF a m b p = p := by unfold roF; (repeat' split) <;> omega
  rw [this]
/-- what stands where behind the turn -/
theorem sym_join (hp : Pre le) {l : List α} {a s m e b : Nat} (h1 : a ≤ s) (h2 : s ≤ m) (h3 : m ≤ e) (h4 : e ≤ b) (h5 : b ≤ l.length) (hA : Sd le l a m) (hB : Sd le l m b)
    (c1 : s = a ∨ e = b ∨ ∀ x y, l[s - 1]? = some x → l[e]? = some y → le x y = true) (c2 : s = m ∨ e = m ∨ ∀ x y, l[s]? = some x → l[e - 1]? = some y → le x y = false) :
    seg (srt le) (seg (srt le) (rot l s m e) a (s + (e - m))) (s + (e - m)) b = seg (srt le) l a b := by
  let A1 := (l.take s).drop a
  let A2 := (l.take m).drop s
  let B1 := (l.take e).drop m
  let B2 := (l.take b).drop e
  have lens : A1.length = s - a ∧ A2.length = m - s ∧ B1.length = e - m ∧ B2.length = b - e := by
    simp only [A1, A2, B1, B2, List.length_drop, List.length_take]; omega
  obtain ⟨n1, n2, n3, n4⟩ := lens
  have tk : (l.take a).length = a := by simp; omega
  have get : ∀ p, p < l.length → ∃ x, l[p]? = some x := fun p hp => ⟨l[p], List.getElem?_eq_getElem hp⟩
  have join : ∀ {i j k : Nat}, i ≤ j → j ≤ k → (l.take j).drop i ++ (l.take k).drop j = (l.take k).drop i := fun {i j k} hij hjk => by
    have h1 := split3 (l.take k) hij
    have h2 : (l.take k).take j = l.take j := by rw [List.take_take, Nat.min_eq_left hjk]
    rw [h2] at h1
    have h3 := congrArg (List.drop i) h1
    rw [List.drop_append] at h3
    have h4 : ((l.take k).take i).drop i = [] := List.drop_eq_nil_of_le (by simp; omega)
    rw [h4, List.nil_append] at h3
    have h5 : i - ((l.take k).take i).length = i - min i (min k l.length) := by simp [List.length_take]
    by_cases hi : i ≤ l.length
    · rw [h5, show i - min i (min k l.length) = 0 from by omega, List.drop_zero] at h3
      exact h3.symm
    · have e1 : (l.take j).drop i = [] := List.drop_eq_nil_of_le (by simp; omega)
      have e2 : (l.take k).drop j = [] := List.drop_eq_nil_of_le (by simp; omega)
      have e3 : (l.take k).drop i = [] := List.drop_eq_nil_of_le (by simp; omega)
      rw [e1, e2, e3]; rfl
  have hl : (l.take b).drop a = (A1 ++ A2) ++ (B1 ++ B2) := by
    simp only [A1, A2, B1, B2]
    rw [join h1 h2, join h3 h4, join (Nat.le_trans h1 h2) (Nat.le_trans h3 h4)]
  have hr : rot l s m e = l.take a ++ ((A1 ++ B1) ++ ((A2 ++ B2) ++ l.drop b)) := by
    rw [rot_eq h2 h3 (by omega)]
    have e1 : l.take s = l.take a ++ A1 := by
      have := split3 (l.take s) h1
      rw [List.take_take, Nat.min_eq_left h1, List.drop_take_self, List.append_nil, List.take_take, Nat.min_self] at this
      exact this
    have e2 : l.drop e = B2 ++ l.drop b := by
      have := split3 (l.drop e) (a := 0) (b := b - e) (Nat.zero_le _)
      simp only [List.take_zero, List.nil_append, List.drop_zero, List.drop_drop] at this
      rw [this]
      simp only [B2]
      rw [List.drop_take, show e + (b - e) = b from by omega]
    rw [e1, e2]
    simp only [A1, A2, B1, B2, List.append_assoc]
  have seg_app : ∀ (X Y Z : List α), seg (srt le) (X ++ (Y ++ Z)) X.length (X.length + Y.length) = X ++ (srt le Y ++ Z) := fun X Y Z => by
    unfold seg
    rw [List.take_left]
    have e1 : ((X ++ (Y ++ Z)).take (X.length + Y.length)).drop X.length = Y := by
      rw [← List.append_assoc, List.take_left' (by simp), List.drop_left]
    have e2 : (X ++ (Y ++ Z)).drop (X.length + Y.length) = Z := by
      rw [← List.append_assoc, List.drop_left' (by simp)]
    rw [e1, e2]
  have s1 : seg (srt le) (rot l s m e) a (s + (e - m)) = l.take a ++ (srt le (A1 ++ B1) ++ ((A2 ++ B2) ++ l.drop b)) := by
    rw [hr]
    have := seg_app (l.take a) (A1 ++ B1) ((A2 ++ B2) ++ l.drop b)
    rw [tk, show a + (A1 ++ B1).length = s + (e - m) from by simp [n1, n3]; omega] at this
    exact this
  rw [s1]
  have s2 := seg_app (l.take a ++ srt le (A1 ++ B1)) (A2 ++ B2) (l.drop b)
  have q1 : (l.take a ++ srt le (A1 ++ B1)).length = s + (e - m) := by simp [srt_len, n1, n3, tk]; omega
  rw [q1, show s + (e - m) + (A2 ++ B2).length = b from by simp [n2, n4]; omega] at s2
  rw [List.append_assoc (l.take a) (srt le (A1 ++ B1))] at s2
  rw [s2]
  unfold seg
  rw [hl, srt_split hp A1 A2 B1 B2 ?_ ?_ ?_ ?_]
  · simp only [List.append_assoc]
  · intro x hx y hy
    obtain ⟨p, p1, p2, p3⟩ := mem_mid hx
    obtain ⟨q, q1, q2, q3⟩ := mem_mid hy
    exact hA p q x y p1 (by omega) q2 p3 q3
  · intro x hx y hy
    obtain ⟨p, p1, p2, p3⟩ := mem_mid hx
    obtain ⟨q, q1, q2, q3⟩ := mem_mid hy
    rcases c1 with c | c | c
    · omega
    · omega
    · obtain ⟨u, hu⟩ := get (s - 1) (by omega)
      obtain ⟨v, hv⟩ := get e (by omega)
      have huv := c u v hu hv
      have hxu : le x u = true := by
        by_cases e0 : p = s - 1
        · rw [e0, hu] at p3; cases p3; exact hp.rfl _
        · exact hA p (s - 1) x u p1 (by omega) (by omega) p3 hu
      have hvy : le v y = true := by
        by_cases e0 : q = e
        · rw [e0, hv] at q3; cases q3; exact hp.rfl _
        · exact hB e q v y (by omega) (by omega) q2 hv q3
      exact hp.tr _ _ _ (hp.tr _ _ _ hxu huv) hvy
  · intro x hx y hy
    obtain ⟨p, p1, p2, p3⟩ := mem_mid hx
    obtain ⟨q, q1, q2, q3⟩ := mem_mid hy
    rcases c2 with c | c | c
    · omega
    · omega
    · obtain ⟨u, hu⟩ := get s (by omega)
      obtain ⟨v, hv⟩ := get (e - 1) (by omega)
      have huv := c u v hu hv
      have huy : le u y = true := by
        by_cases e0 : q = s
        · rw [e0, hu] at q3; cases q3; exact hp.rfl _
        · exact hA s q u y (by omega) (by omega) q2 hu q3
      have hxv : le x v = true := by
        by_cases e0 : p = e - 1
        · rw [e0, hv] at p3; cases p3; exact hp.rfl _
        · exact hB p (e - 1) x v p1 (by omega) (by omega) p3 hv
      cases hyx : le y x with
      | false => rfl
      | true => rw [hp.tr _ _ _ huy (hp.tr _ _ _ hyx hxv)] at huv; cases huv
  · intro x hx y hy
    obtain ⟨p, p1, p2, p3⟩ := mem_mid hx
    obtain ⟨q, q1, q2, q3⟩ := mem_mid hy
    exact hB p q x y p1 (by omega) q2 p3 q3
end Go.Tn.Ps
namespace Go.Tn.Ps
variable {α β : Type} {le : α → α → Bool}
theorem swp_map (f : α → β) (d : α) (l : List α) (i j : Nat) : (swp d l i j).map f = swp (f d) (l.map f) i j := by
  have g : ∀ k, (l.map f).getD k (f d) = f (l.getD k d) := fun k => by
    rw [List.getD_eq_getElem?_getD, List.getD_eq_getElem?_getD, List.getElem?_map]
    cases l[k]? <;> rfl
  unfold swp
  rw [List.map_set, List.map_set, g, g]
theorem tag_mem {l : List α} {t : List (α × Nat)} (h : t.Perm l.zipIdx) (d : α) {j : Nat} (hj : j < l.length) : (t.map (·.1)).getD j d ∈ l := by
  have hm := h.map (·.1)
  rw [zip_fst] at hm
  have hl : (t.map (·.1)).length = l.length := hm.length_eq
  rw [List.getD_eq_getElem?_getD, List.getElem?_eq_getElem (by omega)]
  exact hm.mem_iff.1 (List.getElem_mem _)
theorem tag_at {t : List (α × Nat)} {j : Nat} {x : α × Nat} (d : α) (h : t[j]? = some x) : (t.map (·.1)).getD j d = x.1 := by
  rw [List.getD_eq_getElem?_getD, List.getElem?_map, h]; rfl
end Go.Tn.Ps
namespace Go.Tn.Ps
variable {α : Type} {le : α → α → Bool}
theorem rot_up (d : α) {l : List α} {a k : Nat} (h1 : a ≤ k) (h2 : k + 1 < l.length) : swp d (rot l a (a + 1) (k + 1)) k (k + 1) = rot l a (a + 1) (k + 2) := by
  have hl := rot_len (l := l) (a := a) (m := a + 1) (b := k + 1) (by omega) (by omega) (by omega)
  refine eq_reidx (fun p hp => roF_lt (by omega) (by omega) (by omega) hp) (by rw [swp_len, hl]) fun p hp => ?_
  rw [swp_get d (by omega) (by omega)]
  simp only [rot_get (l := l) (a := a) (m := a + 1) (b := k + 1) (by omega) (by omega) (by omega)]
  rw [if_pos (show k < l.length by omega), if_pos (show k + 1 < l.length by omega), if_pos hp]
  have e1 : roF a (a + 1) (k + 1) k = a := by unfold roF; (repeat' split) <;> omega
  have e2 : roF a (a + 1) (k + 1) (k + 1) = k + 1 := by unfold roF; (repeat' split) <;> omega
  rw [e1, e2]
  split
  · have : roF a (a + 1) (k + 2) p = a := by unfold roF; (repeat' split) <;> omega
    rw [this]
  · split
    · have : roF a (a + 1) (k + 2) p = k + 1 := by unfold roF; (repeat' split) <;> omega
      rw [this]
    · have : roF a (a + 1) (k + 2) p = roF a (a + 1) (k + 1) p := by unfold roF; (repeat' split) <;> omega
      rw [this]
theorem rot_down (d : α) {l : List α} {k m : Nat} (h1 : 0 < k) (h2 : k ≤ m) (h3 : m < l.length) : swp d (rot l k m (m + 1)) k (k - 1) = rot l (k - 1) m (m + 1) := by
  have hl := rot_len (l := l) (a := k) (m := m) (b := m + 1) (by omega) (by omega) (by omega)
  refine eq_reidx (fun p hp => roF_lt (by omega) (by omega) (by omega) hp) (by rw [swp_len, hl]) fun p hp => ?_
  rw [swp_get d (by omega) (by omega)]
  simp only [rot_get (l := l) (a := k) (m := m) (b := m + 1) (by omega) (by omega) (by omega)]
  rw [if_pos (show k < l.length by omega), if_pos (show k - 1 < l.length by omega), if_pos hp]
  have e1 : roF k m (m + 1) k = m := by unfold roF; (repeat' split) <;> omega
  have e2 : roF k m (m + 1) (k - 1) = k - 1 := by unfold roF; (repeat' split) <;> omega
  rw [e1, e2]
  split
  · have : roF (k - 1) m (m + 1) p = m := by unfold roF; (repeat' split) <;> omega
    rw [this]
  · split
    · have : roF (k - 1) m (m + 1) p = k - 1 := by unfold roF; (repeat' split) <;> omega
      rw [this]
    · have : roF (k - 1) m (m + 1) p = roF k m (m + 1) p := by unfold roF; (repeat' split) <;> omega
      rw [this]
theorem rot_seg (hp : Pre le) {l : List α} {a s m e b : Nat} (h1 : a ≤ s) (h2 : s ≤ m) (h3 : m ≤ e) (h4 : e ≤ b) (h5 : b ≤ l.length) (hA : Sd le l a m) (hB : Sd le l m b)
    (c1 : s = a ∨ e = b ∨ ∀ x y, l[s - 1]? = some x → l[e]? = some y → le x y = true) (c2 : s = m ∨ e = m ∨ ∀ x y, l[s]? = some x → l[e - 1]? = some y → le x y = false)
    (d1 : Sd le (rot l s m e) a (s + (e - m))) (d2 : Sd le (rot l s m e) (s + (e - m)) b) : rot l s m e = seg (srt le) l a b := by
  have := sym_join hp h1 h2 h3 h4 h5 hA hB c1 c2
  rwa [seg_id (by omega) d1, seg_id (by omega) d2] at this
/-- what stands where behind a turn -/
theorem rot_at {l : List α} {s m e p : Nat} {x : α} (h2 : s ≤ m) (h3 : m ≤ e) (h5 : e ≤ l.length) (hx : (rot l s m e)[p]? = some x) :
    (p < s ∧ l[p]? = some x) ∨ (s ≤ p ∧ p < s + (e - m) ∧ l[p - s + m]? = some x) ∨ (s + (e - m) ≤ p ∧ p < e ∧ l[p - (e - m)]? = some x) ∨ (e ≤ p ∧ l[p]? = some x) := by
  rw [rot_get h2 h3 h5] at hx
  split at hx
  · unfold roF at hx
    split at hx
    · rename_i c; exact .inr (.inl ⟨c.1, c.2, hx⟩)
    · split at hx
      · rename_i c; exact .inr (.inr (.inl ⟨c.1, c.2, hx⟩))
      · by_cases c : p < s
        · exact .inl ⟨c, hx⟩
        · exact .inr (.inr (.inr ⟨by omega, hx⟩))
  · cases hx
/-- one at the front, put where it belongs -/
theorem front_seg (hp : Pre le) {l : List α} {a i b : Nat} (h1 : a + 1 ≤ i) (h2 : i ≤ b) (h3 : b ≤ l.length) (hB : Sd le l (a + 1) b)
    (q1 : ∀ p x y, a + 1 ≤ p → p < i → l[p]? = some x → l[a]? = some y → le y x = false) (q2 : ∀ p x y, i ≤ p → p < b → l[p]? = some x → l[a]? = some y → le y x = true) : rot l a (a + 1) i = seg (srt le) l a b := by
  refine rot_seg hp (Nat.le_refl _) (by omega) h1 h2 h3 (fun p q x y h1 h2 h3 => by omega) hB (.inl rfl) ?_ (fun p q x y p1 p2 p3 hx hy => ?_) (fun p q x y p1 p2 p3 hx hy => ?_)
  · by_cases c : i = a + 1
    · exact .inr (.inl c)
    · exact .inr (.inr fun x y hx hy => q1 (i - 1) y x (by omega) (by omega) hy hx)
  · rcases rot_at (by omega) (by omega) (by omega) hx with ⟨c, hx⟩ | ⟨c, c', hx⟩ | ⟨c, c', hx⟩ | ⟨c, hx⟩ <;> rcases rot_at (by omega) (by omega) (by omega) hy with ⟨e, hy⟩ | ⟨e, e', hy⟩ | ⟨e, e', hy⟩ | ⟨e, hy⟩ <;> first | omega | skip
    exact hB _ _ x y (by omega) (by omega) (by omega) hx hy
  · rcases rot_at (by omega) (by omega) (by omega) hx with ⟨c, hx⟩ | ⟨c, c', hx⟩ | ⟨c, c', hx⟩ | ⟨c, hx⟩ <;> rcases rot_at (by omega) (by omega) (by omega) hy with ⟨e, hy⟩ | ⟨e, e', hy⟩ | ⟨e, e', hy⟩ | ⟨e, hy⟩ <;> first | omega | skip
    · exact q2 q y x (by omega) (by omega) hy (by rw [← hx]; congr 1; omega)
    · exact hB _ _ x y (by omega) (by omega) (by omega) hx hy
/-- one at the end, put where it belongs -/
theorem back_seg (hp : Pre le) {l : List α} {a i m : Nat} (h1 : a ≤ i) (h2 : i ≤ m) (h3 : m + 1 ≤ l.length) (hA : Sd le l a m)
    (q1 : ∀ p x y, a ≤ p → p < i → l[p]? = some x → l[m]? = some y → le x y = true) (q2 : ∀ p x y, i ≤ p → p < m → l[p]? = some x → l[m]? = some y → le x y = false) : rot l i m (m + 1) = seg (srt le) l a (m + 1) := by
  refine rot_seg hp h1 h2 (by omega) (Nat.le_refl _) h3 hA (fun p q x y h1 h2 h3 => by omega) (.inr (.inl rfl)) ?_ (fun p q x y p1 p2 p3 hx hy => ?_) (fun p q x y p1 p2 p3 hx hy => ?_)
  · by_cases c : i = m
    · exact .inl c
    · exact .inr (.inr fun x y hx hy => q2 i x y (by omega) (by omega) hx (by simpa using hy))
  · rcases rot_at (by omega) (by omega) (by omega) hx with ⟨c, hx⟩ | ⟨c, c', hx⟩ | ⟨c, c', hx⟩ | ⟨c, hx⟩ <;> rcases rot_at (by omega) (by omega) (by omega) hy with ⟨e, hy⟩ | ⟨e, e', hy⟩ | ⟨e, e', hy⟩ | ⟨e, hy⟩ <;> first | omega | skip
    · exact hA _ _ x y (by omega) (by omega) (by omega) hx hy
    · exact q1 p x y (by omega) (by omega) hx (by rw [← hy]; congr 1; omega)
  · rcases rot_at (by omega) (by omega) (by omega) hx with ⟨c, hx⟩ | ⟨c, c', hx⟩ | ⟨c, c', hx⟩ | ⟨c, hx⟩ <;> rcases rot_at (by omega) (by omega) (by omega) hy with ⟨e, hy⟩ | ⟨e, e', hy⟩ | ⟨e, e', hy⟩ | ⟨e, hy⟩ <;> first | omega | skip
    exact hA _ _ x y (by omega) (by omega) (by omega) hx hy
theorem sd_rot_l {l : List α} {a s m e b : Nat} (h1 : a ≤ s) (h2 : s ≤ m) (h3 : m ≤ e) (h4 : e ≤ b) (h5 : b ≤ l.length) (hA : Sd le l a m) (hB : Sd le l m b) :
    Sd le (rot l s m e) a s ∧ Sd le (rot l s m e) s (s + (e - m)) ∧ Sd le (rot l s m e) (s + (e - m)) e ∧ Sd le (rot l s m e) e b := by
  refine ⟨fun p q x y p1 p2 p3 hx hy => ?_, fun p q x y p1 p2 p3 hx hy => ?_, fun p q x y p1 p2 p3 hx hy => ?_, fun p q x y p1 p2 p3 hx hy => ?_⟩ <;>
    (rcases rot_at h2 h3 (by omega) hx with ⟨c, hx⟩ | ⟨c, c', hx⟩ | ⟨c, c', hx⟩ | ⟨c, hx⟩ <;> rcases rot_at h2 h3 (by omega) hy with ⟨e, hy⟩ | ⟨e, e', hy⟩ | ⟨e, e', hy⟩ | ⟨e, hy⟩ <;>
      first | omega | exact hA _ _ x y (by omega) (by omega) (by omega) hx hy | exact hB _ _ x y (by omega) (by omega) (by omega) hx hy)
theorem seg_out {f : List α → List α} (hf : ∀ l, (f l).length = l.length) {l : List α} {a b p : Nat} (hab : a ≤ b) (hb : b ≤ l.length) (hp : p < a ∨ b ≤ p) : (seg f l a b)[p]? = l[p]? := by
  unfold seg
  have e1 : (f ((l.take b).drop a)).length = b - a := by rw [hf]; simp; omega
  rw [List.getElem?_append, List.getElem?_append, e1]
  simp only [List.length_take, List.getElem?_take, List.getElem?_drop]
  rcases hp with hp | hp
  · rw [if_pos (by omega), if_pos hp]
  · rw [if_neg (by omega), if_neg (by omega)]; congr 1; omega
theorem sd_seg {f : List α → List α} (hf : ∀ l, (f l).length = l.length) {l : List α} {a b c d : Nat} (hab : a ≤ b) (hb : b ≤ l.length) (h : Sd le l c d) (hd : d ≤ a ∨ b ≤ c) : Sd le (seg f l a b) c d := fun p q x y p1 p2 p3 hx hy => by
  rw [seg_out hf hab hb (by omega)] at hx hy
  exact h p q x y p1 p2 p3 hx hy
theorem sd_srt (hp : Pre le) {l : List α} {a b : Nat} (hab : a ≤ b) (hb : b ≤ l.length) : Sd le (seg (srt le) l a b) a b := fun p q x y p1 p2 p3 hx hy => by
  unfold seg at hx hy
  have e1 : (srt le ((l.take b).drop a)).length = b - a := by rw [srt_len]; simp; omega
  rw [List.getElem?_append, List.getElem?_append, e1] at hx hy
  simp only [List.length_take] at hx hy
  rw [if_neg (by omega), if_pos (by omega)] at hx hy
  have := List.pairwise_iff_getElem.1 (srt_sorted hp ((l.take b).drop a)) (p - min a l.length) (q - min a l.length) (by omega) (by omega) (by omega)
  rw [List.getElem?_eq_getElem (by omega)] at hx hy
  cases hx; cases hy; exact this
theorem seg_perm {l : List α} {a b : Nat} (hab : a ≤ b) : (seg (srt le) l a b).Perm l := by
  conv => rhs; rw [split3 l hab]
  unfold seg
  exact List.Perm.append_left _ (List.Perm.append_right _ (List.mergeSort_perm _ _))
theorem rot_perm {l : List α} {a m b : Nat} (h1 : a ≤ m) (h2 : m ≤ b) (h3 : b ≤ l.length) : (rot l a m b).Perm l := by
  rw [rot_eq h1 h2 h3]
  have h4 := split3 l (Nat.le_trans h1 h2)
  have h5 : (l.take b).drop a = (l.take m).drop a ++ (l.take b).drop m := by
    have := split3 ((l.take b).drop a) (a := 0) (b := m - a) (Nat.zero_le _)
    simp only [List.take_zero, List.nil_append, List.drop_zero] at this
    rw [List.drop_drop, show a + (m - a) = m from by omega, List.take_drop, List.take_take, show min (a + (m - a)) b = m from by omega] at this
    exact this
  rw [h5] at h4
  conv => rhs; rw [h4]
  refine List.Perm.append_left _ ?_
  rw [List.append_assoc]
  exact List.perm_append_comm_assoc _ _ _
end Go.Tn.Ps

/- A list sorted in runs, and runs merged. -/
namespace Go.Tn.Ps
variable {α : Type} {le : α → α → Bool}
theorem srt_of_ties (_h : Pre le) {X : List (α × Nat)} (hr : X.Pairwise (fun a b => le a.1 b.1 = true → le b.1 a.1 = true → a.2 < b.2)) : (X.mergeSort (List.zipIdxLE le)).map (·.1) = srt le (X.map (·.1)) := by
  let Z := X.zipIdx
  let r : (α × Nat) × Nat → (α × Nat) × Nat → Bool := fun a b => List.zipIdxLE le a.1 b.1
  have h1 : X = Z.map (·.1) := (List.zipIdx_map_fst 0 X).symm
  have h2 : (X.map (·.1)).zipIdx = Z.map (fun z => (z.1.1, z.2)) := by
    simp only [Z]
    rw [List.zipIdx_map]
    apply List.map_congr_left
    intro z _; rfl
  have e1 : (Z.mergeSort r).map (·.1) = X.mergeSort (List.zipIdxLE le) := by
    conv => rhs; rw [h1]
    exact List.map_mergeSort (fun a _ b _ => rfl)
  have e2 : (Z.mergeSort r).map (fun z => (z.1.1, z.2)) = ((X.map (·.1)).zipIdx).mergeSort (List.zipIdxLE le) := by
    rw [h2]
    refine List.map_mergeSort (fun a ha b hb => ?_)
    obtain ⟨i, hi, rfl⟩ := List.getElem_of_mem ha
    obtain ⟨j, hj, rfl⟩ := List.getElem_of_mem hb
    have hi' : i < X.length := by simpa [Z] using hi
    have hj' : j < X.length := by simpa [Z] using hj
    simp only [r, Z, List.getElem_zipIdx]
    have hh := List.pairwise_iff_getElem.1 hr
    unfold List.zipIdxLE
    simp only [Nat.zero_add]
    cases c1 : le X[i].1 X[j].1 <;> cases c2 : le X[j].1 X[i].1 <;> simp
    rcases Nat.lt_trichotomy i j with h2 | h2 | h2
    · have := hh i j hi' hj' h2 c1 c2; omega
    · subst h2; simp
    · have := hh j i hj' hi' h2 c2 c1; omega
  rw [← e1]
  have := congrArg (List.map (fun x : α × Nat => x.1)) e2
  rw [List.mergeSort_zipIdx] at this
  unfold srt
  rw [← this]
  simp [List.map_map, Function.comp_def]
theorem srt_app (h : Pre le) (X Y : List α) : srt le (srt le X ++ srt le Y) = srt le (X ++ Y) := by
  let mx := (X.zipIdx 0).mergeSort (List.zipIdxLE le)
  let my := (Y.zipIdx X.length).mergeSort (List.zipIdxLE le)
  have ex : mx.map (·.1) = srt le X := by simp only [mx]; rw [srt_of_rise h (rise_zip _ _), zip_fst]
  have ey : my.map (·.1) = srt le Y := by simp only [my]; rw [srt_of_rise h (rise_zip _ _), zip_fst]
  have sm : ∀ {X : List (α × Nat)} {x : α × Nat}, x ∈ X.mergeSort (List.zipIdxLE le) ↔ x ∈ X := fun {X x} => (List.mergeSort_perm X (List.zipIdxLE le)).mem_iff
  have lexP : ∀ {X : List α} {k : Nat}, ((X.zipIdx k).mergeSort (List.zipIdxLE le)).Pairwise (fun a b => le a.1 b.1 = true → le b.1 a.1 = true → a.2 < b.2) := fun {X k} => by
    have h1 := List.pairwise_mergeSort (le := List.zipIdxLE le) (List.zipIdxLE_trans h.tr) (List.zipIdxLE_total h.tot) (X.zipIdx k)
    have hnd : ((X.zipIdx k).mergeSort (List.zipIdxLE le)).Pairwise (fun a b => a.2 ≠ b.2) := by
      have h2 : (X.zipIdx k).Pairwise (fun a b => a.2 ≠ b.2) := (rise_zip X k).imp (fun h => Nat.ne_of_lt h)
      exact ((List.mergeSort_perm (X.zipIdx k) (List.zipIdxLE le)).pairwise_iff (fun {a b} h => Ne.symm h)).2 h2
    refine (h1.and hnd).imp fun {a b} ⟨h3, h4⟩ _ h6 => ?_
    have := (lx_iff.1 h3).2 h6
    omega
  have tie : (mx ++ my).Pairwise (fun a b => le a.1 b.1 = true → le b.1 a.1 = true → a.2 < b.2) := by
    refine List.pairwise_append.2 ⟨lexP, lexP, fun x hx y hy _ _ => ?_⟩
    have := tag_of (sm.1 hx); have := tag_of (sm.1 hy); omega
  have e1 := srt_of_ties h tie
  rw [List.map_append, ex, ey] at e1
  rw [← e1]
  have hp : ((mx ++ my).mergeSort (List.zipIdxLE le)).Perm ((X ++ Y).zipIdx) := by
    refine (List.mergeSort_perm _ _).trans ?_
    rw [List.zipIdx_append, Nat.zero_add]
    exact List.Perm.append (List.mergeSort_perm _ _) (List.mergeSort_perm _ _)
  have := srt_uniq h (rise_zip (X ++ Y) 0) hp (List.pairwise_mergeSort (List.zipIdxLE_trans h.tr) (List.zipIdxLE_total h.tot) _)
  rw [zip_fst] at this
  exact this

def sg (l : List α) (a b : Nat) : List α := (l.take b).drop a
theorem sg_len {l : List α} {a b : Nat} (hb : b ≤ l.length) : (sg l a b).length = b - a := by simp [sg]; omega
theorem sg_app {l : List α} {a m b : Nat} (h1 : a ≤ m) (h2 : m ≤ b) : sg l a b = sg l a m ++ sg l m b := by
  unfold sg
  apply List.ext_getElem?
  intro p
  rw [List.getElem?_append, seg_get, seg_get, seg_get]
  simp only [List.length_drop, List.length_take]
  by_cases c : p < min m l.length - a
  · rw [if_pos c, if_pos (by omega), if_pos (by omega)]
  · rw [if_neg c]
    by_cases hl : m ≤ l.length
    · rw [show m + (p - (min m l.length - a)) = a + p from by omega]
    · rw [List.getElem?_eq_none (l := l) (by omega), List.getElem?_eq_none (l := l) (by omega)]
      split <;> split <;> rfl
theorem sg_seg {f : List α → List α} (hf : ∀ l, (f l).length = l.length) {l : List α} {a b : Nat} (hab : a ≤ b) (hb : b ≤ l.length) : sg (seg f l a b) a b = f (sg l a b) := by
  unfold sg seg
  have e1 : (l.take a).length = a := by simp; omega
  have e2 : (f ((l.take b).drop a)).length = b - a := by rw [hf]; simp; omega
  rw [← List.append_assoc, List.take_append_of_le_length (by simp [e2]; omega), List.take_of_length_le (by simp [e2]; omega)]
  rw [List.drop_append_of_le_length (by omega), List.drop_of_length_le (by omega), List.nil_append]
theorem sg_seg_out {f : List α → List α} (hf : ∀ l, (f l).length = l.length) {l : List α} {a b c d : Nat} (hab : a ≤ b) (hb : b ≤ l.length) (h : d ≤ a ∨ b ≤ c) : sg (seg f l a b) c d = sg l c d := by
  unfold sg
  apply List.ext_getElem?
  intro p
  rw [seg_get, seg_get]
  split
  · exact seg_out hf hab hb (by omega)
  · rfl
def W (le : α → α → Bool) (l0 l : List α) (a b : Nat) : Prop := sg l a b = srt le (sg l0 a b)
theorem W.sd (hp : Pre le) {l0 l : List α} {a b : Nat} (h : W le l0 l a b) : Sd le l a b := fun p q x y p1 p2 p3 hx hy => by
  have h1 := srt_sorted hp (sg l0 a b)
  rw [← h] at h1
  have hx' : (sg l a b)[p - a]? = some x := by rw [sg, seg_get, if_pos (by omega), show a + (p - a) = p from by omega]; exact hx
  have hy' : (sg l a b)[q - a]? = some y := by rw [sg, seg_get, if_pos (by omega), show a + (q - a) = q from by omega]; exact hy
  obtain ⟨hi, rfl⟩ := List.getElem?_eq_some_iff.1 hx'
  obtain ⟨hj, rfl⟩ := List.getElem?_eq_some_iff.1 hy'
  exact List.pairwise_iff_getElem.1 h1 _ _ hi hj (by omega)
theorem W.join (hp : Pre le) {l0 l : List α} {a m b : Nat} (h1 : a ≤ m) (h2 : m ≤ b) (hb : b ≤ l.length) (hA : W le l0 l a m) (hB : W le l0 l m b) : W le l0 (seg (srt le) l a b) a b := by
  unfold W at *
  rw [sg_seg srt_len (by omega) hb, sg_app h1 h2, hA, hB, srt_app hp, ← sg_app h1 h2]
theorem W.out {l0 l : List α} {a b c d : Nat} (hab : a ≤ b) (hb : b ≤ l.length) (h : d ≤ a ∨ b ≤ c) (hw : W le l0 l c d) : W le l0 (seg (srt le) l a b) c d := by
  unfold W at *
  rw [sg_seg_out srt_len hab hb h]; exact hw
theorem W.new {l0 l : List α} {a b : Nat} (hab : a ≤ b) (hb : b ≤ l.length) (h : ∀ p, a ≤ p → l[p]? = l0[p]?) : W le l0 (seg (srt le) l a b) a b := by
  unfold W
  rw [sg_seg srt_len hab hb]
  congr 1
  unfold sg
  apply List.ext_getElem?
  intro p
  rw [seg_get, seg_get, h _ (by omega)]
/-- from a on, runs of this length -/
inductive Runs (le : α → α → Bool) (l0 l : List α) (k : Nat) : Nat → Prop
  | nil {a : Nat} : l.length ≤ a → Runs le l0 l k a
  | cons {a : Nat} : a < l.length → W le l0 l a (min (a + k) l.length) → Runs le l0 l k (a + k) → Runs le l0 l k a
/-- up to a, whole runs of this length -/
inductive Done (le : α → α → Bool) (l0 l : List α) (k : Nat) : Nat → Prop
  | nil : Done le l0 l k 0
  | snoc {a : Nat} : Done le l0 l k a → a + k ≤ l.length → W le l0 l a (a + k) → Done le l0 l k (a + k)
theorem Done.runs {l0 l : List α} {k : Nat} (hk : 0 < k) {a : Nat} (h : Done le l0 l k a) : Runs le l0 l k a → Runs le l0 l k 0 := by
  induction h with
  | nil => exact id
  | snoc h1 h2 h3 ih => exact fun hr => ih (.cons (by omega) (by rwa [Nat.min_eq_left h2]) hr)
theorem seg_len' {l : List α} {a b : Nat} (hab : a ≤ b) (hb : b ≤ l.length) : (seg (srt le) l a b).length = l.length := seg_len srt_len hab hb
theorem Done.len {l0 l : List α} {k a : Nat} (h : Done le l0 l k a) : a ≤ l.length := by cases h <;> omega
theorem Done.out {l0 l : List α} {k a x y : Nat} (h : Done le l0 l k a) (hxy : x ≤ y) (hy : y ≤ l.length) (hx : a ≤ x) : Done le l0 (seg (srt le) l x y) k a := by
  induction h with
  | nil => exact .nil
  | snoc h1 h2 h3 ih => exact .snoc (ih (by omega)) (by rw [seg_len' hxy hy]; exact h2) (h3.out hxy hy (.inl hx))
theorem Runs.out {l0 l : List α} {k a x y : Nat} (h : Runs le l0 l k a) (hxy : x ≤ y) (hy : y ≤ l.length) (hx : y ≤ a) : Runs le l0 (seg (srt le) l x y) k a := by
  induction h with
  | nil h1 => exact .nil (by rw [seg_len' hxy hy]; exact h1)
  | cons h1 h2 h3 ih => exact .cons (by rw [seg_len' hxy hy]; exact h1) (by rw [seg_len' hxy hy]; exact h2.out hxy hy (.inr hx)) (ih (by omega))
theorem Runs.fin {l0 l : List α} {k : Nat} (h : Runs le l0 l k 0) (hl : l.length = l0.length) (hk : l.length ≤ k) : l = srt le l0 := by
  cases h with
  | nil h1 =>
    have : l = [] := List.length_eq_zero_iff.1 (by omega)
    have h0 : l0 = [] := List.length_eq_zero_iff.1 (by omega)
    subst this h0; simp [srt]
  | cons h1 h2 h3 =>
    rw [Nat.min_eq_right (by omega)] at h2
    unfold W sg at h2
    rw [List.drop_zero, List.drop_zero, List.take_length, hl, List.take_length] at h2
    exact h2
/-- one merge: two runs become one -/
theorem step_runs (hp : Pre le) {l0 l : List α} {k a : Nat} (hk : 0 < k) (hd : Done le l0 l (2 * k) a) (hr : Runs le l0 l k a) (hb : a + 2 * k ≤ l.length) :
    Sd le l a (a + k) ∧ Sd le l (a + k) (a + 2 * k) ∧ Done le l0 (seg (srt le) l a (a + 2 * k)) (2 * k) (a + 2 * k) ∧ Runs le l0 (seg (srt le) l a (a + 2 * k)) k (a + 2 * k) := by
  cases hr with
  | nil h1 => omega
  | cons h1 h2 h3 =>
    rw [Nat.min_eq_left (by omega)] at h2
    cases h3 with
    | nil h1 => omega
    | cons h4 h5 h6 =>
      rw [Nat.min_eq_left (by omega)] at h5
      have e : a + k + k = a + 2 * k := by omega
      rw [e] at h5 h6
      refine ⟨h2.sd hp, h5.sd hp, .snoc (hd.out (by omega) hb (Nat.le_refl _)) (by rw [seg_len' (by omega) hb]; exact hb) (W.join hp (m := a + k) (by omega) (by omega) hb h2 h5), h6.out (by omega) hb (Nat.le_refl _)⟩
/-- the last merge, of a run and what is left -/
theorem last_runs (hp : Pre le) {l0 l : List α} {k a : Nat} (hk : 0 < k) (hd : Done le l0 l (2 * k) a) (hr : Runs le l0 l k a) (hb : l.length < a + 2 * k) (hm : a + k < l.length) :
    Sd le l a (a + k) ∧ Sd le l (a + k) l.length ∧ Runs le l0 (seg (srt le) l a l.length) (2 * k) 0 := by
  cases hr with
  | nil h1 => omega
  | cons h1 h2 h3 =>
    rw [Nat.min_eq_left (by omega)] at h2
    cases h3 with
    | nil h1 => omega
    | cons h4 h5 h6 =>
      rw [Nat.min_eq_right (by omega)] at h5
      have hl := seg_len' (le := le) (l := l) (a := a) (b := l.length) (by omega) (Nat.le_refl _)
      refine ⟨h2.sd hp, h5.sd hp, (hd.out (by omega) (Nat.le_refl _) (Nat.le_refl _)).runs (by omega) (.cons (by omega) ?_ (.nil (by omega)))⟩
      rw [hl, Nat.min_eq_right (by omega)]
      exact W.join hp (m := a + k) (by omega) (by omega) (Nat.le_refl _) h2 h5
theorem less_runs {l0 l : List α} {k a : Nat} (hk : 0 < k) (hd : Done le l0 l (2 * k) a) (hr : Runs le l0 l k a) (hm : l.length ≤ a + k) : Runs le l0 l (2 * k) 0 := by
  refine hd.runs (by omega) ?_
  cases hr with
  | nil h1 => exact .nil h1
  | cons h1 h2 h3 =>
    rw [Nat.min_eq_right (by omega)] at h2
    exact .cons h1 (by rw [Nat.min_eq_right (by omega)]; exact h2) (.nil (by omega))
end Go.Tn.Ps

namespace Go.Tn
/-- nothing local is in it -/
def clean : Nat → D → Bool
  | 0, _ => false
  | _ + 1, .loc _ _ => false
  | _ + 1, .vec _ _ => false
  | _ + 1, .vptr _ _ _ _ _ => false
  | _ + 1, .lmap _ => false
  | _ + 1, .vsub _ _ _ _ _ => false
  | _ + 1, .yld _ => false
  | n + 1, .fn _ a b => a.all (clean n) && b.all (clean n)
  | n + 1, .agg cs => cs.all (clean n)
  | n + 1, .tup cs => cs.all (clean n)
  | n + 1, .ifc _ d => clean n d
  | _ + 1, _ => true
def cleanL (cs : List D) : Bool := cs.all (clean 4)
section
variable {H : Hp}
theorem clean_map {f : D → D} : ∀ {cs : List D}, (∀ c ∈ cs, f c = c) → cs.map f = cs
  | [], _ => rfl
  | c :: cs, h => by rw [List.map_cons, h c (by simp), clean_map fun c hc => h c (by simp [hc])]
theorem clean_flat {f : D → List Nat} : ∀ {cs : List D}, (∀ c ∈ cs, f c = []) → (cs.map f).flatten = []
  | [], _ => rfl
  | c :: cs, h => by rw [List.map_cons, List.flatten_cons, h c (by simp), clean_flat fun c hc => h c (by simp [hc])]; rfl
theorem clean_foldr {f : D → Prop} : ∀ {cs : List D} {q : Prop}, (∀ c ∈ cs, f c) → cs.foldr (fun c q => f c ∧ q) q = q
  | [], _, _ => rfl
  | c :: cs, q, h => by rw [List.foldr_cons, clean_foldr fun c hc => h c (by simp [hc])]; simp [h c]
theorem clean_foldrH {f : D → Hp → Hp} : ∀ {cs : List D} {H' : Hp}, (∀ c ∈ cs, ∀ H', f c H' = H') → cs.foldr f H' = H'
  | [], _, _ => rfl
  | c :: cs, H', h => by rw [List.foldr_cons, clean_foldrH fun c hc => h c (by simp [hc])]; exact h c (by simp) _
theorem clean_ok : ∀ (n : Nat) (d : D), clean n d = true → cv H n d = d ∧ rf H n d = [] ∧ new H n d ∧ ∀ H', frz H n d H' = H'
  | 0, _, h => by simp [clean] at h
  | n + 1, d, h => by
    have ih := clean_ok n
    have all : ∀ {cs : List D}, cs.all (clean n) = true → cs.map (cv H n) = cs ∧ (cs.map (rf H n)).flatten = [] ∧ (∀ q, cs.foldr (fun c q => new H n c ∧ q) q = q) ∧ ∀ H', cs.foldr (frz H n) H' = H' := fun {cs} h => by
      have h' := List.all_eq_true.1 h
      exact ⟨clean_map fun c hc => (ih c (h' c hc)).1, clean_flat fun c hc => (ih c (h' c hc)).2.1, fun q => clean_foldr fun c hc => (ih c (h' c hc)).2.2.1, fun H' => clean_foldrH fun c hc => (ih c (h' c hc)).2.2.2⟩
    cases d <;> simp only [clean, Bool.false_eq_true, Bool.and_eq_true] at h <;> simp only [cv, rf, new, frz] <;> try (simp; done)
    case agg cs => obtain ⟨h1, h2, h3, h4⟩ := all h; simp only [h1, h2, h3, h4]; simp
    case tup cs => obtain ⟨h1, h2, h3, h4⟩ := all h; simp only [h1, h2, h3, h4]; simp
    case fn f a b =>
      obtain ⟨h1, h2, h3, h4⟩ := all h.1
      obtain ⟨k1, k2, k3, k4⟩ := all h.2
      simp only [h1, h2, h3, h4, k1, k2, k3, k4]; simp
    case ifc t d => obtain ⟨h1, h2, h3, h4⟩ := ih d h; simp only [h1, h2, h3, h4]; simp
theorem clean_up : ∀ (n : Nat) (d : D), clean n d = true → clean (n + 1) d = true
  | 0, _, h => by simp [clean] at h
  | n + 1, d, h => by
    have all : ∀ {cs : List D}, cs.all (clean n) = true → cs.all (clean (n + 1)) = true := fun {cs} h => List.all_eq_true.2 fun c hc => clean_up n c (List.all_eq_true.1 h c hc)
    cases d <;> simp only [clean, Bool.false_eq_true, Bool.and_eq_true] at h <;> simp only [clean, Bool.and_eq_true]
    case agg cs => exact all h
    case tup cs => exact all h
    case fn f a b => exact ⟨all h.1, all h.2⟩
    case ifc t d => exact clean_up n d h
theorem cl_at {cs : List D} (h : cleanL cs = true) {n : Nat} (hn : 4 ≤ n) {c : D} (hc : c ∈ cs) : clean n c = true := by
  have h4 := List.all_eq_true.1 h c hc
  induction n with
  | zero => omega
  | succ n ih =>
    by_cases e : n + 1 = 4
    · rw [e]; exact h4
    · exact clean_up n c (ih (by omega))
theorem cl_cv {cs : List D} (h : cleanL cs = true) : cs.map (cv H 6) = cs := clean_map fun c hc => (clean_ok 6 c (cl_at h (by omega) hc)).1
theorem cl_rf {cs : List D} (h : cleanL cs = true) : (cs.map (rf H 6)).flatten = [] := clean_flat fun c hc => (clean_ok 6 c (cl_at h (by omega) hc)).2.1
theorem cl_new {cs : List D} (h : cleanL cs = true) (q : Prop) : cs.foldr (fun c q => new H 6 c ∧ q) q = q := clean_foldr fun c hc => (clean_ok 6 c (cl_at h (by omega) hc)).2.2.1
theorem cl_frz {cs : List D} (h : cleanL cs = true) (H' : Hp) : cs.foldr (frz H 6) H' = H' := clean_foldrH fun c hc => (clean_ok 6 c (cl_at h (by omega) hc)).2.2.2
theorem cl_cv5 {cs : List D} (h : cleanL cs = true) : cs.map (cv H 5) = cs := clean_map fun c hc => (clean_ok 5 c (cl_at h (by omega) hc)).1
theorem cl_rf5 {cs : List D} (h : cleanL cs = true) : (cs.map (rf H 5)).flatten = [] := clean_flat fun c hc => (clean_ok 5 c (cl_at h (by omega) hc)).2.1
theorem cl_new5 {cs : List D} (h : cleanL cs = true) (q : Prop) : cs.foldr (fun c q => new H 5 c ∧ q) q = q := clean_foldr fun c hc => (clean_ok 5 c (cl_at h (by omega) hc)).2.2.1
theorem cl_frz5 {cs : List D} (h : cleanL cs = true) (H' : Hp) : cs.foldr (frz H 5) H' = H' := clean_foldrH fun c hc => (clean_ok 5 c (cl_at h (by omega) hc)).2.2.2
mutual
theorem wk_self : ∀ d : D, wk d d
  | .any => by simp [wk]
  | .int _ _ => by simp [wk]
  | .bool _ => by simp [wk]
  | .str _ => by simp [wk]
  | .val _ => by simp [wk]
  | .nil => by simp [wk]
  | .emp => by simp [wk]
  | .sl _ _ => by simp [wk]
  | .mp _ _ => by simp [wk]
  | .loc _ _ => by simp [wk]
  | .vec _ _ => by simp [wk]
  | .vptr _ _ _ _ _ => by simp [wk]
  | .lmap _ => by simp [wk]
  | .vsub _ _ _ _ _ => by simp [wk]
  | .yld _ => by simp [wk]
  | .box cs => by simp only [wk]; exact wkL_self cs
  | .agg cs => by simp only [wk]; exact wkL_self cs
  | .tup cs => by simp only [wk]; exact wkL_self cs
  | .fn _ a b => by simp only [wk]; exact ⟨trivial, wkL_self a, wkL_self b⟩
  | .ifc _ d => by simp only [wk]; exact ⟨trivial, wk_self d⟩
theorem wkL_self : ∀ ds : List D, wkL ds ds
  | [] => by simp [wkL]
  | d :: ds => by simp only [wkL]; exact ⟨wk_self d, wkL_self ds⟩
end
theorem wkN_self (V : Us) (d : D) : wkN V d d := by
  have h := wk_self d
  cases d <;> exact h
theorem clean_in (U : Us) : ∀ (n : Nat) (d : D), clean n d = true → inO U d
  | 0, _, h => by simp [clean] at h
  | n + 1, d, h => by
    have all : ∀ {cs : List D}, cs.all (clean n) = true → inOL U cs := fun {cs} h => by
      induction cs with
      | nil => simp [inOL]
      | cons c cs ih =>
        simp only [List.all_cons, Bool.and_eq_true] at h
        simp only [inOL]; exact ⟨clean_in U n c h.1, ih h.2⟩
    cases d <;> simp only [clean, Bool.false_eq_true, Bool.and_eq_true] at h <;> simp only [inO]
    case agg cs => exact all h
    case tup cs => exact all h
    case fn f a b => exact ⟨all h.1, all h.2⟩
    case ifc t d => exact clean_in U n d h
theorem cl_in (U : Us) {cs : List D} (h : cleanL cs = true) : inOL U cs := by
  induction cs with
  | nil => simp [inOL]
  | cons c cs ih =>
    have h1 := cl_at h (n := 4) (by omega) (c := c) (by simp)
    simp only [cleanL, List.all_cons, Bool.and_eq_true] at h
    simp only [inOL]; exact ⟨clean_in U 4 c h1, ih (by simpa [cleanL] using h.2)⟩
theorem cl_fn {g : Nat} {cs : List D} (h : cleanL [.fn g [] cs] = true) : cleanL cs = true := by
  simp only [cleanL, List.all_cons, List.all_nil, clean, Bool.and_true, Bool.true_and] at h ⊢
  exact List.all_eq_true.2 fun c hc => clean_up 3 c (List.all_eq_true.1 h c hc)
/-- what a clean thing is, for the machine -/
structure Clr (f : D) : Prop where
  cv6 : ∀ H, cv H 6 f = f
  rf6 : ∀ H, rf H 6 f = []
  nw6 : ∀ H, new H 6 f = True
  fz6 : ∀ H H', frz H 6 f H' = H'
  wkN : ∀ V, Tn.wkN V f f = True
  wk : Tn.wk f f = True
  inO : ∀ U, Tn.inO U f = True
theorem clr_of {f : D} (hf : cleanL [f] = true) : Clr f :=
  have c := fun H => clean_ok (H := H) 6 f (cl_at hf (by omega) (by simp))
  ⟨fun H => (c H).1, fun H => (c H).2.1, fun H => eq_true (c H).2.2.1, fun H => (c H).2.2.2, fun V => eq_true (wkN_self V f), eq_true (wk_self f), fun U => eq_true (clean_in U 4 f (cl_at hf (by omega) (by simp)))⟩
structure ClrL (cs : List D) : Prop where
  cv6 : ∀ H, cs.map (cv H 6) = cs
  rf6 : ∀ H, (cs.map (rf H 6)).flatten = []
  nw6 : ∀ H q, cs.foldr (fun c q => new H 6 c ∧ q) q = q
  fz6 : ∀ H H', cs.foldr (frz H 6) H' = H'
  cv5 : ∀ H, cs.map (cv H 5) = cs
  rf5 : ∀ H, (cs.map (rf H 5)).flatten = []
  nw5 : ∀ H q, cs.foldr (fun c q => new H 5 c ∧ q) q = q
  fz5 : ∀ H H', cs.foldr (frz H 5) H' = H'
  wkL : Tn.wkL cs cs = True
  inOL : ∀ U, Tn.inOL U cs = True
theorem clrL_of {cs : List D} (h : cleanL cs = true) : ClrL cs :=
  ⟨fun _ => cl_cv h, fun _ => cl_rf h, fun _ => cl_new h, fun _ => cl_frz h, fun _ => cl_cv5 h, fun _ => cl_rf5 h, fun _ => cl_new5 h, fun _ => cl_frz5 h, eq_true (wkL_self cs), fun U => eq_true (cl_in U h)⟩
end
end Go.Tn

namespace Go.Tn
open Go.RowKit
/-! names of objects turned -/
mutual
def ren (σ : Nat → Nat) : D → D
  | .loc i off => .loc (σ i) off
  | .vec i n => .vec (σ i) n
  | .vptr i n sz k off => .vptr (σ i) n sz k off
  | .lmap i => .lmap (σ i)
  | .vsub i n z a b => .vsub (σ i) n z a b
  | .yld i => .yld (σ i)
  | .agg cs => .agg (renL σ cs)
  | .tup cs => .tup (renL σ cs)
  | .fn f a b => .fn f (renL σ a) (renL σ b)
  | .ifc t d => .ifc t (ren σ d)
  | .any => .any
  | .int k n => .int k n
  | .bool b => .bool b
  | .str s => .str s
  | .val v => .val v
  | .nil => .nil
  | .emp => .emp
  | .sl sz rows => .sl sz rows
  | .box cs => .box cs
  | .mp ks ds => .mp ks ds
def renL (σ : Nat → Nat) : List D → List D
  | [] => []
  | d :: ds => ren σ d :: renL σ ds
end
def ren1 (σ : Nat → Nat) (b : Bool) (d : D) : D := match b with | true => ren σ d | false => d
def renF (σ : Nat → Nat) : List (Bool × D) → List (Bool × D)
  | [] => []
  | (b, d) :: ds => (b, ren1 σ b d) :: renF σ ds
def renB (σ : Nat → Nat) (fz : Bool) (cs : List D) : List D := match fz with | true => cs | false => renL σ cs
def renLO (σ : Nat → Nat) : LObj → LObj
  | .blk cs fz => .blk (renB σ fz cs) fz
  | .nv e ms => .nv e (ms.map fun q => (σ q.1, q.2))
  | o => o
def renO (σ : Nat → Nat) : List (Nat × LObj) → List (Nat × LObj)
  | [] => []
  | (i, o) :: r => (σ i, renLO σ o) :: renO σ r
def renM (σ : Nat → Nat) : MOut → MOut
  | .ret d => .ret (ren σ d)
  | .pan d => .pan d
section
variable {S S' : Ex} {w w' : World} {p : Pl} {σ τ : Nat → Nat} {B : Base}
mutual
theorem rd_ren : ∀ (d : D) {v : Value}, Rd S w (ren σ d) p v ↔ Rd S w d (fun i => p (σ i)) v
  | .any, _ => by simp [ren, Rd]
  | .int _ _, _ => by simp [ren, Rd]
  | .bool _, _ => by simp [ren, Rd]
  | .str _, _ => by simp [ren, Rd]
  | .val _, _ => by simp [ren, Rd]
  | .nil, _ => by simp [ren, Rd]
  | .emp, _ => by simp [ren, Rd]
  | .sl _ _, _ => by simp [ren, Rd]
  | .box _, _ => by simp [ren, Rd]
  | .mp _ _, _ => by simp [ren, Rd]
  | .loc _ _, _ => by simp [ren, Rd]
  | .vec _ _, _ => by simp [ren, Rd]
  | .vptr _ _ _ _ _, _ => by simp [ren, Rd]
  | .lmap _, _ => by simp [ren, Rd]
  | .vsub _ _ _ _ _, _ => by simp [ren, Rd]
  | .yld _, _ => by simp [ren, Rd]
  | .agg cs, _ => by simp only [ren, Rd, rdL_ren cs]
  | .tup cs, _ => by simp only [ren, Rd, rdL_ren cs]
  | .fn f a b, _ => by simp only [ren, Rd, rdL_ren a, rdL_ren b]
  | .ifc t d, _ => by simp only [ren, Rd, rd_ren d]
theorem rdL_ren : ∀ (ds : List D) {vs : List Value}, RdL S w (renL σ ds) p vs ↔ RdL S w ds (fun i => p (σ i)) vs
  | [], _ => by simp [renL, RdL]
  | d :: ds, _ => by simp only [renL, RdL, rd_ren d, rdL_ren ds]
end
theorem rdF_ren : ∀ (ds : List (Bool × D)) {vs : List Value}, RdF S w p (renF σ ds) vs ↔ RdF S w (fun i => p (σ i)) ds vs
  | [], _ => Iff.rfl
  | (b, d) :: ds, _ => by
    cases b
    · simp only [renF, RdF, ren1, rdF_ren ds]
    · simp only [renF, RdF, ren1, rdF_ren ds, rd_ren d]
theorem obj_ren {g : G} {o : LObj} (hp : plainO o) : ObjRel B S p w g (renLO σ o) ↔ ObjRel B S (fun i => p (σ i)) w g o := by
  cases o with
  | blk cs fz =>
    cases fz with
    | true => exact Iff.rfl
    | false => simp only [renLO, renB, ObjRel, if_false, Bool.false_eq_true, rdL_ren cs]
  | vec e sz rows fz => exact Iff.rfl
  | mp ks ds fz => exact Iff.rfl
  | yl _ _ _ => exact hp.elim
  | lrec => exact hp.elim
  | nv e ms =>
    have : nvD (ms.map fun q => (σ q.1, q.2)) = renL σ (nvD ms) := by
      clear hp
      induction ms with
      | nil => rfl
      | cons q ms ih => simp only [nvD, List.map_cons, renL, ren] at ih ⊢; rw [ih]
    simp only [renLO, ObjRel, this, List.length_map, rdL_ren (nvD ms)]
theorem plain_ren {o : LObj} (h : plainO o) : plainO (renLO σ o) := by cases o <;> first | trivial | exact h.elim
theorem mkH_ren (h1 : ∀ i, τ (σ i) = i) (i : Nat) : ∀ l : List (Nat × LObj), mkH (renO σ l) (σ i) = (mkH l i).map (renLO σ) ∧ mkU (renO σ l) (σ i) = mkU l i
  | [] => ⟨rfl, rfl⟩
  | (j, o) :: r => by
    obtain ⟨i1, i2⟩ := mkH_ren h1 i r
    simp only [renO, mkH, mkU]
    by_cases e : i = j
    · subst e; rw [upd_same, upd_same, upd_same, upd_same]; exact ⟨rfl, rfl⟩
    · have e' : σ i ≠ σ j := fun h => e (by rw [← h1 i, ← h1 j, h])
      rw [upd_ne _ _ e, upd_ne _ _ e, upd_ne _ _ e', upd_ne _ _ e']; exact ⟨i1, i2⟩
theorem mkH_plain {l : List (Nat × LObj)} (h : ∀ x ∈ l, plainO x.2) {i : Nat} {o : LObj} (hi : mkH l i = some o) : plainO o := h _ (mkU_of hi).1
theorem heap_ren (h1 : ∀ i, τ (σ i) = i) (h2 : ∀ i, σ (τ i) = i) {l : List (Nat × LObj)} (hpl : ∀ x ∈ l, plainO x.2) :
    Heap B S p (mkH (renO σ l)) (mkU (renO σ l)) w ↔ Heap B S (fun i => p (σ i)) (mkH l) (mkU l) w := by
  have hH : ∀ i, mkH (renO σ l) (σ i) = (mkH l i).map (renLO σ) := fun i => (mkH_ren h1 i l).1
  have hU : ∀ i, mkU (renO σ l) (σ i) = mkU l i := fun i => (mkH_ren h1 i l).2
  have up : ∀ {i : Nat} {o : LObj}, mkH l i = some o → mkH (renO σ l) (σ i) = some (renLO σ o) := fun {i o} h => by rw [hH, h]; rfl
  have dn : ∀ {i : Nat} {o : LObj}, mkH (renO σ l) i = some o → ∃ o', mkH l (τ i) = some o' ∧ o = renLO σ o' := fun {i o} h => by
    have := hH (τ i)
    rw [h2, h] at this
    cases ho : mkH l (τ i) with
    | none => rw [ho] at this; cases this
    | some o' => rw [ho] at this; exact ⟨o', rfl, by simpa using this⟩
  have ny : ∀ {i : Nat} {o : LObj}, mkH (renO σ l) i = some o → plainO o := fun {i o} h => by
    obtain ⟨o', h3, rfl⟩ := dn h
    exact plain_ren (mkH_plain hpl h3)
  constructor
  · intro h
    refine ⟨fun i o hi => ?_, fun i j o o' g g' b hi hj hpi hpj hb hb' => ?_, fun i g hg => ?_, h.ext, h.old, h.size, h.bel, fun i ys d st hi => (mkH_plain hpl hi).elim, fun i hi => (mkH_plain hpl hi).elim, fun i ys d st g b hi => (mkH_plain hpl hi).elim⟩
    · obtain ⟨g, hg, hr⟩ := h.obj _ _ (up hi)
      exact ⟨g, hg, (obj_ren (mkH_plain hpl hi)).1 hr⟩
    · have := h.inj _ _ _ _ _ _ b (up hi) (up hj) hpi hpj hb hb'
      rw [← h1 i, ← h1 j, this]
    · rw [← hU]; exact h.use _ g hg
  · intro h
    refine ⟨fun i o hi => ?_, fun i j o o' g g' b hi hj hpi hpj hb hb' => ?_, fun i g hg => ?_, h.ext, h.old, h.size, h.bel, fun i ys d st hi => (ny hi).elim, fun i hi => (ny hi).elim, fun i ys d st g b hi => (ny hi).elim⟩
    · obtain ⟨o', h3, rfl⟩ := dn hi
      obtain ⟨g, hg, hr⟩ := h.obj _ _ h3
      refine ⟨g, by simpa [h2] using hg, (obj_ren (mkH_plain hpl h3)).2 hr⟩
    · obtain ⟨o1, h3, rfl⟩ := dn hi
      obtain ⟨o2, h4, rfl⟩ := dn hj
      have := h.inj _ _ _ _ g g' b h3 h4 (by simpa [h2] using hpi) (by simpa [h2] using hpj) hb hb'
      rw [← h2 i, ← h2 j, this]
    · have := h.use (τ i) g (by simpa [h2] using hg)
      rw [← hU, h2] at this; exact this
theorem fltU_ren (h1 : ∀ i, τ (σ i) = i) (l : List (Nat × LObj)) : ∀ l0 : List (Nat × LObj), fltU (mkU (renO σ l)) (idsO (renO σ l0)) = (fltU (mkU l) (idsO l0)).map σ
  | [] => rfl
  | (j, o) :: r => by
    simp only [renO, idsO, fltU, (mkH_ren h1 j l).2, fltU_ren h1 l r]
    cases mkU l j <;> rfl
theorem FCM.ren {P : Program} {f : Nat} {all : List (Bool × D)} {o0 o1 : List (Nat × LObj)} {out : MOut} (h : FCM P f all o0 o1 out) (h1 : ∀ i, τ (σ i) = i) (h2 : ∀ i, σ (τ i) = i) (hp0 : ∀ x ∈ o0, plainO x.2) (hp1 : ∀ x ∈ o1, plainO x.2) :
    FCM P f (renF σ all) (renO σ o0) (renO σ o1) (renM σ out) := by
  refine ⟨h.1, fun B S p w vs hit hd0 hnm hjp hn0 hKp hla hL0 hlk hh hargs => ?_⟩
  let B' : Base := { B with L0 := fltU (mkU o1) (idsO o0), q := fun i => B.q (σ i) }
  have hh' : Heap B S (fun i => p (σ i)) (mkH o0) (mkU o0) w := (heap_ren h1 h2 hp0).1 hh
  have hhB : Heap B' S (fun i => p (σ i)) (mkH o0) (mkU o0) w := ⟨fun i o hi => by
    obtain ⟨g, hg, hr⟩ := hh'.obj i o hi
    exact ⟨g, hg, hr.rebase (mkH_plain hp0 hi) (fun b hb => (hr.lt hb).1)⟩, hh'.inj, hh'.use, hh'.ext, hh'.old, hh'.size, hh'.bel, hh'.yid, hh'.lid, hh'.env⟩
  have hmem : ∀ {i : Nat}, i ∈ B'.L0 → σ i ∈ B.L0 := fun {i} hi => by rw [hL0, fltU_ren h1]; exact List.mem_map_of_mem hi
  refine CallsIn.mono (h.2 B' S (fun i => p (σ i)) w vs hit hd0 hnm hjp hn0 hKp hla rfl (fun i hi => hlk _ (hmem hi)) hhB (rdF_ren all |>.1 hargs)) fun e w' he => ?_
  obtain ⟨S', p', hend, h', hk, hl⟩ := he
  have hpt : (fun i => (fun j => p' (τ j)) (σ i)) = p' := by funext i; simp [h1]
  refine ⟨S', fun j => p' (τ j), ?_, ?_, hk, fun i hi => ?_⟩
  · cases out with
    | ret d =>
      cases e with
      | returned v => simp only [renM, EndM]; rw [rd_ren, hpt]; exact hend
      | panicked ch => exact hend.elim
      | outgrown => exact hend.elim
    | pan d => cases e <;> exact hend
  · rw [heap_ren h1 h2 hp1, hpt]
    exact ⟨fun i o hi => by
      obtain ⟨g, hg, hr⟩ := h'.obj i o hi
      exact ⟨g, hg, hr.rebase (mkH_plain hp1 hi) (fun b hb => (hr.lt hb).1)⟩, h'.inj, h'.use, h'.ext, h'.old, h'.size, h'.bel, h'.yid, h'.lid, h'.env⟩
  · rw [hL0, fltU_ren h1] at hi
    obtain ⟨j, hj, rfl⟩ := List.mem_map.1 hi
    obtain ⟨g, hg, hle⟩ := hl j hj
    exact ⟨g, by simpa [h1] using hg, hle⟩
/-- one object's name and another one, changed about -/
def sw (a b i : Nat) : Nat := if i = a then b else if i = b then a else i
theorem sw_sw (a b i : Nat) : sw a b (sw a b i) = i := by unfold sw; (repeat' split) <;> omega
theorem sw_l (a b : Nat) : sw a b a = b := by simp [sw]
theorem FCM.one {P : Program} {f : Nat} {all : List (Bool × D)} {o : LObj} {o1 : List (Nat × LObj)} {out : MOut} (i : Nat) (h : FCM P f all [(1000, o)] o1 out) (hp0 : plainO o) (hp1 : ∀ x ∈ o1, plainO x.2) :
    FCM P f (renF (sw 1000 i) all) [(i, renLO (sw 1000 i) o)] (renO (sw 1000 i) o1) (renM (sw 1000 i) out) := by
  have := h.ren (σ := sw 1000 i) (τ := sw 1000 i) (sw_sw _ _) (sw_sw _ _) (by simpa using hp0) hp1
  simpa only [renO, sw_l] using this
end
end Go.Tn

namespace Go.Tn
open Go.RowKit
/-! an owned vector goes in, its first rows come back -/
theorem FCM.take {P : Program} {f e sz m : Nat} {rest : List (Bool × D)} {rows rows' : List (List D)} (n : Nat)
    (h : FCM P f ((true, .vsub 1000 n sz 0 n) :: rest) [(1000, .vec e sz rows 0)] [(1000, .vec e sz rows' 0)] (.ret (.vsub 1000 n sz 0 m)))
    (hn : rows.length = n) (hn' : rows'.length = n) (h0 : 0 < n) (hm : m ≤ n) (j : Nat) (hj : j ≠ 1000) :
    FCM P f ((true, .vec 1000 n) :: rest) [(1000, .vec e sz rows 0)] [(j, .vec e sz (rows'.take m) 0)] (.ret (.vec j m)) := by
  refine ⟨h.1, fun B S p w vs hit hd0 hnm hjp hb0 hKp hla hL0 hlk hh hargs => ?_⟩
  obtain ⟨g, hg, hr⟩ := hh.obj 1000 (.vec e sz rows 0) (by simp [mkH, upd_same])
  have hL : B.L0 = [] := by
    rw [hL0]
    simp only [idsO, fltU, mkU]
    rw [upd_ne _ _ (fun e => hj e.symm)]
  let B' : Base := { B with L0 := [1000], q := fun _ => g }
  have hhB : Heap B' S p (mkH [(1000, .vec e sz rows 0)]) (mkU [(1000, .vec e sz rows 0)]) w := ⟨fun i o hi => by
    obtain ⟨g, hg, hr⟩ := hh.obj i o hi
    exact ⟨g, hg, hr.rebase (mkH_plain (by simp [plainO]) hi) (fun b hb => (hr.lt hb).1)⟩, hh.inj, hh.use, hh.ext, hh.old, hh.size, hh.bel, hh.yid, hh.lid, hh.env⟩
  have hargs' : RdF S w p ((true, .vsub 1000 n sz 0 n) :: rest) vs := by
    obtain ⟨v, r, e1, e2, e3⟩ := hargs
    refine ⟨v, r, e1, ?_, e3⟩
    obtain ⟨g', hg', h1, h2, h3⟩ := e2
    change p 1000 = some g' at hg'
    rw [hg] at hg'; cases hg'
    refine ⟨g, hg, h1, h2, fun e => ?_⟩
    obtain ⟨xs, hx, ho, _⟩ := hr
    rcases hx.1.2 with ⟨_, hz⟩ | ⟨b, cap, cur, hv, _⟩
    · omega
    · refine ⟨b, cap, 0, ?_, ?_, ?_, fun _ => by omega⟩
      · rw [ho, hv]; rfl
      · rw [hv, hn]
      · rw [h3 e, hv, hn]; rfl
  refine CallsIn.mono (h.2 B' S p w vs hit hd0 hnm hjp hb0 hKp hla (by show [1000] = _; simp [idsO, fltU, mkU, upd_same]) (fun i hi => by
    rw [List.mem_singleton.1 hi]; exact ⟨g, hg, GLe.refl g⟩) hhB hargs') fun en w' he => ?_
  obtain ⟨S', p', hend, h', hk, hl⟩ := he
  obtain ⟨g1, hg1, hr1⟩ := h'.obj 1000 (.vec e sz rows' 0) (by simp [mkH, upd_same])
  cases en with
  | panicked ch => exact hend.elim
  | outgrown => exact hend.elim
  | returned v =>
    obtain ⟨g2, hg2, k1, k2, k3⟩ := hend
    rw [hg1] at hg2; cases hg2
    obtain ⟨xs, hx, ho, hlen, hmx, hrs, hrd, hoc, hS, _⟩ := hr1
    obtain ⟨b, cap, off, q1, q2, q3, q4⟩ := k3 (by omega)
    have := q4 (.inr rfl)
    obtain rfl : off = 0 := by omega
    have hfl := flatten_len (fun r hr => hrs r (List.mem_of_mem_take hr) : ∀ r ∈ rows'.take m, r.length = sz)
    have hlm : (rows'.take m).length = m := by rw [List.length_take]; omega
    refine ⟨S', fun i => if i = j then some { g1 with hdr := v, len := m } else none, ⟨{ g1 with hdr := v, len := m }, by simp, Nat.le_refl _, k2, fun _ => rfl⟩, ⟨fun i o hi => ?_, fun i i' o o' g g' b hi hi' hpi hpj hb hb' => ?_, fun i g hi => ?_, h'.ext, h'.old, h'.size, h'.bel, fun i ys d st hi => ?_, fun i hi => ?_, fun i ys d st g b hi => ?_⟩, hk, fun i hi => by rw [hL] at hi; cases hi⟩
    · simp only [mkH] at hi
      by_cases ei : i = j
      · subst ei
        rw [upd_same] at hi; cases hi
        refine ⟨{ g1 with hdr := v, len := m }, by simp, xs.take (m * sz), ⟨⟨?_, .inr ?_⟩, fun b hb => (hx.2 b hb)⟩, ?_, hlm.symm, by omega, fun r hr => hrs r (List.mem_of_mem_take hr), ?_, fun v hv => hoc v (List.mem_of_mem_take hv), hS, Nat.zero_le _⟩
        · rw [List.length_take, hx.1.1, hlm, Nat.min_eq_left]; exact Nat.mul_le_mul_right _ (by omega)
        · rcases hx.1.2 with ⟨hz, _⟩ | ⟨gb, cap', cur, hv, hgb, hhb, hnc, hcm, hcs, hct⟩
          · rw [q2] at hz; cases hz
          · rw [q2] at hv
            obtain ⟨rfl, rfl⟩ : b = gb ∧ cap = cap' := by cases hv; exact ⟨rfl, rfl⟩
            refine ⟨b, cap, cur, ?_, hgb, hhb, by omega, hcm, hcs, ?_⟩
            · show v = _
              rw [q3, hlm]; rfl
            · rw [hlm, ← hct, List.take_take, Nat.min_eq_left]; exact Nat.mul_le_mul_right _ (by omega)
        · show g1.own = v.ownBlock
          rw [q3, q1]; rfl
        · have e1 : xs.take (m * sz) = xs.take ((rows'.take m).flatten.length) := by rw [hfl, hlm]
          rw [e1]
          have e2 : rows'.flatten.take ((rows'.take m).flatten.length) = (rows'.take m).flatten := by
            have : rows'.flatten = (rows'.take m).flatten ++ (rows'.drop m).flatten := by rw [← List.flatten_append, List.take_append_drop]
            rw [this, List.take_left']; rfl
          have e3 := rdL_take hrd ((rows'.take m).flatten.length)
          rw [e2] at e3
          exact e3
      · rw [upd_ne _ _ ei] at hi; cases hi
    · simp only [mkH] at hi hi'
      by_cases ei : i = j
      · by_cases ei' : i' = j
        · rw [ei, ei']
        · rw [upd_ne _ _ ei'] at hi'; cases hi'
      · rw [upd_ne _ _ ei] at hi; cases hi
    · simp only [mkU]
      by_cases ei : i = j
      · subst ei; exact upd_same _ _ _
      · simp [ei] at hi
    · simp only [mkH] at hi
      by_cases ei : i = j
      · subst ei; rw [upd_same] at hi; cases hi
      · rw [upd_ne _ _ ei] at hi; cases hi
    · simp only [mkH] at hi
      by_cases ei : i = j
      · subst ei; rw [upd_same] at hi; cases hi
      · rw [upd_ne _ _ ei] at hi; cases hi
    · simp only [mkH] at hi
      by_cases ei : i = j
      · subst ei; rw [upd_same] at hi; cases hi
      · rw [upd_ne _ _ ei] at hi; cases hi
end Go.Tn

namespace Go.Tn
open Go.RowKit
/-! maps from numbers to numbers -/
def kI (x : Int × Int) : D := .int .i64 x.1
def vI (x : Int × Int) : D := .int .i64 x.2
def mlk : List (Int × Int) → Int → Int
  | [], _ => 0
  | x :: r, k => if x.1 = k then x.2 else mlk r k
def mup : List (Int × Int) → Int → Int → List (Int × Int)
  | [], k, v => [(k, v)]
  | x :: r, k, v => if x.1 = k then (k, v) :: r else x :: mup r k v
def mix : List (Int × Int) → Int → Option Nat
  | [], _ => none
  | x :: r, k => if x.1 = k then some 0 else (mix r k).map (· + 1)
theorem eqK_int {kty : Ty} (h : kty.kind = .int .i64) (a b : Int) : eqK kty (.int .i64 a) (.int .i64 b) = some (decide (a = b)) := by simp [eqK, h]
theorem mfind_int {kty : Ty} (h : kty.kind = .int .i64) (k : Int) : ∀ m : List (Int × Int), mfind kty (m.map kI) (.int .i64 k) = some (mix m k)
  | [] => rfl
  | x :: r => by
    have ih := mfind_int h k r
    simp only [List.map_cons, mfind, kI, mix]
    rw [eqK_int h]
    by_cases e : k = x.1
    · subst e; simp
    · rw [if_neg (fun h => e h.symm)]
      simp only [e, decide_false]
      have ih' : mfind kty (r.map kI) (.int .i64 k) = some (mix r k) := ih
      simp only [ih', Option.map_some]
theorem mget_int (k : Int) : ∀ m : List (Int × Int), mget (mix m k) (m.map vI) (.int .i64 0) = .int .i64 (mlk m k)
  | [] => rfl
  | x :: r => by
    have ih := mget_int k r
    simp only [mix, mlk]
    by_cases e : x.1 = k
    · rw [if_pos e, if_pos e]; rfl
    · rw [if_neg e, if_neg e, ← ih]
      cases mix r k <;> rfl
theorem mks_int (k v : Int) : ∀ m : List (Int × Int), mks (mix m k) (m.map kI) (.int .i64 k) = (mup m k v).map kI ∧ mds (mix m k) (m.map vI) (.int .i64 v) = (mup m k v).map vI
  | [] => ⟨rfl, rfl⟩
  | x :: r => by
    obtain ⟨h1, h2⟩ := mks_int k v r
    simp only [mix, mup]
    by_cases e : x.1 = k
    · rw [if_pos e, if_pos e]
      refine ⟨?_, rfl⟩
      subst e; rfl
    · rw [if_neg e, if_neg e]
      cases hm : mix r k <;> rw [hm] at h1 h2 <;> simp only [mks, mds, Option.map_none, Option.map_some, List.map_cons, List.cons_append, List.set_cons_succ] at h1 h2 ⊢ <;> rw [← h1, ← h2] <;> exact ⟨rfl, rfl⟩
theorem mix_some (m : List (Int × Int)) (k : Int) : (mix m k).isSome = m.any fun x => x.1 == k := by
  induction m with
  | nil => rfl
  | cons x r ih =>
    simp only [mix, List.any_cons]
    by_cases e : x.1 = k
    · simp [e]
    · have : (x.1 == k) = false := by simp [e]
      rw [if_neg e, this, Bool.false_or, ← ih]; cases mix r k <;> rfl
theorem lookI {ty kty ety : Ty} {m : List (Int × Int)} {k : Int} {ok : Bool} {H : Hp} {U : Us} (h : kty.kind = .int .i64) (hz : zeroD ety = .int .i64 0) :
    lookM ty kty ety (m.map kI) (m.map vI) (.int .i64 k) ok H U = .ok True (ty.kind = .map) (tupOk ok (.int .i64 (mlk m k)) (m.any fun x => x.1 == k)) H U := by
  unfold lookM
  rw [mfind_int h]
  simp only [hz, mget_int, mix_some, eqK_int h, Option.isSome_some, List.length_map, and_true]
theorem updI {ty kty : Ty} {m : List (Int × Int)} {i : Nat} {k v : Int} {H : Hp} {U : Us} (h : kty.kind = .int .i64) :
    updB (some (.mp (m.map kI) (m.map vI) false)) i ty kty (.int .i64 k) (.int .i64 v) H U = .ok True (ty.kind = .map) .any (upd H i (some (.mp ((mup m k v).map kI) ((mup m k v).map vI) false))) U := by
  unfold updB
  simp only [mfind_int h, (mks_int k v m).1, (mks_int k v m).2, eqK_int h, Option.isSome_some, List.length_map, and_true]
theorem lookI0 {ty kty ety : Ty} {k : Int} {ok : Bool} {H : Hp} {U : Us} (h : kty.kind = .int .i64) (hz : zeroD ety = .int .i64 0) :
    lookM ty kty ety [] [] (.int .i64 k) ok H U = .ok True (ty.kind = .map) (tupOk ok (.int .i64 0) false) H U := lookI (m := []) h hz
theorem mlk_mup (k v j : Int) : ∀ m : List (Int × Int), mlk (mup m k v) j = if j = k then v else mlk m j
  | [] => by simp only [mup, mlk]; by_cases e : k = j <;> simp [e]; intro h; exact absurd h.symm e
  | x :: r => by
    have ih := mlk_mup k v j r
    simp only [mup]
    by_cases e : x.1 = k
    · rw [if_pos e]; simp only [mlk]
      by_cases e2 : k = j
      · subst e2; simp
      · rw [if_neg e2, if_neg (fun h => e2 h.symm), if_neg (by rw [e]; exact e2)]
    · rw [if_neg e]; simp only [mlk, ih]
      by_cases e2 : x.1 = j
      · rw [if_pos e2, if_pos e2]; rw [if_neg (by rw [← e2]; exact e)]
      · rw [if_neg e2, if_neg e2]
end Go.Tn

/- The machine's steps once more, so that what is reckoned is marked at its beginning and at its end: simp's congruence rules then meet proofs of the very types that they ask for. -/
namespace Go.Tn
open Go.RowKit
universe u
def Sa {α : Sort u} (a : α) : α := a
def Fi {α : Sort u} (a : α) : α := a
theorem Sa_go {α : Sort u} {a : α} : Sa a = Fi a := Eq.trans (Eq.refl a) (Eq.refl a)
theorem Fi_go {α : Sort u} {a : α} : Fi a = a := Eq.trans (Eq.refl a) (Eq.refl a)
def Ow (x : Cx) (dr n : Bool) (o : Out) (dst : Option Nat) (T : Nat → D) (H Hf : Hp) (U : Us) (ops : Array Oper) (os : List Oper) (st : List Fr) : Prop := Ok x dr (n || gndO o) o dst T H Hf U ops os st
section
variable {x : Cx} {dr : Bool} {c a b : Code} {T : Nat → D} {H Hf : Hp} {U : Us} {st : List Fr} {ops : Array Oper} {o : Oper} {os : List Oper} {id : Nat} {dst : Option Nat}
theorem Sq_y : M x (.seq a b) T H U st = Sq x (Sa (isJ x.C.js (begS a))) a b T H U st := M_seq
theorem Rc_y {l : List Oper} : M x (.region id l.toArray true) T H U st = Rc x (Sa (isJ x.C.js (4000 + id))) id l T H U st := M_regionD
theorem Rv_y {l : List Oper} : Rc x false id l T H U st = Rv x (Sa (isJ x.C.js (6000 + id))) id l T H U st := Rc_no
theorem Ry_y {l : List Oper} : Rv x false id l T H U st = Ry x (Sa (isJ x.C.js (7000 + id))) id l T H U st := Rv_no
theorem OV_y : O x true ops (fV (o :: os)) T H U st = OV x ops (Sa (clO o.op)) o os T H U st := O_fV
theorem Wv_y : Wv x ops (fU (o :: os)) T H U st = WU x ops (Sa (clO o.op)) o os T H U st := Wv_c
theorem E_n_sbs {H1 : Hp} : E x .normal T H U (.sb H1 :: st) = Nd (Sa (Sub H1 H)) (E x .normal T H U st) := E_n_sb
theorem Rz_y {l : List Oper} : Ry x false id l T H U st = Rz x (Sa (isJ x.C.js (8000 + id))) id l T H U st := Ry_no
theorem Tl_y {dr : Bool} {i : Nat} {t : Tr} {r : Trs} : Tl x dr ops (.cons i t r) T H U st = (To1 x dr ops (Sa ops[i]?) t T H U st ∧ Tl x dr ops r T H U st) := Tl_cons
theorem Rg_y {l : List Oper} : Rz x false id l T H U st = Rg x (Sa (isJ x.C.js (9000 + id))) l T H U st := Rz_no
theorem OR_y : O x true ops (fR (o :: os)) T H U st = OR x ops (Sa (wOp o.op)) o os T H U st := O_fR
theorem OW_y : O x true ops (fW (o :: os)) T H U st = OW x ops (Sa (wOp o.op)) o os T H U st := O_fW
theorem Cd_y {y : Operand} : M x (.cond y a b) T H U st = Cd x (Sa (ev T y)) a b T H U st := M_cond
theorem O_y : O x dr ops (o :: os) T H U st = Gd x dr (Sa (gM ops o.guard T)) o T H U ops os st := O_cons
theorem Gd_y : Gd x dr .yes o T H U ops os st = Bk x dr (Sa (resO dr x.P o.op o.dst T H U)) o.dst T H U ops os st := Eq.trans Gd_yes rfl
theorem Gd_n : Gd x dr .no o T H U ops os st = Nd (Sa (skp x.P o.op T)) (O x dr ops os (putO T o.dst (.val undef)) H U st) := Eq.trans Gd_no rfl
theorem Gd_s {t : Nat} {b want : Bool} : Gd x dr (.split t b want) o T H U ops os st =
  if b = want then Bk x dr (Sa (resO dr x.P o.op o.dst (upd T t (.bool want)) H U)) o.dst (upd T t (.bool want)) H U ops os st else Nd (Sa (skp x.P o.op (upd T t (.bool !want)))) (O x dr ops os (putO (upd T t (.bool !want)) o.dst (.val undef)) H U st) := Eq.trans Gd_split rfl
theorem Bk_y {f q : Prop} {d : D} {H' U'} : Bk x false (.ok f q d H' U') dst T H U ops os st = Im (Sa f) (An (Sa q) (O x false ops os (putO T dst d) H' U' st)) := Bk_ok
theorem Bk_yD {f q : Prop} {d : D} {H' U'} : Bk x true (.ok f q d H' U') dst T H U ops os st = An (Sa q) (O x true ops os (putO T dst d) H' U' st) := Bk_okD
theorem Bk_c {f : Nat} {caps args : List D} : Bk x dr (.call f caps args) dst T H U ops os st = CX x dr (Sa (x.C.mp f)) f caps args dst T H U ops os st := Eq.trans Bk_call rfl
theorem CX_n {f : Nat} {caps args : List D} : CX x dr [] f caps args dst T H U ops os st =
  Ck x dr (isNil (rfs H (args ++ caps))) (news H (args ++ caps) ∧ St x.P x.C f) (Sa (x.C.c f (cvs H caps) (cvs H args))) dst T H (frzs H (args ++ caps)) U ops os st := CX_nil
theorem CX_c {p : Nat} {ps : List Nat} {f : Nat} {caps args : List D} : CX x false (p :: ps) f caps args dst T H U ops os st =
  Mk x (news H (oths (p :: ps) 0 (args ++ caps)) ∧ StM x.P x.C f) (raws (p :: ps) 0 (args ++ caps)) (Sa (x.C.m f (cvm H (p :: ps) 0 (args ++ caps)) (frzs H (oths (p :: ps) 0 (args ++ caps))))) dst T (frzs H (oths (p :: ps) 0 (args ++ caps))) U ops os st := CX_cons
theorem Ck_y {none : Bool} {q pre : Prop} {out : Out} : Ck x dr none q (pre, out) dst T H Hf U ops os st = ((q ∧ pre) ∧ Ow x dr none out dst T H Hf U ops os st) := Eq.trans Ck_mk rfl
theorem Ow_ite {c : Prop} [Decidable c] {n : Bool} {A B : Out} : Ow x dr n (if c then A else B) dst T H Hf U ops os st = if c then Ow x dr n A dst T H Hf U ops os st else Ow x dr n B dst T H Hf U ops os st := Ok_ite
theorem Ow_go {n : Bool} : ∀ {out : Out}, Ow x dr n out dst T H Hf U ops os st = Ok x dr (Sa (n || gndO out)) (Sa out) dst T H Hf U ops os st := Eq.trans rfl rfl
end
end Go.Tn

/- Maps whose keys are told apart by '=': texts, pairs of numbers; whatever values. -/
namespace Go.Tn
open Go.RowKit
section
variable {K V : Type} [DecidableEq K]
def glk (v0 : V) : List (K × V) → K → V
  | [], _ => v0
  | x :: r, k => if x.1 = k then x.2 else glk v0 r k
def gup : List (K × V) → K → V → List (K × V)
  | [], k, v => [(k, v)]
  | x :: r, k, v => if x.1 = k then (k, v) :: r else x :: gup r k v
def gix : List (K × V) → K → Option Nat
  | [], _ => none
  | x :: r, k => if x.1 = k then some 0 else (gix r k).map (· + 1)
theorem gup_keys (k : K) (v : V) : ∀ m : List (K × V), (gup m k v).map (·.1) = if k ∈ m.map (·.1) then m.map (·.1) else m.map (·.1) ++ [k]
  | [] => by simp [gup]
  | x :: r => by
    have ih := gup_keys k v r
    simp only [gup]
    by_cases e : x.1 = k
    · subst e; simp
    · rw [if_neg e, List.map_cons, ih]
      by_cases h : k ∈ r.map (·.1)
      · rw [if_pos h, if_pos (by rw [List.map_cons]; exact List.mem_cons_of_mem _ h)]; rfl
      · rw [if_neg h, if_neg (by rw [List.map_cons, List.mem_cons]; exact fun h' => h'.elim (fun h' => e h'.symm) h)]; rfl
theorem glk_gup (v0 : V) (k : K) (v : V) (j : K) : ∀ m : List (K × V), glk v0 (gup m k v) j = if j = k then v else glk v0 m j
  | [] => by simp only [gup, glk]; by_cases e : k = j <;> simp [e]; intro h; exact absurd h.symm e
  | x :: r => by
    have ih := glk_gup v0 k v j r
    simp only [gup]
    by_cases e : x.1 = k
    · rw [if_pos e]; simp only [glk]
      by_cases e2 : k = j
      · subst e2; simp
      · rw [if_neg e2, if_neg (fun h => e2 h.symm), if_neg (by rw [e]; exact e2)]
    · rw [if_neg e]; simp only [glk, ih]
      by_cases e2 : x.1 = j
      · rw [if_pos e2, if_pos e2]; rw [if_neg (by rw [← e2]; exact e)]
      · rw [if_neg e2, if_neg e2]
theorem gix_some (m : List (K × V)) (k : K) : (gix m k).isSome = m.any fun x => decide (x.1 = k) := by
  induction m with
  | nil => rfl
  | cons x r ih =>
    simp only [gix, List.any_cons]
    by_cases e : x.1 = k
    · simp [e]
    · rw [if_neg e, decide_eq_false e, Bool.false_or, ← ih]; cases gix r k <;> rfl
variable {ke : K → D} {ve : V → D} {v0 : V} {kty : Ty} (h : ∀ a b, eqK kty (ke a) (ke b) = some (decide (a = b)))
include h
theorem gfind (k : K) : ∀ m : List (K × V), mfind kty (m.map fun x => ke x.1) (ke k) = some (gix m k)
  | [] => rfl
  | x :: r => by
    have ih := gfind k r
    simp only [List.map_cons, mfind, gix]
    rw [h]
    by_cases e : k = x.1
    · subst e; simp
    · rw [if_neg (fun h => e h.symm)]
      simp only [e, decide_false]
      rw [ih, Option.map_some]
omit h in
theorem gget (k : K) : ∀ m : List (K × V), mget (gix m k) (m.map fun x => ve x.2) (ve v0) = ve (glk v0 m k)
  | [] => rfl
  | x :: r => by
    have ih := gget k r
    simp only [gix, glk]
    by_cases e : x.1 = k
    · rw [if_pos e, if_pos e]; rfl
    · rw [if_neg e, if_neg e, ← ih]
      cases gix r k <;> rfl
omit h in
theorem gks (k : K) (v : V) : ∀ m : List (K × V), mks (gix m k) (m.map fun x => ke x.1) (ke k) = (gup m k v).map (fun x => ke x.1) ∧ mds (gix m k) (m.map fun x => ve x.2) (ve v) = (gup m k v).map fun x => ve x.2
  | [] => ⟨rfl, rfl⟩
  | x :: r => by
    obtain ⟨h1, h2⟩ := gks k v r
    simp only [gix, gup]
    by_cases e : x.1 = k
    · rw [if_pos e, if_pos e]
      refine ⟨?_, rfl⟩
      subst e; rfl
    · rw [if_neg e, if_neg e]
      cases hm : gix r k <;> rw [hm] at h1 h2 <;> simp only [mks, mds, Option.map_none, Option.map_some, List.map_cons, List.cons_append, List.set_cons_succ] at h1 h2 ⊢ <;> rw [← h1, ← h2] <;> exact ⟨rfl, rfl⟩
theorem glook {ty ety : Ty} {m : List (K × V)} {k : K} {ok : Bool} {H : Hp} {U : Us} (hz : zeroD ety = ve v0) :
    lookM ty kty ety (m.map fun x => ke x.1) (m.map fun x => ve x.2) (ke k) ok H U = .ok True (ty.kind = .map) (tupOk ok (ve (glk v0 m k)) (m.any fun x => decide (x.1 = k))) H U := by
  unfold lookM
  rw [gfind h]
  simp only [hz, gget, gix_some, h, Option.isSome_some, List.length_map, and_true]
theorem gupd {ty : Ty} {m : List (K × V)} {i : Nat} {k : K} {v : V} {H : Hp} {U : Us} :
    updB (some (.mp (m.map fun x => ke x.1) (m.map fun x => ve x.2) false)) i ty kty (ke k) (ve v) H U = .ok True (ty.kind = .map) .any (upd H i (some (.mp ((gup m k v).map fun x => ke x.1) ((gup m k v).map fun x => ve x.2) false))) U := by
  unfold updB
  simp only [gfind h, (gks (ke := ke) (ve := ve) k v m).1, (gks (ke := ke) (ve := ve) k v m).2, h, Option.isSome_some, List.length_map, and_true]
end
/-! texts to numbers -/
def kS (x : List UInt8 × Int) : D := .str x.1
def vS (x : List UInt8 × Int) : D := .int .i64 x.2
theorem eqK_str {kty : Ty} (h : kty.kind = .str) (a b : List UInt8) : eqK kty (.str a) (.str b) = some (decide (a = b)) := by simp [eqK, h]
theorem lookS {ty kty ety : Ty} {m : List (List UInt8 × Int)} {k : List UInt8} {ok : Bool} {H : Hp} {U : Us} (h : kty.kind = .str) (hz : zeroD ety = .int .i64 0) :
    lookM ty kty ety (m.map kS) (m.map vS) (.str k) ok H U = .ok True (ty.kind = .map) (tupOk ok (.int .i64 (glk 0 m k)) (m.any fun x => decide (x.1 = k))) H U := glook (ke := D.str) (ve := D.int .i64) (v0 := (0 : Int)) (eqK_str h) hz
theorem lookS0 {ty kty ety : Ty} {k : List UInt8} {ok : Bool} {H : Hp} {U : Us} (h : kty.kind = .str) (hz : zeroD ety = .int .i64 0) :
    lookM ty kty ety [] [] (.str k) ok H U = .ok True (ty.kind = .map) (tupOk ok (.int .i64 0) false) H U := lookS (m := []) h hz
theorem updS {ty kty : Ty} {m : List (List UInt8 × Int)} {i : Nat} {k : List UInt8} {v : Int} {H : Hp} {U : Us} (h : kty.kind = .str) :
    updB (some (.mp (m.map kS) (m.map vS) false)) i ty kty (.str k) (.int .i64 v) H U = .ok True (ty.kind = .map) .any (upd H i (some (.mp ((gup m k v).map kS) ((gup m k v).map vS) false))) U := gupd (ke := D.str) (ve := D.int .i64) (eqK_str h)
end Go.Tn

/- The words that the machine runs on, as one set. -/
namespace Go.Tn
open Go.RowKit
attribute [go_sem ↓] Rc_y E_n_tl Rv_y Rv_yes OV_y OV_0 OV_1 OV_2 O_fV0 Wv_y Wv_n WU_0 WU_1 WU_2 E_n_wv E_n_sbs M_scope M_label E_n_scp E_x_scp E_r_scp E_p_scp Un_s E_n_lu E_x_lu E_r_lu E_p_lu Ry_y Tk_leaf Tk_node Tk_nodeF Tl_nil Tl_y To1_s E_n_tr frsZ_c frsZ_n Rz_y Rz_yes OR_y OW_y OR_t OR_f OW_t OW_f O_fR0 O_fW0 E_n_zw E_n_zv E_n_zo M_skip M_region Rg_y Rg_no Rg_yes O_ini O_ini1 E_n_las E_n_las1 Sq_y Cd_y M_block M_exit M_ret O_nil O_y Gd_y Gd_n Gd_s Gd_bad Bk_y Bk_yD Bk_c Bk_bad Ck_y Ok_ret Ok_retF Ok_retD Ok_ownD Ok_own Ok_ownF Cd_b E_nil E_n_seq E_x_seq E_r_seq E_n_blk E_x_blk E_r_blk E_n_lp E_x_lp E_r_lp E_n_asg E_n_rng E_x_rng E_r_rng Bk_yield fin_n fin_r CX_n CX_c Mk_bad Mk_ret Mk_pan Mk_ite Bk_pan Ow_ite Sa_go Ok_pan Ok_panD E_p_seq E_p_blk E_p_lp E_p_rng fin_p fin_x finM_n finM_r finM_p finK_ite panF_ite Sq_no
attribute [go_sem] rmv kee clO clC clB Sub_upd wOp wB wT wC freeZ ovl_at ovl_at0 Nat.beq_eq lookS lookS0 updS frI frD List.range_zero Nat.mul_one resO orR nvR bsP bsI bsM apP apI apJ apM slD sliceO isRec allU statL stat locs locD plainL plainO putPs seqD gM gmN gmB isB undef res tk andC wd snds cvp storeX callR builtR evs ev evp evo ofV leafV putO upd mapT valR finK ownD ownO ownC capR appendZ List.map_replicate List.length_replicate argT mkT mkH mkU okR loadR loadB loadV storeR storeB storeV allocR newR boxR makeMapR makeSliceR buildR fillD fillC buildSliceR rowsC rowsD binR isK notR negR pickR fieldAddrR indexAddrR fieldR indexR extractR lenX lenVs appX appVs clrX clrVs sliceX sliceVs lenR lenB sliceR bnd appendR appB src cur lookupR lookB lookI lookI0 updI zeroD tupOk mapUpdR cv cvB cvV cvP cvM rf rfB rfV rfW rfM new newB newM newV newW frz fzB fzV fzW fzM cvs frzs news rfs isNil gnd gndL gndO gndR wk wkL mkD cellsOf okc one setAt TK.agg entH entT entO wkO wkN_any wkN_int wkN_bool wkN_str wkN_val wkN_emp wkN_agg wkN_tup wkN_sl wkN_box wkN_mp wkN_fn wkN_ifc wkN_loc wkN_vec wkN_vptr wkN_vsub wkN_lmap wkN_yld wkN_nv wkN_nnil wkN_nany wkN_nemp wkN_nsl wkNL wkF inO inOL inLO List.map_nil List.map_cons List.flatten_nil List.flatten_cons List.foldr_nil List.foldr_cons List.nil_append List.cons_append List.append_nil List.take_nil List.drop_nil List.take_zero List.drop_zero List.take_succ_cons List.drop_succ_cons List.length_nil List.length_cons List.headD_cons List.getD_cons_zero List.getD_cons_succ List.getElem?_toArray List.getElem?_cons_zero List.getElem?_cons_succ List.toList_toArray Option.bind_some Option.getD_some Nat.reduceEqDiff Nat.reduceAdd Nat.reduceSub Nat.reduceMul Nat.reduceLT Nat.reduceLeDiff Nat.zero_add Nat.add_zero Nat.not_lt_zero ne_eq not_false_eq_true not_true_eq_false true_and and_true false_and and_false true_implies false_implies implies_true or_true true_or or_false false_or Bool.true_or Bool.or_true Bool.false_or Bool.or_false Bool.true_and Bool.and_true Bool.false_and Bool.and_false Bool.not_true Bool.not_false Bool.false_eq_true Bool.true_eq_false decide_eq_true_eq decide_eq_false_iff_not reduceCtorEq Int.natCast_nonneg Option.map_some Option.map_none Option.isSome_some Option.isSome_none decide_true decide_false Bool.and_eq_true Bool.and_eq_false_imp Int.natCast_inj Bool.not_eq_true' eqZ Int.ofNat_lt Int.ofNat_le Int.toNat_natCast List.length_map List.length_take List.length_append and_self if_true_left if_true_right ite_self panF finMK panM skp skpD isFnV convK convX convB mkifcR maxR minR panV cvm cv1 oths raws con1 objs objs1 muOk muOk1 mkUs frs frs1 dropU addO addU idsO fltU flg tab_c tab_mp tab_m St_tab StM_tab spc_cons mps_nil mps_cons mms_cons List.contains_cons List.contains_nil Nat.reduceBEq Nat.zero_le tab_js isJ_nil isJ_cons beg begS begS
attribute [go_sem] Im_t An_t Nd_t
attribute [go_sem] Fi_go
attribute [go_sem ↓ 100] Ow_go
attribute [go_sem 100] Im_d An_d Nd_d
end Go.Tn
