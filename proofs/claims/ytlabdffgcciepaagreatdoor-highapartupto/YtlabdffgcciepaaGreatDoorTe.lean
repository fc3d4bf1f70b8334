/- Symbolic data, and what the operations do to it. -/
import Derived.Test.YtlabdffgcciepaaGreatDoorTn30
set_option linter.unusedSimpArgs false
set_option linter.unusedVariables false
set_option linter.unusedSectionVars false
namespace Go.Tn
def eI (n : Int) : List D := [.int .i64 n]
def eP (x : Int × Int) : List D := [.int .i64 x.1, .int .i64 x.2]
def eS (s : List UInt8) : List D := [.str s]
def eR (r : List (List UInt8)) : List D := [.sl 1 (r.map eS)]
abbrev Tab := List (List UInt8) × List (List (List UInt8))
def iOf : D → Int | .int _ n => n | _ => 0
def sOf : D → List UInt8 | .str s => s | _ => []
def rowsOf : D → List (List D) | .sl _ r => r | _ => []
def dI (r : List D) : Int := iOf (r.headD .any)
def dP (r : List D) : Int × Int := (iOf (r.headD .any), iOf (r.tail.headD .any))
def dS (r : List D) : List UInt8 := sOf (r.headD .any)
def dR (r : List D) : List (List UInt8) := (rowsOf (r.headD .any)).map dS
theorem dI_eI (l : List Int) : (l.map eI).map dI = l := by induction l <;> simp_all [eI, dI, iOf]
theorem dP_eP (l : List (Int × Int)) : (l.map eP).map dP = l := by induction l <;> simp_all [eP, dP, iOf]
theorem dS_eS (l : List (List UInt8)) : (l.map eS).map dS = l := by induction l <;> simp_all [eS, dS, sOf]
theorem dR_eR (l : List (List (List UInt8))) : (l.map eR).map dR = l := by
  induction l with
  | nil => rfl
  | cons x l ih =>
    rw [List.map_cons, List.map_cons, ih]
    simp only [dR, eR, List.headD_cons, rowsOf]
    rw [dS_eS]
theorem at_of {α : Type} (e : α → List D) (d : α) (l : List α) (i : Nat) (h : i < l.length) : (l.map e).getD i [] = e (l.getD i d) := by
  simp [List.getD_eq_getElem?_getD, h]
theorem eI_at (l : List Int) (i : Nat) (h : i < l.length) : (l.map eI).getD i [] = [.int .i64 (l.getD i 0)] := at_of eI 0 l i h
theorem eP_at (l : List (Int × Int)) (i : Nat) (h : i < l.length) : (l.map eP).getD i [] = [.int .i64 (l.getD i (0, 0)).1, .int .i64 (l.getD i (0, 0)).2] := at_of eP (0, 0) l i h
theorem eS_at (l : List (List UInt8)) (i : Nat) (h : i < l.length) : (l.map eS).getD i [] = [.str (l.getD i [])] := at_of eS [] l i h
theorem eR_at (l : List (List (List UInt8))) (i : Nat) (h : i < l.length) : (l.map eR).getD i [] = [.sl 1 ((l.getD i []).map eS)] := at_of eR [] l i h
theorem gndR_of {α : Type} (e : α → List D) (he : ∀ x, gndL (e x) = true) (l : List α) : gndR (l.map e) = true := by
  unfold gndR
  induction l with
  | nil => rfl
  | cons x l ih =>
    rw [List.map_cons, List.flatten_cons]
    have : ∀ a b : List D, gndL (a ++ b) = (gndL a && gndL b) := fun a b => by induction a <;> simp_all [gndL, Bool.and_assoc]
    rw [this, he, ih]; rfl
theorem gnd_eI (l : List Int) : gndR (l.map eI) = true := gndR_of eI (fun _ => rfl) l
theorem gnd_eS (l : List (List UInt8)) : gndR (l.map eS) = true := gndR_of eS (fun _ => rfl) l
theorem inR64 {n : Int} (h0 : -9223372036854775808 ≤ n) (h1 : n ≤ 9223372036854775807) : InR .i64 n := ⟨h0, h1⟩
theorem fc_wk {P : Program} [Fen P] {f : Nat} {caps caps' args args' : List D} {out : Out} (hc : wkL caps caps') (ha : wkL args args') (hns : ∀ ys, out ≠ .seq ys) (h : FC P f caps' args' out) : FC P f caps args out := by
  cases out with
  | ret d => exact ⟨h.1, fun S w cs vs hla hx h1 h2 => h.2 S w cs vs hla hx (wkL_ok _ _ hc h1) (wkL_ok _ _ ha h2)⟩
  | own e sz rows => exact ⟨h.1, fun S w cs vs hla hx h1 h2 => h.2 S w cs vs hla hx (wkL_ok _ _ hc h1) (wkL_ok _ _ ha h2)⟩
  | seq ys => exact absurd rfl (hns ys)
  | pan d => exact ⟨h.1, fun S w cs vs hla hx h1 h2 => h.2 S w cs vs hla hx (wkL_ok _ _ hc h1) (wkL_ok _ _ ha h2)⟩
theorem eq_of_at {α : Type} (d : α) {l k : List α} (hl : l.length = k.length) (h : ∀ j, j < l.length → l.getD j d = k.getD j d) : l = k := by
  apply List.ext_getElem hl
  intro j h1 h2
  have := h j h1
  rwa [List.getD_eq_getElem?_getD, List.getD_eq_getElem?_getD, List.getElem?_eq_getElem h1, List.getElem?_eq_getElem h2] at this
theorem lt_cases {j i : Nat} (h : j < i + 1) : j < i ∨ j = i := by omega
def spc : List (Nat × (List D → List D → Prop × Out)) → Nat → List D → List D → Prop × Out
  | [], _ => fun _ _ => (False, .ret .any)
  | (g, c) :: l, f => if f = g then c else spc l f
def mps : List (Nat × List Nat × (List D → Hp → MS)) → Nat → List Nat
  | [], _ => []
  | (g, ps, _) :: l, f => if f = g then ps else mps l f
def mms : List (Nat × List Nat × (List D → Hp → MS)) → Nat → List D → Hp → MS
  | [], _ => fun _ _ => .bad
  | (g, _, c) :: l, f => if f = g then c else mms l f
def tab (l : List (Nat × (List D → List D → Prop × Out))) (m : List (Nat × List Nat × (List D → Hp → MS))) (js : List Nat := []) : Spec := ⟨spc l, mps m, mms m, js⟩
def StC (P : Program) [Fen P] (f : Nat) (c : List D → List D → Prop × Out) : Prop := ∀ caps args, (c caps args).1 → FC P f caps args (c caps args).2
def StMC (P : Program) [Fen P] (f : Nat) (ps : List Nat) (c : List D → Hp → MS) : Prop := ∀ ds H pre mu o1 out, c ds H = .yes pre mu o1 out → pre → FCM P f (flg ps 0 ds) (objs H mu) o1 out
section
variable {P : Program} [Fen P] {f g : Nat} {l : List (Nat × (List D → List D → Prop × Out))} {m : List (Nat × List Nat × (List D → Hp → MS))} {c : List D → List D → Prop × Out} {k : List D → Hp → MS} {ps js : List Nat}
theorem tab_c : (tab l m js).c f = spc l f := rfl
theorem tab_mp : (tab l m js).mp f = mps m f := rfl
theorem tab_m : (tab l m js).m f = mms m f := rfl
theorem tab_js : (tab l m js).js = js := rfl
theorem isJ_nil {i : Nat} : isJ [] i = false := rfl
theorem isJ_cons {i j : Nat} {r : List Nat} : isJ (j :: r) i = (decide (i = j) || isJ r i) := by
  simp only [isJ]
  congr 1
  by_cases h : i = j
  · subst h; simp
  · have h2 : Nat.beq i j = false := Bool.eq_false_iff.2 fun e => h (Nat.eq_of_beq_eq_true e)
    simp [h, h2]
theorem St_tab : St P (tab l m js) f = StC P f (spc l f) := rfl
theorem StM_tab : StM P (tab l m js) f = StMC P f (mps m f) (mms m f) := rfl
theorem spc_cons : spc ((g, c) :: l) f = if f = g then c else spc l f := rfl
theorem mps_nil : mps [] f = [] := rfl
theorem mps_cons : mps ((g, ps, k) :: m) f = if f = g then ps else mps m f := rfl
theorem mms_cons : mms ((g, ps, k) :: m) f = if f = g then k else mms m f := rfl
end
end Go.Tn
namespace Go.Tn
theorem tn_add (a b : Nat) : ((a : Int) + (b : Int)).toNat = a + b := by omega
theorem tn_add1 (a : Nat) : ((a : Int) + 1).toNat = a + 1 := by omega
theorem tn_sub (a b : Nat) : ((a : Int) - (b : Int)).toNat = a - b := by omega
theorem tn_sub1 (a : Nat) : ((a : Int) - 1).toNat = a - 1 := by omega
theorem eI_set (l : List Int) (k : Nat) (x : Int) : (l.map eI).set k [.int .i64 x] = (l.set k x).map eI := by rw [List.map_set]; rfl
end Go.Tn
namespace Go.Tn
theorem sh1 (x : Int) : x / 2 ^ (1 : Int).toNat = x / 2 := rfl
theorem sh1b : ((1 : Int).toNat ≤ IntKind.bits .u64) = True := eq_true (by decide)
theorem half_cast (i j : Nat) : ((i : Int) + (j : Int)) / 2 = (((i + j) / 2 : Nat) : Int) := by omega
end Go.Tn
namespace Go.Tn.Ps
variable {α : Type}
theorem seg_get (l : List α) (a b p : Nat) : ((l.take b).drop a)[p]? = if a + p < b then l[a + p]? else none := by
  rw [List.getElem?_drop, List.getElem?_take]
end Go.Tn.Ps
namespace Go.Tn.Ps
variable {α : Type} {le : α → α → Bool}
def srt (le : α → α → Bool) (l : List α) : List α := l.mergeSort le
def seg (f : List α → List α) (l : List α) (a b : Nat) : List α := l.take a ++ (f ((l.take b).drop a) ++ l.drop b)
structure Pre (le : α → α → Bool) : Prop where
  tr : ∀ a b c, le a b = true → le b c = true → le a c = true
  to : ∀ a b, le a b = true ∨ le b a = true
theorem Pre.tot (h : Pre le) (a b : α) : (le a b || le b a) = true := by rcases h.to a b with h | h <;> simp [h]
theorem Pre.lt (h : Pre le) {a b : α} (hl : le a b = false) : le b a = true := by
  rcases h.to a b with h | h
  · rw [hl] at h; cases h
  · exact h
abbrev lx (le : α → α → Bool) (x y : α × Nat) : Prop := List.zipIdxLE le x y = true
theorem srt_len (l : List α) : (srt le l).length = l.length := List.length_mergeSort l
theorem srt_sorted (h : Pre le) (l : List α) : (srt le l).Pairwise (fun a b => le a b = true) := List.pairwise_mergeSort h.tr h.tot l
theorem seg_len {f : List α → List α} (hf : ∀ l, (f l).length = l.length) {l : List α} {a b : Nat} (hab : a ≤ b) (hb : b ≤ l.length) : (seg f l a b).length = l.length := by
  unfold seg; simp [hf]; omega
end Go.Tn.Ps
namespace Go.Tn.Ps
variable {α : Type} {le : α → α → Bool}
theorem Pre.rfl (h : Pre le) (a : α) : le a a = true := by rcases h.to a a with h | h <;> exact h
structure OutI (le : α → α → Bool) (l : List α) (a : Nat) (t : List (α × Nat)) (i : Nat) : Prop where
  pm : t.Perm l.zipIdx
  out : ∀ p, p < a ∨ i ≤ p → t[p]? = l.zipIdx[p]?
  ss : ∀ p q x y, a ≤ p → p < q → q < i → t[p]? = some x → t[q]? = some y → lx le x y
  tg : ∀ p x, a ≤ p → p < i → t[p]? = some x → x.2 < i
  st : i = a + 1 → t = l.zipIdx
structure InI (le : α → α → Bool) (l : List α) (a i : Nat) (t : List (α × Nat)) (j : Nat) : Prop where
  pm : t.Perm l.zipIdx
  aj : a ≤ j
  ji : j ≤ i
  out : ∀ p, p < a ∨ i + 1 ≤ p → t[p]? = l.zipIdx[p]?
  cur : t[j]? = l.zipIdx[i]?
  s1 : ∀ p q x y, a ≤ p → p < q → q ≤ i → p ≠ j → q ≠ j → t[p]? = some x → t[q]? = some y → lx le x y
  s2 : ∀ q x y, j < q → q ≤ i → t[j]? = some x → t[q]? = some y → lx le x y
  tg : ∀ p x, a ≤ p → p ≤ i → p ≠ j → t[p]? = some x → x.2 < i
end Go.Tn.Ps
namespace Go.Tn.Ps
variable {α β : Type} {le : α → α → Bool}
end Go.Tn.Ps
namespace Go.Tn.Ps
variable {α : Type} {le : α → α → Bool}
theorem seg_out {f : List α → List α} (hf : ∀ l, (f l).length = l.length) {l : List α} {a b p : Nat} (hab : a ≤ b) (hb : b ≤ l.length) (hp : p < a ∨ b ≤ p) : (seg f l a b)[p]? = l[p]? := by
  unfold seg
  have e1 : (f ((l.take b).drop a)).length = b - a := by rw [hf]; simp; omega
  rw [List.getElem?_append, List.getElem?_append, e1]
  simp only [List.length_take, List.getElem?_take, List.getElem?_drop]
  rcases hp with hp | hp
  · rw [if_pos (by omega), if_pos hp]
  · rw [if_neg (by omega), if_neg (by omega)]; congr 1; omega
end Go.Tn.Ps
namespace Go.Tn.Ps
variable {α : Type} {le : α → α → Bool}
def sg (l : List α) (a b : Nat) : List α := (l.take b).drop a
theorem sg_seg {f : List α → List α} (hf : ∀ l, (f l).length = l.length) {l : List α} {a b : Nat} (hab : a ≤ b) (hb : b ≤ l.length) : sg (seg f l a b) a b = f (sg l a b) := by
  unfold sg seg
  have e1 : (l.take a).length = a := by simp; omega
  have e2 : (f ((l.take b).drop a)).length = b - a := by rw [hf]; simp; omega
  rw [← List.append_assoc, List.take_append_of_le_length (by simp [e2]; omega), List.take_of_length_le (by simp [e2]; omega)]
  rw [List.drop_append_of_le_length (by omega), List.drop_of_length_le (by omega), List.nil_append]
theorem sg_seg_out {f : List α → List α} (hf : ∀ l, (f l).length = l.length) {l : List α} {a b c d : Nat} (hab : a ≤ b) (hb : b ≤ l.length) (h : d ≤ a ∨ b ≤ c) : sg (seg f l a b) c d = sg l c d := by
  unfold sg
  apply List.ext_getElem?
  intro p
  rw [seg_get, seg_get]
  split
  · exact seg_out hf hab hb (by omega)
  · rfl
def W (le : α → α → Bool) (l0 l : List α) (a b : Nat) : Prop := sg l a b = srt le (sg l0 a b)
theorem W.out {l0 l : List α} {a b c d : Nat} (hab : a ≤ b) (hb : b ≤ l.length) (h : d ≤ a ∨ b ≤ c) (hw : W le l0 l c d) : W le l0 (seg (srt le) l a b) c d := by
  unfold W at *
  rw [sg_seg_out srt_len hab hb h]; exact hw
theorem W.new {l0 l : List α} {a b : Nat} (hab : a ≤ b) (hb : b ≤ l.length) (h : ∀ p, a ≤ p → l[p]? = l0[p]?) : W le l0 (seg (srt le) l a b) a b := by
  unfold W
  rw [sg_seg srt_len hab hb]
  congr 1
  unfold sg
  apply List.ext_getElem?
  intro p
  rw [seg_get, seg_get, h _ (by omega)]
inductive Runs (le : α → α → Bool) (l0 l : List α) (k : Nat) : Nat → Prop
  | nil {a : Nat} : l.length ≤ a → Runs le l0 l k a
  | cons {a : Nat} : a < l.length → W le l0 l a (min (a + k) l.length) → Runs le l0 l k (a + k) → Runs le l0 l k a
inductive Done (le : α → α → Bool) (l0 l : List α) (k : Nat) : Nat → Prop
  | nil : Done le l0 l k 0
  | snoc {a : Nat} : Done le l0 l k a → a + k ≤ l.length → W le l0 l a (a + k) → Done le l0 l k (a + k)
theorem seg_len' {l : List α} {a b : Nat} (hab : a ≤ b) (hb : b ≤ l.length) : (seg (srt le) l a b).length = l.length := seg_len srt_len hab hb
theorem Done.len {l0 l : List α} {k a : Nat} (h : Done le l0 l k a) : a ≤ l.length := by cases h <;> omega
theorem Done.out {l0 l : List α} {k a x y : Nat} (h : Done le l0 l k a) (hxy : x ≤ y) (hy : y ≤ l.length) (hx : a ≤ x) : Done le l0 (seg (srt le) l x y) k a := by
  induction h with
  | nil => exact .nil
  | snoc h1 h2 h3 ih => exact .snoc (ih (by omega)) (by rw [seg_len' hxy hy]; exact h2) (h3.out hxy hy (.inl hx))
theorem Runs.out {l0 l : List α} {k a x y : Nat} (h : Runs le l0 l k a) (hxy : x ≤ y) (hy : y ≤ l.length) (hx : y ≤ a) : Runs le l0 (seg (srt le) l x y) k a := by
  induction h with
  | nil h1 => exact .nil (by rw [seg_len' hxy hy]; exact h1)
  | cons h1 h2 h3 ih => exact .cons (by rw [seg_len' hxy hy]; exact h1) (by rw [seg_len' hxy hy]; exact h2.out hxy hy (.inr hx)) (ih (by omega))
theorem Runs.fin {l0 l : List α} {k : Nat} (h : Runs le l0 l k 0) (hl : l.length = l0.length) (hk : l.length ≤ k) : l = srt le l0 := by
  cases h with
  | nil h1 =>
    have : l = [] := List.length_eq_zero_iff.1 (by omega)
    have h0 : l0 = [] := List.length_eq_zero_iff.1 (by omega)
    subst this h0; simp [srt]
  | cons h1 h2 h3 =>
    rw [Nat.min_eq_right (by omega)] at h2
    unfold W sg at h2
    rw [List.drop_zero, List.drop_zero, List.take_length, hl, List.take_length] at h2
    exact h2
end Go.Tn.Ps
namespace Go.Tn
def clean : Nat → D → Bool
  | 0, _ => false
  | _ + 1, .loc _ _ => false
  | _ + 1, .vec _ _ => false
  | _ + 1, .vptr _ _ _ _ _ => false
  | _ + 1, .lmap _ => false
  | _ + 1, .vsub _ _ _ _ _ => false
  | _ + 1, .yld _ => false
  | n + 1, .fn _ a b => a.all (clean n) && b.all (clean n)
  | n + 1, .agg cs => cs.all (clean n)
  | n + 1, .tup cs => cs.all (clean n)
  | n + 1, .ifc _ d => clean n d
  | _ + 1, _ => true
def cleanL (cs : List D) : Bool := cs.all (clean 4)
section
variable {H : Hp}
theorem clean_map {f : D → D} : ∀ {cs : List D}, (∀ c ∈ cs, f c = c) → cs.map f = cs
  | [], _ => rfl
  | c :: cs, h => by rw [List.map_cons, h c (by simp), clean_map fun c hc => h c (by simp [hc])]
theorem clean_flat {f : D → List Nat} : ∀ {cs : List D}, (∀ c ∈ cs, f c = []) → (cs.map f).flatten = []
  | [], _ => rfl
  | c :: cs, h => by rw [List.map_cons, List.flatten_cons, h c (by simp), clean_flat fun c hc => h c (by simp [hc])]; rfl
theorem clean_foldr {f : D → Prop} : ∀ {cs : List D} {q : Prop}, (∀ c ∈ cs, f c) → cs.foldr (fun c q => f c ∧ q) q = q
  | [], _, _ => rfl
  | c :: cs, q, h => by rw [List.foldr_cons, clean_foldr fun c hc => h c (by simp [hc])]; simp [h c]
theorem clean_foldrH {f : D → Hp → Hp} : ∀ {cs : List D} {H' : Hp}, (∀ c ∈ cs, ∀ H', f c H' = H') → cs.foldr f H' = H'
  | [], _, _ => rfl
  | c :: cs, H', h => by rw [List.foldr_cons, clean_foldrH fun c hc => h c (by simp [hc])]; exact h c (by simp) _
theorem clean_ok : ∀ (n : Nat) (d : D), clean n d = true → cv H n d = d ∧ rf H n d = [] ∧ new H n d ∧ ∀ H', frz H n d H' = H'
  | 0, _, h => by simp [clean] at h
  | n + 1, d, h => by
    have ih := clean_ok n
    have all : ∀ {cs : List D}, cs.all (clean n) = true → cs.map (cv H n) = cs ∧ (cs.map (rf H n)).flatten = [] ∧ (∀ q, cs.foldr (fun c q => new H n c ∧ q) q = q) ∧ ∀ H', cs.foldr (frz H n) H' = H' := fun {cs} h => by
      have h' := List.all_eq_true.1 h
      exact ⟨clean_map fun c hc => (ih c (h' c hc)).1, clean_flat fun c hc => (ih c (h' c hc)).2.1, fun q => clean_foldr fun c hc => (ih c (h' c hc)).2.2.1, fun H' => clean_foldrH fun c hc => (ih c (h' c hc)).2.2.2⟩
    cases d <;> simp only [clean, Bool.false_eq_true, Bool.and_eq_true] at h <;> simp only [cv, rf, new, frz] <;> try (simp; done)
    case agg cs => obtain ⟨h1, h2, h3, h4⟩ := all h; simp only [h1, h2, h3, h4]; simp
    case tup cs => obtain ⟨h1, h2, h3, h4⟩ := all h; simp only [h1, h2, h3, h4]; simp
    case fn f a b =>
      obtain ⟨h1, h2, h3, h4⟩ := all h.1
      obtain ⟨k1, k2, k3, k4⟩ := all h.2
      simp only [h1, h2, h3, h4, k1, k2, k3, k4]; simp
    case ifc t d => obtain ⟨h1, h2, h3, h4⟩ := ih d h; simp only [h1, h2, h3, h4]; simp
theorem clean_up : ∀ (n : Nat) (d : D), clean n d = true → clean (n + 1) d = true
  | 0, _, h => by simp [clean] at h
  | n + 1, d, h => by
    have all : ∀ {cs : List D}, cs.all (clean n) = true → cs.all (clean (n + 1)) = true := fun {cs} h => List.all_eq_true.2 fun c hc => clean_up n c (List.all_eq_true.1 h c hc)
    cases d <;> simp only [clean, Bool.false_eq_true, Bool.and_eq_true] at h <;> simp only [clean, Bool.and_eq_true]
    case agg cs => exact all h
    case tup cs => exact all h
    case fn f a b => exact ⟨all h.1, all h.2⟩
    case ifc t d => exact clean_up n d h
theorem cl_at {cs : List D} (h : cleanL cs = true) {n : Nat} (hn : 4 ≤ n) {c : D} (hc : c ∈ cs) : clean n c = true := by
  have h4 := List.all_eq_true.1 h c hc
  induction n with
  | zero => omega
  | succ n ih =>
    by_cases e : n + 1 = 4
    · rw [e]; exact h4
    · exact clean_up n c (ih (by omega))
theorem cl_cv {cs : List D} (h : cleanL cs = true) : cs.map (cv H 6) = cs := clean_map fun c hc => (clean_ok 6 c (cl_at h (by omega) hc)).1
theorem cl_rf {cs : List D} (h : cleanL cs = true) : (cs.map (rf H 6)).flatten = [] := clean_flat fun c hc => (clean_ok 6 c (cl_at h (by omega) hc)).2.1
theorem cl_new {cs : List D} (h : cleanL cs = true) (q : Prop) : cs.foldr (fun c q => new H 6 c ∧ q) q = q := clean_foldr fun c hc => (clean_ok 6 c (cl_at h (by omega) hc)).2.2.1
theorem cl_frz {cs : List D} (h : cleanL cs = true) (H' : Hp) : cs.foldr (frz H 6) H' = H' := clean_foldrH fun c hc => (clean_ok 6 c (cl_at h (by omega) hc)).2.2.2
theorem cl_cv5 {cs : List D} (h : cleanL cs = true) : cs.map (cv H 5) = cs := clean_map fun c hc => (clean_ok 5 c (cl_at h (by omega) hc)).1
theorem cl_rf5 {cs : List D} (h : cleanL cs = true) : (cs.map (rf H 5)).flatten = [] := clean_flat fun c hc => (clean_ok 5 c (cl_at h (by omega) hc)).2.1
theorem cl_new5 {cs : List D} (h : cleanL cs = true) (q : Prop) : cs.foldr (fun c q => new H 5 c ∧ q) q = q := clean_foldr fun c hc => (clean_ok 5 c (cl_at h (by omega) hc)).2.2.1
theorem cl_frz5 {cs : List D} (h : cleanL cs = true) (H' : Hp) : cs.foldr (frz H 5) H' = H' := clean_foldrH fun c hc => (clean_ok 5 c (cl_at h (by omega) hc)).2.2.2
mutual
theorem wk_self : ∀ d : D, wk d d
  | .any => by simp [wk]
  | .int _ _ => by simp [wk]
  | .bool _ => by simp [wk]
  | .str _ => by simp [wk]
  | .val _ => by simp [wk]
  | .nil => by simp [wk]
  | .emp => by simp [wk]
  | .sl _ _ => by simp [wk]
  | .mp _ _ => by simp [wk]
  | .loc _ _ => by simp [wk]
  | .vec _ _ => by simp [wk]
  | .vptr _ _ _ _ _ => by simp [wk]
  | .lmap _ => by simp [wk]
  | .vsub _ _ _ _ _ => by simp [wk]
  | .yld _ => by simp [wk]
  | .box cs => by simp only [wk]; exact wkL_self cs
  | .agg cs => by simp only [wk]; exact wkL_self cs
  | .tup cs => by simp only [wk]; exact wkL_self cs
  | .fn _ a b => by simp only [wk]; exact ⟨trivial, wkL_self a, wkL_self b⟩
  | .ifc _ d => by simp only [wk]; exact ⟨trivial, wk_self d⟩
theorem wkL_self : ∀ ds : List D, wkL ds ds
  | [] => by simp [wkL]
  | d :: ds => by simp only [wkL]; exact ⟨wk_self d, wkL_self ds⟩
end
theorem clean_in (U : Us) : ∀ (n : Nat) (d : D), clean n d = true → inO U d
  | 0, _, h => by simp [clean] at h
  | n + 1, d, h => by
    have all : ∀ {cs : List D}, cs.all (clean n) = true → inOL U cs := fun {cs} h => by
      induction cs with
      | nil => simp [inOL]
      | cons c cs ih =>
        simp only [List.all_cons, Bool.and_eq_true] at h
        simp only [inOL]; exact ⟨clean_in U n c h.1, ih h.2⟩
    cases d <;> simp only [clean, Bool.false_eq_true, Bool.and_eq_true] at h <;> simp only [inO]
    case agg cs => exact all h
    case tup cs => exact all h
    case fn f a b => exact ⟨all h.1, all h.2⟩
    case ifc t d => exact clean_in U n d h
theorem cl_in (U : Us) {cs : List D} (h : cleanL cs = true) : inOL U cs := by
  induction cs with
  | nil => simp [inOL]
  | cons c cs ih =>
    have h1 := cl_at h (n := 4) (by omega) (c := c) (by simp)
    simp only [cleanL, List.all_cons, Bool.and_eq_true] at h
    simp only [inOL]; exact ⟨clean_in U 4 c h1, ih (by simpa [cleanL] using h.2)⟩
theorem cl_fn {g : Nat} {cs : List D} (h : cleanL [.fn g [] cs] = true) : cleanL cs = true := by
  simp only [cleanL, List.all_cons, List.all_nil, clean, Bool.and_true, Bool.true_and] at h ⊢
  exact List.all_eq_true.2 fun c hc => clean_up 3 c (List.all_eq_true.1 h c hc)
structure Clr (f : D) : Prop where
  cv6 : ∀ H, cv H 6 f = f
  rf6 : ∀ H, rf H 6 f = []
  nw6 : ∀ H, new H 6 f = True
  fz6 : ∀ H H', frz H 6 f H' = H'
  wkN : ∀ V, Tn.wkN V f f = True
  wk : Tn.wk f f = True
  inO : ∀ U, Tn.inO U f = True
structure ClrL (cs : List D) : Prop where
  cv6 : ∀ H, cs.map (cv H 6) = cs
  rf6 : ∀ H, (cs.map (rf H 6)).flatten = []
  nw6 : ∀ H q, cs.foldr (fun c q => new H 6 c ∧ q) q = q
  fz6 : ∀ H H', cs.foldr (frz H 6) H' = H'
  cv5 : ∀ H, cs.map (cv H 5) = cs
  rf5 : ∀ H, (cs.map (rf H 5)).flatten = []
  nw5 : ∀ H q, cs.foldr (fun c q => new H 5 c ∧ q) q = q
  fz5 : ∀ H H', cs.foldr (frz H 5) H' = H'
  wkL : Tn.wkL cs cs = True
  inOL : ∀ U, Tn.inOL U cs = True
theorem clrL_of {cs : List D} (h : cleanL cs = true) : ClrL cs :=
  ⟨fun _ => cl_cv h, fun _ => cl_rf h, fun _ => cl_new h, fun _ => cl_frz h, fun _ => cl_cv5 h, fun _ => cl_rf5 h, fun _ => cl_new5 h, fun _ => cl_frz5 h, eq_true (wkL_self cs), fun U => eq_true (cl_in U h)⟩
end
end Go.Tn
namespace Go.Tn
open Go.RowKit
mutual
def ren (σ : Nat → Nat) : D → D
  | .loc i off => .loc (σ i) off
  | .vec i n => .vec (σ i) n
  | .vptr i n sz k off => .vptr (σ i) n sz k off
  | .lmap i => .lmap (σ i)
  | .vsub i n z a b => .vsub (σ i) n z a b
  | .yld i => .yld (σ i)
  | .agg cs => .agg (renL σ cs)
  | .tup cs => .tup (renL σ cs)
  | .fn f a b => .fn f (renL σ a) (renL σ b)
  | .ifc t d => .ifc t (ren σ d)
  | .any => .any
  | .int k n => .int k n
  | .bool b => .bool b
  | .str s => .str s
  | .val v => .val v
  | .nil => .nil
  | .emp => .emp
  | .sl sz rows => .sl sz rows
  | .box cs => .box cs
  | .mp ks ds => .mp ks ds
def renL (σ : Nat → Nat) : List D → List D
  | [] => []
  | d :: ds => ren σ d :: renL σ ds
end
def ren1 (σ : Nat → Nat) (b : Bool) (d : D) : D := match b with | true => ren σ d | false => d
def renF (σ : Nat → Nat) : List (Bool × D) → List (Bool × D)
  | [] => []
  | (b, d) :: ds => (b, ren1 σ b d) :: renF σ ds
def renB (σ : Nat → Nat) (fz : Bool) (cs : List D) : List D := match fz with | true => cs | false => renL σ cs
def renLO (σ : Nat → Nat) : LObj → LObj
  | .blk cs fz => .blk (renB σ fz cs) fz
  | .nv e ms => .nv e (ms.map fun q => (σ q.1, q.2))
  | .mv ks ms => .mv ks (ms.map fun q => (σ q.1, q.2))
  | o => o
def renO (σ : Nat → Nat) : List (Nat × LObj) → List (Nat × LObj)
  | [] => []
  | (i, o) :: r => (σ i, renLO σ o) :: renO σ r
def renM (σ : Nat → Nat) : MOut → MOut
  | .ret d => .ret (ren σ d)
  | .pan d => .pan d
section
variable {S S' : Ex} {w w' : World} {p : Pl} {σ τ : Nat → Nat} {B : Base}
mutual
theorem rd_ren : ∀ (d : D) {v : Value}, Rd S w (ren σ d) p v ↔ Rd S w d (fun i => p (σ i)) v
  | .any, _ => by simp [ren, Rd]
  | .int _ _, _ => by simp [ren, Rd]
  | .bool _, _ => by simp [ren, Rd]
  | .str _, _ => by simp [ren, Rd]
  | .val _, _ => by simp [ren, Rd]
  | .nil, _ => by simp [ren, Rd]
  | .emp, _ => by simp [ren, Rd]
  | .sl _ _, _ => by simp [ren, Rd]
  | .box _, _ => by simp [ren, Rd]
  | .mp _ _, _ => by simp [ren, Rd]
  | .loc _ _, _ => by simp [ren, Rd]
  | .vec _ _, _ => by simp [ren, Rd]
  | .vptr _ _ _ _ _, _ => by simp [ren, Rd]
  | .lmap _, _ => by simp [ren, Rd]
  | .vsub _ _ _ _ _, _ => by simp [ren, Rd]
  | .yld _, _ => by simp [ren, Rd]
  | .agg cs, _ => by simp only [ren, Rd, rdL_ren cs]
  | .tup cs, _ => by simp only [ren, Rd, rdL_ren cs]
  | .fn f a b, _ => by simp only [ren, Rd, rdL_ren a, rdL_ren b]
  | .ifc t d, _ => by simp only [ren, Rd, rd_ren d]
theorem rdL_ren : ∀ (ds : List D) {vs : List Value}, RdL S w (renL σ ds) p vs ↔ RdL S w ds (fun i => p (σ i)) vs
  | [], _ => by simp [renL, RdL]
  | d :: ds, _ => by simp only [renL, RdL, rd_ren d, rdL_ren ds]
end
theorem rdF_ren : ∀ (ds : List (Bool × D)) {vs : List Value}, RdF S w p (renF σ ds) vs ↔ RdF S w (fun i => p (σ i)) ds vs
  | [], _ => Iff.rfl
  | (b, d) :: ds, _ => by
    cases b
    · simp only [renF, RdF, ren1, rdF_ren ds]
    · simp only [renF, RdF, ren1, rdF_ren ds, rd_ren d]
theorem obj_ren {g : G} {o : LObj} (hp : plainO o) : ObjRel B S p w g (renLO σ o) ↔ ObjRel B S (fun i => p (σ i)) w g o := by
  cases o with
  | blk cs fz =>
    cases fz with
    | true => exact Iff.rfl
    | false => simp only [renLO, renB, ObjRel, if_false, Bool.false_eq_true, rdL_ren cs]
  | vec e sz rows fz => exact Iff.rfl
  | mp ks ds fz => exact Iff.rfl
  | yl _ _ _ => exact hp.elim
  | lrec => exact hp.elim
  | nv e ms =>
    have : nvD (ms.map fun q => (σ q.1, q.2)) = renL σ (nvD ms) := by
      clear hp
      induction ms with
      | nil => rfl
      | cons q ms ih => simp only [nvD, List.map_cons, renL, ren] at ih ⊢; rw [ih]
    simp only [renLO, ObjRel, this, List.length_map, rdL_ren (nvD ms)]
  | mv ks ms =>
    have : nvD (ms.map fun q => (σ q.1, q.2)) = renL σ (nvD ms) := by
      clear hp
      induction ms with
      | nil => rfl
      | cons q ms ih => simp only [nvD, List.map_cons, renL, ren] at ih ⊢; rw [ih]
    simp only [renLO, ObjRel, this, List.length_map, rdL_ren (nvD ms)]
theorem plain_ren {o : LObj} (h : plainO o) : plainO (renLO σ o) := by cases o <;> first | trivial | exact h.elim
theorem mkH_ren (h1 : ∀ i, τ (σ i) = i) (i : Nat) : ∀ l : List (Nat × LObj), mkH (renO σ l) (σ i) = (mkH l i).map (renLO σ) ∧ mkU (renO σ l) (σ i) = mkU l i
  | [] => ⟨rfl, rfl⟩
  | (j, o) :: r => by
    obtain ⟨i1, i2⟩ := mkH_ren h1 i r
    simp only [renO, mkH, mkU]
    by_cases e : i = j
    · subst e; rw [upd_same, upd_same, upd_same, upd_same]; exact ⟨rfl, rfl⟩
    · have e' : σ i ≠ σ j := fun h => e (by rw [← h1 i, ← h1 j, h])
      rw [upd_ne _ _ e, upd_ne _ _ e, upd_ne _ _ e', upd_ne _ _ e']; exact ⟨i1, i2⟩
theorem mkH_plain {l : List (Nat × LObj)} (h : ∀ x ∈ l, plainO x.2) {i : Nat} {o : LObj} (hi : mkH l i = some o) : plainO o := h _ (mkU_of hi).1
theorem heap_ren (h1 : ∀ i, τ (σ i) = i) (h2 : ∀ i, σ (τ i) = i) {l : List (Nat × LObj)} (hpl : ∀ x ∈ l, plainO x.2) :
    Heap B S p (mkH (renO σ l)) (mkU (renO σ l)) w ↔ Heap B S (fun i => p (σ i)) (mkH l) (mkU l) w := by
  have hH : ∀ i, mkH (renO σ l) (σ i) = (mkH l i).map (renLO σ) := fun i => (mkH_ren h1 i l).1
  have hU : ∀ i, mkU (renO σ l) (σ i) = mkU l i := fun i => (mkH_ren h1 i l).2
  have up : ∀ {i : Nat} {o : LObj}, mkH l i = some o → mkH (renO σ l) (σ i) = some (renLO σ o) := fun {i o} h => by rw [hH, h]; rfl
  have dn : ∀ {i : Nat} {o : LObj}, mkH (renO σ l) i = some o → ∃ o', mkH l (τ i) = some o' ∧ o = renLO σ o' := fun {i o} h => by
    have := hH (τ i)
    rw [h2, h] at this
    cases ho : mkH l (τ i) with
    | none => rw [ho] at this; cases this
    | some o' => rw [ho] at this; exact ⟨o', rfl, by simpa using this⟩
  have ny : ∀ {i : Nat} {o : LObj}, mkH (renO σ l) i = some o → plainO o := fun {i o} h => by
    obtain ⟨o', h3, rfl⟩ := dn h
    exact plain_ren (mkH_plain hpl h3)
  constructor
  · intro h
    refine ⟨fun i o hi => ?_, fun i j o o' g g' b hi hj hpi hpj hb hb' => ?_, fun i g hg => ?_, h.ext, h.old, h.size, h.bel, fun i ys d st hi => (mkH_plain hpl hi).elim, fun i hi => (mkH_plain hpl hi).elim, fun i ys d st g b hi => (mkH_plain hpl hi).elim⟩
    · obtain ⟨g, hg, hr⟩ := h.obj _ _ (up hi)
      exact ⟨g, hg, (obj_ren (mkH_plain hpl hi)).1 hr⟩
    · have := h.inj _ _ _ _ _ _ b (up hi) (up hj) hpi hpj hb hb'
      rw [← h1 i, ← h1 j, this]
    · rw [← hU]; exact h.use _ g hg
  · intro h
    refine ⟨fun i o hi => ?_, fun i j o o' g g' b hi hj hpi hpj hb hb' => ?_, fun i g hg => ?_, h.ext, h.old, h.size, h.bel, fun i ys d st hi => (ny hi).elim, fun i hi => (ny hi).elim, fun i ys d st g b hi => (ny hi).elim⟩
    · obtain ⟨o', h3, rfl⟩ := dn hi
      obtain ⟨g, hg, hr⟩ := h.obj _ _ h3
      refine ⟨g, by simpa [h2] using hg, (obj_ren (mkH_plain hpl h3)).2 hr⟩
    · obtain ⟨o1, h3, rfl⟩ := dn hi
      obtain ⟨o2, h4, rfl⟩ := dn hj
      have := h.inj _ _ _ _ g g' b h3 h4 (by simpa [h2] using hpi) (by simpa [h2] using hpj) hb hb'
      rw [← h2 i, ← h2 j, this]
    · have := h.use (τ i) g (by simpa [h2] using hg)
      rw [← hU, h2] at this; exact this
theorem fltU_ren (h1 : ∀ i, τ (σ i) = i) (l : List (Nat × LObj)) : ∀ l0 : List (Nat × LObj), fltU (mkU (renO σ l)) (idsO (renO σ l0)) = (fltU (mkU l) (idsO l0)).map σ
  | [] => rfl
  | (j, o) :: r => by
    simp only [renO, idsO, fltU, (mkH_ren h1 j l).2, fltU_ren h1 l r]
    cases mkU l j <;> rfl
theorem FCM.ren {P : Program} [Fen P] {f : Nat} {all : List (Bool × D)} {o0 o1 : List (Nat × LObj)} {out : MOut} (h : FCM P f all o0 o1 out) (h1 : ∀ i, τ (σ i) = i) (h2 : ∀ i, σ (τ i) = i) (hp0 : ∀ x ∈ o0, plainO x.2) (hp1 : ∀ x ∈ o1, plainO x.2) :
    FCM P f (renF σ all) (renO σ o0) (renO σ o1) (renM σ out) := by
  refine ⟨h.1, fun B S p w vs hit hd0 hnm hjp hn0 hKp hla hL0 hlk hh hargs => ?_⟩
  let B' : Base := { B with L0 := fltU (mkU o1) (idsO o0), q := fun i => B.q (σ i) }
  have hh' : Heap B S (fun i => p (σ i)) (mkH o0) (mkU o0) w := (heap_ren h1 h2 hp0).1 hh
  have hhB : Heap B' S (fun i => p (σ i)) (mkH o0) (mkU o0) w := ⟨fun i o hi => by
    obtain ⟨g, hg, hr⟩ := hh'.obj i o hi
    exact ⟨g, hg, hr.rebase (mkH_plain hp0 hi) (fun b hb => (hr.lt hb).1)⟩, hh'.inj, hh'.use, hh'.ext, hh'.old, hh'.size, hh'.bel, hh'.yid, hh'.lid, hh'.env⟩
  have hmem : ∀ {i : Nat}, i ∈ B'.L0 → σ i ∈ B.L0 := fun {i} hi => by rw [hL0, fltU_ren h1]; exact List.mem_map_of_mem hi
  refine CallsIn.mono (h.2 B' S (fun i => p (σ i)) w vs hit hd0 hnm hjp hn0 hKp hla rfl (fun i hi => hlk _ (hmem hi)) hhB (rdF_ren all |>.1 hargs)) fun e w' he => ?_
  obtain ⟨S', p', hend, h', hk, hl⟩ := he
  have hpt : (fun i => (fun j => p' (τ j)) (σ i)) = p' := by funext i; simp [h1]
  refine ⟨S', fun j => p' (τ j), ?_, ?_, hk, fun i hi => ?_⟩
  · cases out with
    | ret d =>
      cases e with
      | returned v => simp only [renM, EndM]; rw [rd_ren, hpt]; exact hend
      | panicked ch => exact hend.elim
      | outgrown => exact hend.elim
    | pan d => cases e <;> exact hend
  · rw [heap_ren h1 h2 hp1, hpt]
    exact ⟨fun i o hi => by
      obtain ⟨g, hg, hr⟩ := h'.obj i o hi
      exact ⟨g, hg, hr.rebase (mkH_plain hp1 hi) (fun b hb => (hr.lt hb).1)⟩, h'.inj, h'.use, h'.ext, h'.old, h'.size, h'.bel, h'.yid, h'.lid, h'.env⟩
  · rw [hL0, fltU_ren h1] at hi
    obtain ⟨j, hj, rfl⟩ := List.mem_map.1 hi
    obtain ⟨g, hg, hle⟩ := hl j hj
    exact ⟨g, by simpa [h1] using hg, hle⟩
def sw (a b i : Nat) : Nat := if i = a then b else if i = b then a else i
theorem sw_sw (a b i : Nat) : sw a b (sw a b i) = i := by unfold sw; (repeat' split) <;> omega
theorem sw_l (a b : Nat) : sw a b a = b := by simp [sw]
theorem FCM.one {P : Program} [Fen P] {f : Nat} {all : List (Bool × D)} {o : LObj} {o1 : List (Nat × LObj)} {out : MOut} (i : Nat) (h : FCM P f all [(1000, o)] o1 out) (hp0 : plainO o) (hp1 : ∀ x ∈ o1, plainO x.2) :
    FCM P f (renF (sw 1000 i) all) [(i, renLO (sw 1000 i) o)] (renO (sw 1000 i) o1) (renM (sw 1000 i) out) := by
  have := h.ren (σ := sw 1000 i) (τ := sw 1000 i) (sw_sw _ _) (sw_sw _ _) (by simpa using hp0) hp1
  simpa only [renO, sw_l] using this
end
end Go.Tn
namespace Go.Tn
open Go.RowKit
theorem FCM.take {P : Program} [Fen P] {f e sz m : Nat} {rest : List (Bool × D)} {rows rows' : List (List D)} (n : Nat)
    (h : FCM P f ((true, .vsub 1000 n sz 0 n) :: rest) [(1000, .vec e sz rows 0)] [(1000, .vec e sz rows' 0)] (.ret (.vsub 1000 n sz 0 m)))
    (hn : rows.length = n) (hn' : rows'.length = n) (h0 : 0 < n) (hm : m ≤ n) (j : Nat) (hj : j ≠ 1000) :
    FCM P f ((true, .vec 1000 n) :: rest) [(1000, .vec e sz rows 0)] [(j, .vec e sz (rows'.take m) 0)] (.ret (.vec j m)) := by
  refine ⟨h.1, fun B S p w vs hit hd0 hnm hjp hb0 hKp hla hL0 hlk hh hargs => ?_⟩
  obtain ⟨g, hg, hr⟩ := hh.obj 1000 (.vec e sz rows 0) (by simp [mkH, upd_same])
  have hL : B.L0 = [] := by
    rw [hL0]
    simp only [idsO, fltU, mkU]
    rw [upd_ne _ _ (fun e => hj e.symm)]
  let B' : Base := { B with L0 := [1000], q := fun _ => g }
  have hhB : Heap B' S p (mkH [(1000, .vec e sz rows 0)]) (mkU [(1000, .vec e sz rows 0)]) w := ⟨fun i o hi => by
    obtain ⟨g, hg, hr⟩ := hh.obj i o hi
    exact ⟨g, hg, hr.rebase (mkH_plain (by simp [plainO]) hi) (fun b hb => (hr.lt hb).1)⟩, hh.inj, hh.use, hh.ext, hh.old, hh.size, hh.bel, hh.yid, hh.lid, hh.env⟩
  have hargs' : RdF S w p ((true, .vsub 1000 n sz 0 n) :: rest) vs := by
    obtain ⟨v, r, e1, e2, e3⟩ := hargs
    refine ⟨v, r, e1, ?_, e3⟩
    obtain ⟨g', hg', h1, h2, h3⟩ := e2
    change p 1000 = some g' at hg'
    rw [hg] at hg'; cases hg'
    refine ⟨g, hg, h1, h2, fun e => ?_⟩
    obtain ⟨xs, hx, ho, _⟩ := hr
    rcases hx.1.2 with ⟨_, hz⟩ | ⟨b, cap, cur, hv, _⟩
    · omega
    · refine ⟨b, cap, 0, ?_, ?_, ?_, fun _ => by omega⟩
      · rw [ho, hv]; rfl
      · rw [hv, hn]
      · rw [h3 e, hv, hn]; rfl
  refine CallsIn.mono (h.2 B' S p w vs hit hd0 hnm hjp hb0 hKp hla (by show [1000] = _; simp [idsO, fltU, mkU, upd_same]) (fun i hi => by
    rw [List.mem_singleton.1 hi]; exact ⟨g, hg, GLe.refl g⟩) hhB hargs') fun en w' he => ?_
  obtain ⟨S', p', hend, h', hk, hl⟩ := he
  obtain ⟨g1, hg1, hr1⟩ := h'.obj 1000 (.vec e sz rows' 0) (by simp [mkH, upd_same])
  cases en with
  | panicked ch => exact hend.elim
  | outgrown => exact hend.elim
  | returned v =>
    obtain ⟨g2, hg2, k1, k2, k3⟩ := hend
    rw [hg1] at hg2; cases hg2
    obtain ⟨xs, hx, ho, hlen, hmx, hrs, hrd, hoc, hS, _⟩ := hr1
    obtain ⟨b, cap, off, q1, q2, q3, q4⟩ := k3 (by omega)
    have := q4 (.inr rfl)
    obtain rfl : off = 0 := by omega
    have hfl := flatten_len (fun r hr => hrs r (List.mem_of_mem_take hr) : ∀ r ∈ rows'.take m, r.length = sz)
    have hlm : (rows'.take m).length = m := by rw [List.length_take]; omega
    refine ⟨S', fun i => if i = j then some { g1 with hdr := v, len := m } else none, ⟨{ g1 with hdr := v, len := m }, by simp, Nat.le_refl _, k2, fun _ => rfl⟩, ⟨fun i o hi => ?_, fun i i' o o' g g' b hi hi' hpi hpj hb hb' => ?_, fun i g hi => ?_, h'.ext, h'.old, h'.size, h'.bel, fun i ys d st hi => ?_, fun i hi => ?_, fun i ys d st g b hi => ?_⟩, hk, fun i hi => by rw [hL] at hi; cases hi⟩
    · simp only [mkH] at hi
      by_cases ei : i = j
      · subst ei
        rw [upd_same] at hi; cases hi
        refine ⟨{ g1 with hdr := v, len := m }, by simp, xs.take (m * sz), ⟨⟨?_, .inr ?_⟩, fun b hb => (hx.2 b hb)⟩, ?_, hlm.symm, by omega, fun r hr => hrs r (List.mem_of_mem_take hr), ?_, fun v hv => hoc v (List.mem_of_mem_take hv), hS, Nat.zero_le _⟩
        · rw [List.length_take, hx.1.1, hlm, Nat.min_eq_left]; exact Nat.mul_le_mul_right _ (by omega)
        · rcases hx.1.2 with ⟨hz, _⟩ | ⟨gb, cap', cur, hv, hgb, hhb, hnc, hcm, hcs, hct⟩
          · rw [q2] at hz; cases hz
          · rw [q2] at hv
            obtain ⟨rfl, rfl⟩ : b = gb ∧ cap = cap' := by cases hv; exact ⟨rfl, rfl⟩
            refine ⟨b, cap, cur, ?_, hgb, hhb, by omega, hcm, hcs, ?_⟩
            · show v = _
              rw [q3, hlm]; rfl
            · rw [hlm, ← hct, List.take_take, Nat.min_eq_left]; exact Nat.mul_le_mul_right _ (by omega)
        · show g1.own = v.ownBlock
          rw [q3, q1]; rfl
        · have e1 : xs.take (m * sz) = xs.take ((rows'.take m).flatten.length) := by rw [hfl, hlm]
          rw [e1]
          have e2 : rows'.flatten.take ((rows'.take m).flatten.length) = (rows'.take m).flatten := by
            have : rows'.flatten = (rows'.take m).flatten ++ (rows'.drop m).flatten := by rw [← List.flatten_append, List.take_append_drop]
            rw [this, List.take_left']; rfl
          have e3 := rdL_take hrd ((rows'.take m).flatten.length)
          rw [e2] at e3
          exact e3
      · rw [upd_ne _ _ ei] at hi; cases hi
    · simp only [mkH] at hi hi'
      by_cases ei : i = j
      · by_cases ei' : i' = j
        · rw [ei, ei']
        · rw [upd_ne _ _ ei'] at hi'; cases hi'
      · rw [upd_ne _ _ ei] at hi; cases hi
    · simp only [mkU]
      by_cases ei : i = j
      · subst ei; exact upd_same _ _ _
      · simp [ei] at hi
    · simp only [mkH] at hi
      by_cases ei : i = j
      · subst ei; rw [upd_same] at hi; cases hi
      · rw [upd_ne _ _ ei] at hi; cases hi
    · simp only [mkH] at hi
      by_cases ei : i = j
      · subst ei; rw [upd_same] at hi; cases hi
      · rw [upd_ne _ _ ei] at hi; cases hi
    · simp only [mkH] at hi
      by_cases ei : i = j
      · subst ei; rw [upd_same] at hi; cases hi
      · rw [upd_ne _ _ ei] at hi; cases hi
end Go.Tn
namespace Go.Tn
open Go.RowKit
def kI (x : Int × Int) : D := .int .i64 x.1
def vI (x : Int × Int) : D := .int .i64 x.2
def mlk : List (Int × Int) → Int → Int
  | [], _ => 0
  | x :: r, k => if x.1 = k then x.2 else mlk r k
def mup : List (Int × Int) → Int → Int → List (Int × Int)
  | [], k, v => [(k, v)]
  | x :: r, k, v => if x.1 = k then (k, v) :: r else x :: mup r k v
def mix : List (Int × Int) → Int → Option Nat
  | [], _ => none
  | x :: r, k => if x.1 = k then some 0 else (mix r k).map (· + 1)
theorem eqK_int {kty : Ty} (h : kty.kind = .int .i64) (a b : Int) : eqK kty (.int .i64 a) (.int .i64 b) = some (decide (a = b)) := by simp [eqK, h]
theorem mfind_int {kty : Ty} (h : kty.kind = .int .i64) (k : Int) : ∀ m : List (Int × Int), mfind kty (m.map kI) (.int .i64 k) = some (mix m k)
  | [] => rfl
  | x :: r => by
    have ih := mfind_int h k r
    simp only [List.map_cons, mfind, kI, mix]
    rw [eqK_int h]
    by_cases e : k = x.1
    · subst e; simp
    · rw [if_neg (fun h => e h.symm)]
      simp only [e, decide_false]
      have ih' : mfind kty (r.map kI) (.int .i64 k) = some (mix r k) := ih
      simp only [ih', Option.map_some]
theorem mget_int (k : Int) : ∀ m : List (Int × Int), mget (mix m k) (m.map vI) (.int .i64 0) = .int .i64 (mlk m k)
  | [] => rfl
  | x :: r => by
    have ih := mget_int k r
    simp only [mix, mlk]
    by_cases e : x.1 = k
    · rw [if_pos e, if_pos e]; rfl
    · rw [if_neg e, if_neg e, ← ih]
      cases mix r k <;> rfl
theorem mks_int (k v : Int) : ∀ m : List (Int × Int), mks (mix m k) (m.map kI) (.int .i64 k) = (mup m k v).map kI ∧ mds (mix m k) (m.map vI) (.int .i64 v) = (mup m k v).map vI
  | [] => ⟨rfl, rfl⟩
  | x :: r => by
    obtain ⟨h1, h2⟩ := mks_int k v r
    simp only [mix, mup]
    by_cases e : x.1 = k
    · rw [if_pos e, if_pos e]
      refine ⟨?_, rfl⟩
      subst e; rfl
    · rw [if_neg e, if_neg e]
      cases hm : mix r k <;> rw [hm] at h1 h2 <;> simp only [mks, mds, Option.map_none, Option.map_some, List.map_cons, List.cons_append, List.set_cons_succ] at h1 h2 ⊢ <;> rw [← h1, ← h2] <;> exact ⟨rfl, rfl⟩
theorem mix_some (m : List (Int × Int)) (k : Int) : (mix m k).isSome = m.any fun x => x.1 == k := by
  induction m with
  | nil => rfl
  | cons x r ih =>
    simp only [mix, List.any_cons]
    by_cases e : x.1 = k
    · simp [e]
    · have : (x.1 == k) = false := by simp [e]
      rw [if_neg e, this, Bool.false_or, ← ih]; cases mix r k <;> rfl
theorem lookI {ty kty ety : Ty} {m : List (Int × Int)} {k : Int} {ok : Bool} {H : Hp} {U : Us} (h : kty.kind = .int .i64) (hz : zeroD ety = .int .i64 0) :
    lookM ty kty ety (m.map kI) (m.map vI) (.int .i64 k) ok H U = .ok True (ty.kind = .map) (tupOk ok (.int .i64 (mlk m k)) (m.any fun x => x.1 == k)) H U := by
  unfold lookM
  rw [mfind_int h]
  simp only [hz, mget_int, mix_some, eqK_int h, Option.isSome_some, List.length_map, and_true]
theorem updI {ty kty : Ty} {m : List (Int × Int)} {i : Nat} {k v : Int} {H : Hp} {U : Us} (h : kty.kind = .int .i64) :
    updB (some (.mp (m.map kI) (m.map vI) false)) i ty kty (.int .i64 k) (.int .i64 v) H U = .ok True (ty.kind = .map) .any (upd H i (some (.mp ((mup m k v).map kI) ((mup m k v).map vI) false))) U := by
  unfold updB
  simp only [mfind_int h, (mks_int k v m).1, (mks_int k v m).2, eqK_int h, Option.isSome_some, List.length_map, and_true]
theorem lookI0 {ty kty ety : Ty} {k : Int} {ok : Bool} {H : Hp} {U : Us} (h : kty.kind = .int .i64) (hz : zeroD ety = .int .i64 0) :
    lookM ty kty ety [] [] (.int .i64 k) ok H U = .ok True (ty.kind = .map) (tupOk ok (.int .i64 0) false) H U := lookI (m := []) h hz
theorem mlk_mup (k v j : Int) : ∀ m : List (Int × Int), mlk (mup m k v) j = if j = k then v else mlk m j
  | [] => by simp only [mup, mlk]; by_cases e : k = j <;> simp [e]; intro h; exact absurd h.symm e
  | x :: r => by
    have ih := mlk_mup k v j r
    simp only [mup]
    by_cases e : x.1 = k
    · rw [if_pos e]; simp only [mlk]
      by_cases e2 : k = j
      · subst e2; simp
      · rw [if_neg e2, if_neg (fun h => e2 h.symm), if_neg (by rw [e]; exact e2)]
    · rw [if_neg e]; simp only [mlk, ih]
      by_cases e2 : x.1 = j
      · rw [if_pos e2, if_pos e2]; rw [if_neg (by rw [← e2]; exact e)]
      · rw [if_neg e2, if_neg e2]
end Go.Tn
namespace Go.Tn
open Go.RowKit
universe u
def Sa {α : Sort u} (a : α) : α := a
def Fi {α : Sort u} (a : α) : α := a
theorem Sa_go {α : Sort u} {a : α} : Sa a = Fi a := Eq.trans (Eq.refl a) (Eq.refl a)
theorem Fi_go {α : Sort u} {a : α} : Fi a = a := Eq.trans (Eq.refl a) (Eq.refl a)
def Ow (x : Cx) (dr n : Bool) (o : Out) (dst : Option Nat) (T : Nat → D) (H Hf : Hp) (U : Us) (ops : Array Oper) (os : List Oper) (st : List Fr) : Prop := Ok x dr (n || gndO o) o dst T H Hf U ops os st
section
variable {x : Cx} {dr : Bool} {c a b : Code} {T : Nat → D} {H Hf : Hp} {U : Us} {st : List Fr} {ops : Array Oper} {o : Oper} {os : List Oper} {id : Nat} {dst : Option Nat}
theorem Sq_y : M x (.seq a b) T H U st = Sq x (Sa (isJ x.C.js (begS a))) a b T H U st := M_seq
theorem Rc_y {l : List Oper} : M x (.region id l.toArray true) T H U st = Rc x (Sa (isJ x.C.js (4000 + id))) id l T H U st := M_regionD
theorem Rv_y {l : List Oper} : Rc x false id l T H U st = Rv x (Sa (isJ x.C.js (6000 + id))) id l T H U st := Rc_no
theorem Ry_y {l : List Oper} : Rv x false id l T H U st = Ry x (Sa (isJ x.C.js (7000 + id))) id l T H U st := Rv_no
theorem OV_y : O x true ops (fV (o :: os)) T H U st = OV x ops (Sa (clO o.op)) o os T H U st := O_fV
theorem Wv_y : Wv x ops (fU (o :: os)) T H U st = WU x ops (Sa (clO o.op)) o os T H U st := Wv_c
theorem E_n_sbs {H1 : Hp} : E x .normal T H U (.sb H1 :: st) = Nd (Sa (Sub H1 H)) (E x .normal T H U st) := E_n_sb
theorem Rz_y {l : List Oper} : Ry x false id l T H U st = Rz x (Sa (isJ x.C.js (8000 + id))) id l T H U st := Ry_no
theorem Tl_y {dr : Bool} {i : Nat} {t : Tr} {r : Trs} : Tl x dr ops (.cons i t r) T H U st = (To1 x dr ops (Sa ops[i]?) t T H U st ∧ Tl x dr ops r T H U st) := Tl_cons
theorem Tk_pory {i : Nat} {t : Tr} : Tk x ops (.por i t) T H U st = To1 x true ops (Sa ops[i]?) t T H U st := Tk_por
theorem Rg_y {l : List Oper} : Rz x false id l T H U st = Rg x (Sa (isJ x.C.js (9000 + id))) l T H U st := Rz_no
theorem OR_y : O x true ops (fR (o :: os)) T H U st = OR x ops (Sa (wOp o.op)) o os T H U st := O_fR
theorem OW_y : O x true ops (fW (o :: os)) T H U st = OW x ops (Sa (wOp o.op)) o os T H U st := O_fW
theorem Cd_y {y : Operand} : M x (.cond y a b) T H U st = Cd x (Sa (ev T y)) a b T H U st := M_cond
theorem O_y : O x dr ops (o :: os) T H U st = Gd x dr (Sa (gM ops o.guard T)) o T H U ops os st := O_cons
theorem Gd_y : Gd x dr .yes o T H U ops os st = Bk x dr (Sa (resO dr x.P o.op o.dst T H U)) o.dst T H U ops os st := Eq.trans Gd_yes rfl
theorem Gd_n : Gd x dr .no o T H U ops os st = Nd (Sa (skp x.P o.op T)) (O x dr ops os (putO T o.dst (.val undef)) H U st) := Eq.trans Gd_no rfl
theorem Gd_s {t : Nat} {b want : Bool} : Gd x dr (.split t b want) o T H U ops os st =
  if b = want then Bk x dr (Sa (resO dr x.P o.op o.dst (upd T t (.bool want)) H U)) o.dst (upd T t (.bool want)) H U ops os st else Nd (Sa (skp x.P o.op (upd T t (.bool !want)))) (O x dr ops os (putO (upd T t (.bool !want)) o.dst (.val undef)) H U st) := Eq.trans Gd_split rfl
theorem Bk_y {f q : Prop} {d : D} {H' U'} : Bk x false (.ok f q d H' U') dst T H U ops os st = Im (Sa f) (An (Sa q) (O x false ops os (putO T dst d) H' U' st)) := Bk_ok
theorem Bk_yD {f q : Prop} {d : D} {H' U'} : Bk x true (.ok f q d H' U') dst T H U ops os st = An (Sa q) (O x true ops os (putO T dst d) H' U' st) := Bk_okD
theorem Bk_c {f : Nat} {caps args : List D} : Bk x dr (.call f caps args) dst T H U ops os st = CX x dr (Sa (x.C.mp f)) f caps args dst T H U ops os st := Eq.trans Bk_call rfl
theorem CX_n {f : Nat} {caps args : List D} : CX x dr [] f caps args dst T H U ops os st =
  Ck x dr (isNil (rfs H (args ++ caps))) (news H (args ++ caps) ∧ St x.P x.C f) (Sa (x.C.c f (cvs H caps) (cvs H args))) dst T H (frzs H (args ++ caps)) U ops os st := CX_nil
theorem CX_c {p : Nat} {ps : List Nat} {f : Nat} {caps args : List D} : CX x false (p :: ps) f caps args dst T H U ops os st =
  Mk x (news H (oths (p :: ps) 0 (args ++ caps)) ∧ StM x.P x.C f) (raws (p :: ps) 0 (args ++ caps)) (Sa (x.C.m f (cvm H (p :: ps) 0 (args ++ caps)) (frzs H (oths (p :: ps) 0 (args ++ caps))))) dst T (frzs H (oths (p :: ps) 0 (args ++ caps))) U ops os st := CX_cons
theorem Ck_y {none : Bool} {q pre : Prop} {out : Out} : Ck x dr none q (pre, out) dst T H Hf U ops os st = ((q ∧ pre) ∧ Ow x dr none out dst T H Hf U ops os st) := Eq.trans Ck_mk rfl
theorem Ow_ite {c : Prop} [Decidable c] {n : Bool} {A B : Out} : Ow x dr n (if c then A else B) dst T H Hf U ops os st = if c then Ow x dr n A dst T H Hf U ops os st else Ow x dr n B dst T H Hf U ops os st := Ok_ite
theorem Ow_go {n : Bool} : ∀ {out : Out}, Ow x dr n out dst T H Hf U ops os st = Ok x dr (Sa (n || gndO out)) (Sa out) dst T H Hf U ops os st := Eq.trans rfl rfl
end
end Go.Tn
namespace Go.Tn
open Go.RowKit
section
variable {K V : Type} [DecidableEq K]
def glk (v0 : V) : List (K × V) → K → V
  | [], _ => v0
  | x :: r, k => if x.1 = k then x.2 else glk v0 r k
def gup : List (K × V) → K → V → List (K × V)
  | [], k, v => [(k, v)]
  | x :: r, k, v => if x.1 = k then (k, v) :: r else x :: gup r k v
def gix : List (K × V) → K → Option Nat
  | [], _ => none
  | x :: r, k => if x.1 = k then some 0 else (gix r k).map (· + 1)
theorem gup_keys (k : K) (v : V) : ∀ m : List (K × V), (gup m k v).map (·.1) = if k ∈ m.map (·.1) then m.map (·.1) else m.map (·.1) ++ [k]
  | [] => by simp [gup]
  | x :: r => by
    have ih := gup_keys k v r
    simp only [gup]
    by_cases e : x.1 = k
    · subst e; simp
    · rw [if_neg e, List.map_cons, ih]
      by_cases h : k ∈ r.map (·.1)
      · rw [if_pos h, if_pos (by rw [List.map_cons]; exact List.mem_cons_of_mem _ h)]; rfl
      · rw [if_neg h, if_neg (by rw [List.map_cons, List.mem_cons]; exact fun h' => h'.elim (fun h' => e h'.symm) h)]; rfl
theorem glk_gup (v0 : V) (k : K) (v : V) (j : K) : ∀ m : List (K × V), glk v0 (gup m k v) j = if j = k then v else glk v0 m j
  | [] => by simp only [gup, glk]; by_cases e : k = j <;> simp [e]; intro h; exact absurd h.symm e
  | x :: r => by
    have ih := glk_gup v0 k v j r
    simp only [gup]
    by_cases e : x.1 = k
    · rw [if_pos e]; simp only [glk]
      by_cases e2 : k = j
      · subst e2; simp
      · rw [if_neg e2, if_neg (fun h => e2 h.symm), if_neg (by rw [e]; exact e2)]
    · rw [if_neg e]; simp only [glk, ih]
      by_cases e2 : x.1 = j
      · rw [if_pos e2, if_pos e2]; rw [if_neg (by rw [← e2]; exact e)]
      · rw [if_neg e2, if_neg e2]
theorem gix_some (m : List (K × V)) (k : K) : (gix m k).isSome = m.any fun x => decide (x.1 = k) := by
  induction m with
  | nil => rfl
  | cons x r ih =>
    simp only [gix, List.any_cons]
    by_cases e : x.1 = k
    · simp [e]
    · rw [if_neg e, decide_eq_false e, Bool.false_or, ← ih]; cases gix r k <;> rfl
variable {ke : K → D} {ve : V → D} {v0 : V} {kty : Ty} (h : ∀ a b, eqK kty (ke a) (ke b) = some (decide (a = b)))
include h
theorem gfind (k : K) : ∀ m : List (K × V), mfind kty (m.map fun x => ke x.1) (ke k) = some (gix m k)
  | [] => rfl
  | x :: r => by
    have ih := gfind k r
    simp only [List.map_cons, mfind, gix]
    rw [h]
    by_cases e : k = x.1
    · subst e; simp
    · rw [if_neg (fun h => e h.symm)]
      simp only [e, decide_false]
      rw [ih, Option.map_some]
omit h in
theorem gget (k : K) : ∀ m : List (K × V), mget (gix m k) (m.map fun x => ve x.2) (ve v0) = ve (glk v0 m k)
  | [] => rfl
  | x :: r => by
    have ih := gget k r
    simp only [gix, glk]
    by_cases e : x.1 = k
    · rw [if_pos e, if_pos e]; rfl
    · rw [if_neg e, if_neg e, ← ih]
      cases gix r k <;> rfl
omit h in
theorem gks (k : K) (v : V) : ∀ m : List (K × V), mks (gix m k) (m.map fun x => ke x.1) (ke k) = (gup m k v).map (fun x => ke x.1) ∧ mds (gix m k) (m.map fun x => ve x.2) (ve v) = (gup m k v).map fun x => ve x.2
  | [] => ⟨rfl, rfl⟩
  | x :: r => by
    obtain ⟨h1, h2⟩ := gks k v r
    simp only [gix, gup]
    by_cases e : x.1 = k
    · rw [if_pos e, if_pos e]
      refine ⟨?_, rfl⟩
      subst e; rfl
    · rw [if_neg e, if_neg e]
      cases hm : gix r k <;> rw [hm] at h1 h2 <;> simp only [mks, mds, Option.map_none, Option.map_some, List.map_cons, List.cons_append, List.set_cons_succ] at h1 h2 ⊢ <;> rw [← h1, ← h2] <;> exact ⟨rfl, rfl⟩
theorem glook {ty ety : Ty} {m : List (K × V)} {k : K} {ok : Bool} {H : Hp} {U : Us} (hz : zeroD ety = ve v0) :
    lookM ty kty ety (m.map fun x => ke x.1) (m.map fun x => ve x.2) (ke k) ok H U = .ok True (ty.kind = .map) (tupOk ok (ve (glk v0 m k)) (m.any fun x => decide (x.1 = k))) H U := by
  unfold lookM
  rw [gfind h]
  simp only [hz, gget, gix_some, h, Option.isSome_some, List.length_map, and_true]
theorem gupd {ty : Ty} {m : List (K × V)} {i : Nat} {k : K} {v : V} {H : Hp} {U : Us} :
    updB (some (.mp (m.map fun x => ke x.1) (m.map fun x => ve x.2) false)) i ty kty (ke k) (ve v) H U = .ok True (ty.kind = .map) .any (upd H i (some (.mp ((gup m k v).map fun x => ke x.1) ((gup m k v).map fun x => ve x.2) false))) U := by
  unfold updB
  simp only [gfind h, (gks (ke := ke) (ve := ve) k v m).1, (gks (ke := ke) (ve := ve) k v m).2, h, Option.isSome_some, List.length_map, and_true]
end
def kS (x : List UInt8 × Int) : D := .str x.1
def vS (x : List UInt8 × Int) : D := .int .i64 x.2
theorem eqK_str {kty : Ty} (h : kty.kind = .str) (a b : List UInt8) : eqK kty (.str a) (.str b) = some (decide (a = b)) := by simp [eqK, h]
theorem lookS {ty kty ety : Ty} {m : List (List UInt8 × Int)} {k : List UInt8} {ok : Bool} {H : Hp} {U : Us} (h : kty.kind = .str) (hz : zeroD ety = .int .i64 0) :
    lookM ty kty ety (m.map kS) (m.map vS) (.str k) ok H U = .ok True (ty.kind = .map) (tupOk ok (.int .i64 (glk 0 m k)) (m.any fun x => decide (x.1 = k))) H U := glook (ke := D.str) (ve := D.int .i64) (v0 := (0 : Int)) (eqK_str h) hz
theorem lookS0 {ty kty ety : Ty} {k : List UInt8} {ok : Bool} {H : Hp} {U : Us} (h : kty.kind = .str) (hz : zeroD ety = .int .i64 0) :
    lookM ty kty ety [] [] (.str k) ok H U = .ok True (ty.kind = .map) (tupOk ok (.int .i64 0) false) H U := lookS (m := []) h hz
theorem updS {ty kty : Ty} {m : List (List UInt8 × Int)} {i : Nat} {k : List UInt8} {v : Int} {H : Hp} {U : Us} (h : kty.kind = .str) :
    updB (some (.mp (m.map kS) (m.map vS) false)) i ty kty (.str k) (.int .i64 v) H U = .ok True (ty.kind = .map) .any (upd H i (some (.mp ((gup m k v).map kS) ((gup m k v).map vS) false))) U := gupd (ke := D.str) (ve := D.int .i64) (eqK_str h)
end Go.Tn
namespace Go.Tn
open Go.RowKit
def apN (P : Program) (t t' : Nat) (x : D) (i n : Nat) (o : Option LObj) (H : Hp) (U : Us) : Option Res := match n with | 1 => apI P t t' x i o H U | _ => none
theorem apP_vec {P : Program} {t t' i n : Nat} {x : D} {H : Hp} {U : Us} : apP P [t, t'] [x, .vec i n] H U = apN P t t' x i n (H i) H U := by
  unfold apP apN
  split
  · rename_i e1 e2
    cases e1; cases e2; rfl
  · rename_i h
    split
    · exact absurd rfl (h t t' x i rfl)
    · rfl
theorem apN_v {P : Program} {t t' i n e sz fz : Nat} {rows : List (List D)} {x : D} {H : Hp} {U : Us} : apN P t t' x i n (some (.vec e sz rows fz)) H U = none := by
  unfold apN apI; split <;> rfl
theorem apN_1 {P : Program} {t t' i e : Nat} {ms : List (Nat × Nat)} {x : D} {H : Hp} {U : Us} : apN P t t' x i 1 (some (.nv e ms)) H U = apI P t t' x i (some (.nv e ms)) H U := rfl
theorem apP_any {P : Program} {t t' : Nat} {x : D} {H : Hp} {U : Us}  : apP P [t, t'] [x, .any] H U = none := rfl
theorem apP_int {P : Program} {t t' : Nat} {x : D} {H : Hp} {U : Us} {k : IntKind} {m : Int} : apP P [t, t'] [x, (.int k m)] H U = none := rfl
theorem apP_bool {P : Program} {t t' : Nat} {x : D} {H : Hp} {U : Us} {b : Bool} : apP P [t, t'] [x, (.bool b)] H U = none := rfl
theorem apP_str {P : Program} {t t' : Nat} {x : D} {H : Hp} {U : Us} {s : List UInt8} : apP P [t, t'] [x, (.str s)] H U = none := rfl
theorem apP_val {P : Program} {t t' : Nat} {x : D} {H : Hp} {U : Us} {v : Value} : apP P [t, t'] [x, (.val v)] H U = none := rfl
theorem apP_nil {P : Program} {t t' : Nat} {x : D} {H : Hp} {U : Us}  : apP P [t, t'] [x, .nil] H U = none := rfl
theorem apP_emp {P : Program} {t t' : Nat} {x : D} {H : Hp} {U : Us}  : apP P [t, t'] [x, .emp] H U = none := rfl
theorem apP_agg {P : Program} {t t' : Nat} {x : D} {H : Hp} {U : Us} {cs : List D} : apP P [t, t'] [x, (.agg cs)] H U = none := rfl
theorem apP_tup {P : Program} {t t' : Nat} {x : D} {H : Hp} {U : Us} {cs : List D} : apP P [t, t'] [x, (.tup cs)] H U = none := rfl
theorem apP_sl {P : Program} {t t' : Nat} {x : D} {H : Hp} {U : Us} {z : Nat} {rows : List (List D)} : apP P [t, t'] [x, (.sl z rows)] H U = none := rfl
theorem apP_box {P : Program} {t t' : Nat} {x : D} {H : Hp} {U : Us} {cs : List D} : apP P [t, t'] [x, (.box cs)] H U = none := rfl
theorem apP_mp {P : Program} {t t' : Nat} {x : D} {H : Hp} {U : Us} {ks : List D} {ds : List D} : apP P [t, t'] [x, (.mp ks ds)] H U = none := rfl
theorem apP_fn {P : Program} {t t' : Nat} {x : D} {H : Hp} {U : Us} {f : Nat} {a : List D} {b : List D} : apP P [t, t'] [x, (.fn f a b)] H U = none := rfl
theorem apP_ifc {P : Program} {t t' : Nat} {x : D} {H : Hp} {U : Us} {u : Nat} {d : D} : apP P [t, t'] [x, (.ifc u d)] H U = none := rfl
theorem apP_loc {P : Program} {t t' : Nat} {x : D} {H : Hp} {U : Us} {i : Nat} {o : Nat} : apP P [t, t'] [x, (.loc i o)] H U = none := rfl
theorem apP_vptr {P : Program} {t t' : Nat} {x : D} {H : Hp} {U : Us} {i : Nat} {n : Nat} {z : Nat} {k : Nat} {o : Nat} : apP P [t, t'] [x, (.vptr i n z k o)] H U = none := rfl
theorem apP_lmap {P : Program} {t t' : Nat} {x : D} {H : Hp} {U : Us} {i : Nat} : apP P [t, t'] [x, (.lmap i)] H U = none := rfl
theorem apP_vsub {P : Program} {t t' : Nat} {x : D} {H : Hp} {U : Us} {i : Nat} {n : Nat} {z : Nat} {lo : Nat} {hi : Nat} : apP P [t, t'] [x, (.vsub i n z lo hi)] H U = none := rfl
theorem apP_yld {P : Program} {t t' : Nat} {x : D} {H : Hp} {U : Us} {j : Nat} : apP P [t, t'] [x, (.yld j)] H U = none := rfl
attribute [go_sem] apP_vec apN_v apN_1 apP_any apP_int apP_bool apP_str apP_val apP_nil apP_emp apP_agg apP_tup apP_sl apP_box apP_mp apP_fn apP_ifc apP_loc apP_vptr apP_lmap apP_vsub apP_yld
attribute [go_sem ↓] Rc_y E_n_tl Rv_y Rv_yes OV_y OV_0 OV_1 OV_2 O_fV0 Wv_y Wv_n WU_0 WU_1 WU_2 E_n_wv E_n_sbs M_scope M_label E_n_scp E_x_scp E_r_scp E_p_scp Un_s E_n_lu E_x_lu E_r_lu E_p_lu Ry_y Tk_leaf Tk_node Tk_nodeF Tk_pory Tl_nil Tl_y To1_s E_n_tr frsZ_c frsZ_n Rz_y Rz_yes OR_y OW_y OR_t OR_f OW_t OW_f O_fR0 O_fW0 E_n_zw E_n_zv E_n_zo M_skip M_region Rg_y Rg_no Rg_yes O_ini O_ini1 E_n_las E_n_las1 Sq_y Cd_y M_block M_exit M_ret O_nil O_y Gd_y Gd_n Gd_s Gd_bad Bk_y Bk_yD Bk_c Bk_bad Ck_y enQ_f Ok_ret Ok_retF Ok_retD Ok_ownD Ok_own Ok_ownF Cd_b E_nil E_n_seq E_x_seq E_r_seq E_n_blk E_x_blk E_r_blk E_n_lp E_x_lp E_r_lp E_n_asg E_n_rng E_x_rng E_r_rng Bk_yield fin_n fin_r CX_n CX_c Mk_bad Mk_ret Mk_pan Mk_ite Bk_pan Ow_ite Sa_go Ok_pan Ok_panD E_p_seq E_p_blk E_p_lp E_p_rng fin_p fin_x finM_n finM_r finM_p finK_ite panF_ite Sq_no
attribute [go_sem] rmv kee clO clC clB Sub_upd wOp wB wT wC freeZ ovl_at ovl_at0 Nat.beq_eq lookS lookS0 updS frI frD List.range_zero Nat.mul_one resO orR nvR bsP bsI bsM apI apJ apM slD sliceO isRec allU statL stat locs locD plainL plainO putPs seqD gM gmN gmB isB undef res tk andC wd snds cvp storeX callR builtR evs ev evp evo ofV leafV putO upd mapT valR finK ownD ownO ownC capR appendZ appZV List.map_replicate List.map_replicate List.length_replicate argT mkT mkH mkU okR loadR loadB loadV storeR storeB storeV allocR newR boxR makeMapR makeSliceR buildR fillD fillC buildSliceR rowsC rowsD binR isK notR negR pickR fieldAddrR indexAddrR fieldR indexR extractR lenX lenVs appX appVs clrX clrVs sliceX sliceVs lenR lenB sliceR bnd appendR appB src cur lookupR lookB lookI lookI0 updI zeroD tupOk mapUpdR cv cvB cvV cvP cvM rf rfB rfV rfW rfM new newB newM newV newW frz fzB fzV fzW fzM cvs frzs news rfs isNil gnd gndL gndO gndR wk wkL mkD cellsOf okc one setAt TK.agg entH entT entO wkO wkN_any wkN_int wkN_bool wkN_str wkN_val wkN_emp wkN_agg wkN_tup wkN_sl wkN_box wkN_mp wkN_fn wkN_ifc wkN_loc wkN_vec wkN_vptr wkN_vsub wkN_lmap wkN_yld wkN_nv wkN_nnil wkN_nany wkN_nemp wkN_nsl wkNL wkF inO inOL inLO List.map_nil List.map_cons List.flatten_nil List.flatten_cons List.foldr_nil List.foldr_cons List.nil_append List.cons_append List.append_nil List.take_nil List.drop_nil List.take_zero List.drop_zero List.take_succ_cons List.drop_succ_cons List.length_nil List.length_cons List.headD_cons List.getD_cons_zero List.getD_cons_succ List.getElem?_toArray List.getElem?_cons_zero List.getElem?_cons_succ List.toList_toArray Option.bind_some Option.getD_some Nat.reduceEqDiff Nat.reduceAdd Nat.reduceSub Nat.reduceMul Nat.reduceLT Nat.reduceLeDiff Nat.zero_add Nat.add_zero Nat.not_lt_zero ne_eq not_false_eq_true not_true_eq_false true_and and_true false_and and_false true_implies false_implies implies_true or_true true_or or_false false_or Bool.true_or Bool.or_true Bool.false_or Bool.or_false Bool.true_and Bool.and_true Bool.false_and Bool.and_false Bool.not_true Bool.not_false Bool.false_eq_true Bool.true_eq_false decide_eq_true_eq decide_eq_false_iff_not reduceCtorEq Int.natCast_nonneg Option.map_some Option.map_none Option.isSome_some Option.isSome_none decide_true decide_false Bool.and_eq_true Bool.and_eq_false_imp Int.natCast_inj Bool.not_eq_true' eqZ Int.ofNat_lt Int.ofNat_le Int.toNat_natCast List.length_map List.length_take List.length_append and_self if_true_left if_true_right ite_self panF finMK panM skp skpD isFnV invR taR taX taD convK convX convB mkifcR maxR minR panV cvm cv1 oths raws con1 objs objs1 muOk muOk1 mkUs frs frs1 dropU addO addU idsO fltU flg tab_c tab_mp tab_m St_tab StM_tab spc_cons mps_nil mps_cons mms_cons List.contains_cons List.contains_nil Nat.reduceBEq Nat.zero_le tab_js isJ_nil isJ_cons beg begS begS
attribute [go_sem] nilC mvE mvS mvER mvSR neP isJ_nil isJ_cons Im_t An_t Nd_t
attribute [go_sem] Fi_go
attribute [go_sem ↓ 100] Ow_go
attribute [go_sem 100] Im_d An_d Nd_d
end Go.Tn
