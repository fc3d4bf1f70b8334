/-
  What the functions compute that the law of this claim reaches. By an AI agent.
-/
import Derived.Lib.ItoaLen
import Derived.Lib.AppendIntMem
import Derived.Test.YtlabdffgcciepaaGreatDoorG3
set_option linter.unusedSimpArgs false
set_option linter.unusedVariables false
set_option linter.unusedSectionVars false
namespace Go.Proofs.YtlabdffgcciepaaGreatDoor
open Go.Tn Go.Shelf
set_option maxHeartbeats 8000000
set_option maxRecDepth 100000
theorem fc_Itoa (n : Int) (hn : InR .i64 n) : FC Tryz.prog 118 [] [.int .i64 n] (.ret (.str (Lib.itoa n))) := by
  refine fc_calls untameW ⟨Tryz.f118, by kernel_rfl, by kernel_rfl, by kernel_rfl⟩ fun S w vs hla hext hv => ?_
  obtain ⟨v, r, rfl, hv1, hv2⟩ := hv
  simp only [RdL] at hv2; subst hv2
  simp only [Rd] at hv1; subst hv1
  have hg : (Tryz.prog : Program).globalNamed "internal/strconv.uint64pow10" = some 1 := by kernel_rfl
  obtain ⟨t, z, hh, _⟩ := hla.1 1 hg
  have htab : Lib.TabIs Tryz.prog w "internal/strconv.uint64pow10" .u64 Lib.pow10Tab := by
    unfold Lib.TabIs World.var?
    rw [hg]
    simp only [Option.bind_some, hh]
  refine Calls.mono (Any.strconv_Itoa Tryz.laysM171 n hn.1 hn.2 w htab) fun e w' ⟨he, k, os, hw⟩ => ?_
  subst hw
  refine ⟨Lib.below_grow _ w (Nat.le_refl _) k os, _, he, fun S' => ?_⟩
  have := Lib.itoa_length_le n hn.1 hn.2
  simp only [Rd, true_and]
  omega
def c_Itoa (caps args : List D) : Prop × Out := match caps, args with
  | [], [.int .i64 n] => (InR .i64 n, .ret (.str (Lib.itoa n)))
  | _, _ => (False, .ret .any)
theorem st_Itoa : StC Tryz.prog 118 c_Itoa := by
  intro caps args; unfold c_Itoa; split
  · exact fun h => fc_Itoa _ h
  · exact fun h => h.elim
def numF (n : Int) : List UInt8 := if n < 0 then [45] else Lib.itoa n
theorem fc_number (n : Int) (hn : InR .i64 n) : FC Tryz.prog 99 [] [.int .i64 n] (.ret (.str (numF n))) := by
  refine fc_M (fn := Tryz.f99) (C := (tab [(118, c_Itoa)] [])) (rs := [2]) mixed (by kernel_rfl) (by kernel_rfl) rfl rfl (by kernel_rfl) (by intro ys h; cases h) ?_
  unfold numF
  by_cases h : n < 0
  · simp +contextual (maxSteps := 5000000) only [go_sem, ↓reduceIte, h]
  · simp +contextual (maxSteps := 5000000) only [go_sem, ↓reduceIte, h, c_Itoa, st_Itoa]
    exact hn
def c_num (caps args : List D) : Prop × Out := match caps, args with
  | [], [.int .i64 n] => (InR .i64 n, .ret (.str (numF n)))
  | _, _ => (False, .ret .any)
theorem st_num : StC Tryz.prog 99 c_num := by
  intro caps args; unfold c_num; split
  · exact fun h => fc_number _ h
  · exact fun h => h.elim
theorem numF_len {n : Int} (h : InR .i64 n) : (numF n).length ≤ 21 := by
  unfold numF
  split
  · simp
  · exact Lib.itoa_length_le n h.1 h.2
def plF (p : Int × Int) : List UInt8 := numF p.1 ++ 58 :: numF p.2
theorem fc_place (a b : Int) (ha : InR .i64 a) (hb : InR .i64 b) : FC Tryz.prog 57 [] [.agg [.int .i64 a, .int .i64 b]] (.ret (.str (plF (a, b)))) := by
  refine fc_M (fn := Tryz.f57) (C := (tab [(99, c_num)] [])) (rs := [2]) mixed (by kernel_rfl) (by kernel_rfl) rfl rfl (by kernel_rfl) (by intro ys h; cases h) ?_
  have h1 := numF_len ha
  have h2 := numF_len hb
  unfold plF
  simp +contextual (maxSteps := 5000000) only [go_sem, ↓reduceIte, c_num, st_num, ha, hb, List.append_assoc, List.length_append, List.length_cons, List.length_nil]
  exact ⟨by omega, fun _ => by omega⟩
def c_place (caps args : List D) : Prop × Out := match caps, args with
  | [], [.agg [.int .i64 a, .int .i64 b]] => (InR .i64 a ∧ InR .i64 b, .ret (.str (plF (a, b))))
  | _, _ => (False, .ret .any)
theorem st_place : StC Tryz.prog 57 c_place := by
  intro caps args; unfold c_place; split
  · exact fun h => fc_place _ _ h.1 h.2
  · exact fun h => h.elim
theorem fc_Contains (s p : List UInt8) (hs : s.length < 4294967281) : FC Tryz.prog 117 [] [.str s, .str p] (.ret (.bool (Lib.contains s p))) := by
  refine fc_calls untameW ⟨Tryz.f117, by kernel_rfl, by kernel_rfl, by kernel_rfl⟩ fun S w vs hla hext hv => ?_
  obtain ⟨v, r, rfl, hv1, u, r2, rfl, hu1, hu2⟩ := hv
  simp only [RdL] at hu2; subst hu2
  simp only [Rd] at hv1 hu1
  obtain ⟨rfl, _⟩ := hv1
  obtain ⟨rfl, _⟩ := hu1
  have hg : (Tryz.prog : Program).globalNamed "internal/bytealg.MaxLen" = some 0 := by kernel_rfl
  obtain ⟨m, t, z, hh, _⟩ := hla.2.2 0 hg
  have hL := Tryz.laysM144
  have hm : w.cell? ⟨0, 0, none⟩ = some (.int .i64 m) := by simp [World.cell?, hh]
  refine Calls.mono (Any.strings_Contains { hL with } ⟨s.toArray⟩ ⟨p.toArray⟩ m w (by simpa [ByteArray.size] using hs) hm) fun e w' ⟨he, hw⟩ => ?_
  subst hw
  exact ⟨RowKit.Below.refl _ _, _, he, fun S' => by simp [Rd]⟩
def c_Contains (caps args : List D) : Prop × Out := match caps, args with
  | [], [.str s, .str p] => (s.length < 4294967281, .ret (.bool (Lib.contains s p)))
  | _, _ => (False, .ret .any)
theorem st_Contains : StC Tryz.prog 117 c_Contains := by
  intro caps args; unfold c_Contains; split
  · exact fun h => fc_Contains _ _ h
  · exact fun h => h.elim
theorem fc_signin (a s : List UInt8) (hs : s.length < 4294967281) : FC Tryz.prog 97 [] [.str a, .str s] (.ret (.bool (Lib.contains s a))) := by
  refine fc_M (fn := Tryz.f97) (C := (tab [(117, c_Contains)] [])) (rs := [4]) mixed (by kernel_rfl) (by kernel_rfl) rfl rfl (by kernel_rfl) (by intro ys h; cases h) ?_
  simp +contextual (maxSteps := 5000000) only [go_sem, ↓reduceIte, c_Contains, st_Contains]
  exact hs
def c_signin (caps args : List D) : Prop × Out := match caps, args with
  | [], [.str a, .str s] => (s.length < 4294967281, .ret (.bool (Lib.contains s a)))
  | _, _ => (False, .ret .any)
theorem st_signin : StC Tryz.prog 97 c_signin := by
  intro caps args; unfold c_signin; split
  · exact fun h => fc_signin _ _ h
  · exact fun h => h.elim
def c_ixS (w : List UInt8) (caps args : List D) : Prop × Out := match caps, args with
  | [], [.sl 1 rows, .fn g [.str a] []] => (((rows = (rows.map dS).map eS ∧ g = 97 ∧ a = w) ∧ rows.length < 1000000000) ∧ ∀ s ∈ rows.map dS, s.length < 4294967281, .ret (.int .i64 (fidx (fun s => Lib.contains s w) (rows.map dS) 0)))
  | _, _ => (False, .ret .any)
theorem fc_ixS (w : List UInt8) (l : List (List UInt8)) (hl : l.length < 1000000000) (hc : ∀ s ∈ l, s.length < 4294967281) :
    FC Tryz.prog 116 [] [.sl 1 (l.map eS), .fn 97 [.str w] []] (.ret (.int .i64 (fidx (fun s => Lib.contains s w) l 0))) := by
  refine fc_M (fn := Tryz.f116) (C := (tab [(97, c_signin)] [])) (rs := [4]) mixed (by kernel_rfl) (by kernel_rfl) rfl rfl (by kernel_rfl) (by intro ys h; cases h) ?_
  simp +contextual (maxSteps := 5000000) only [go_sem, ↓reduceIte]
  intro _
  refine M_loopI (fun i : Nat => ⟨[(0, .sl 1 (l.map eS)), (1, .fn 97 [.str w] []), (7, .int .i64 l.length), (8, .int .i64 i)], []⟩) (fun i => l.length - i) (fun i => i ≤ l.length ∧ ∀ j, j < i → Lib.contains (l.getD j []) w = false) 0 ?_ ?_
  · simp +contextual (maxSteps := 5000000) only [go_sem, ↓reduceIte]
    rfl
  · intro i hi
    obtain ⟨hi, hn⟩ := hi
    by_cases hlt : i < l.length
    · have hm := hc _ (getD_mem (d := []) hlt)
      cases hq : Lib.contains (l.getD i []) w
      · simp +contextual (maxSteps := 5000000) only [go_sem, ↓reduceIte, hlt, eS_at, c_signin, st_signin, hm, hq]
        refine ⟨inR64 (by omega) (by omega), fun _ => ⟨i + 1, by simp, by omega, by omega, fun j hj => ?_⟩⟩
        rcases Nat.lt_or_ge j i with h | h
        · exact hn j h
        · obtain rfl : j = i := by omega
          exact hq
      · simp +contextual (maxSteps := 5000000) only [go_sem, ↓reduceIte, hlt, eS_at, c_signin, st_signin, hm, hq]
        rw [fidx_at (d := []) hlt hq hn]; simp
    · simp +contextual (maxSteps := 5000000) only [go_sem, ↓reduceIte, hlt]
      rw [fidx_no (d := []) (fun j hj => hn j (by omega))]
theorem st_ixS (w : List UInt8) : StC Tryz.prog 116 (c_ixS w) := by
  intro caps args; unfold c_ixS; split
  · rename_i rows g a
    rintro ⟨⟨⟨h1, rfl, rfl⟩, h2⟩, h3⟩
    have := fc_ixS a (rows.map dS) (by simpa using h2) h3
    rw [← h1] at this
    exact this
  · exact fun h => h.elim
theorem fc_cnS (w : List UInt8) (l : List (List UInt8)) (hl : l.length < 1000000000) (hc : ∀ s ∈ l, s.length < 4294967281) :
    FC Tryz.prog 96 [] [.sl 1 (l.map eS), .fn 97 [.str w] []] (.ret (.bool (l.any fun s => Lib.contains s w))) := by
  have hst := st_ixS w
  have hd := dS_eS l
  refine fc_M (fn := Tryz.f96) (C := (tab [(116, c_ixS w)] [])) (rs := [4]) mixed (by kernel_rfl) (by kernel_rfl) rfl rfl (by kernel_rfl) (by intro ys h; cases h) ?_
  simp +contextual (maxSteps := 5000000) only [go_sem, ↓reduceIte, c_ixS, hst, hd, fidx_nn]
  exact ⟨hl, hc⟩
def c_cnA (caps args : List D) : Prop × Out := match caps, args with
  | [], [.sl 1 rows, .fn g [.str a] []] => (((rows = (rows.map dS).map eS ∧ g = 97) ∧ rows.length < 1000000000) ∧ ∀ s ∈ rows.map dS, s.length < 4294967281, .ret (.bool ((rows.map dS).any fun s => Lib.contains s a)))
  | _, _ => (False, .ret .any)
theorem st_cnA : StC Tryz.prog 96 c_cnA := by
  intro caps args; unfold c_cnA; split
  · rename_i rows g a
    rintro ⟨⟨⟨h1, rfl⟩, h2⟩, h3⟩
    have := fc_cnS a (rows.map dS) (by simpa using h2) h3
    rw [← h1] at this
    exact this
  · exact fun h => h.elim
def arY (n : Nat) : List (List D) := (List.range n).map fun i => [.str (arF (i + 1))]
theorem arY_len (n : Nat) : (arY n).length = n := by simp [arY]
theorem arY_at {n i : Nat} (h : i < n) : (arY n).getD i [] = [.str (arF (i + 1))] := by
  simp [arY, List.getD_eq_getElem?_getD, h]
theorem arY_take {n i : Nat} (h : i < n) : (∃ r, arY n ++ [[]] = (arY n).take i ++ [.str (arF (i + 1))] :: r) ∧ (arY n).take i ++ [[.str (arF (i + 1))]] = (arY n).take (i + 1) := by
  have hl : i < (arY n).length := by rw [arY_len]; exact h
  have e := arY_at h
  rw [List.getD_eq_getElem?_getD, List.getElem?_eq_getElem hl, Option.getD_some] at e
  constructor
  · refine ⟨(arY n).drop (i + 1) ++ [[]], ?_⟩
    rw [← e, ← List.cons_append, List.getElem_cons_drop, ← List.append_assoc, List.take_append_drop]
  · rw [List.take_add_one, List.getElem?_eq_getElem hl, e]; rfl
theorem fc_arrows1 (n : Nat) (h0 : 0 < n) (hn : n < 1000000) : FC Tryz.prog 115 [] [] (.seq (arY n ++ [[]])) := by
  refine fcy_M (fn := Tryz.f115) (C := (tab [] [] [3999])) mixed (by kernel_rfl) (by kernel_rfl) rfl rfl (by kernel_rfl) (by kernel_rfl) ?_
  simp +contextual (maxSteps := 5000000) only [go_sem, ↓reduceIte]
  refine M_loopI (fun i : Nat => ⟨[(0, .yld 999), (2, .str (arF (i + 1)))], [(999, .yl (arY n ++ [[]]) ((arY n).take i) false)]⟩) (fun i => n - i) (fun i => i < n) 0 ?_ ?_
  · simp +contextual (maxSteps := 5000000) only [go_sem, ↓reduceIte]
    exact ⟨rfl, h0⟩
  · intro i hi
    obtain ⟨q1, q2⟩ := arY_take hi
    have hal := arF_len (i + 1)
    simp +contextual (maxSteps := 5000000) only [go_sem, ↓reduceIte, hi, enQ_t]
    refine ⟨q1, fun b => ?_⟩
    cases b with
    | false => exact .inr fun h => by cases h
    | true =>
      by_cases he : i + 1 = n
      · left
        refine ⟨rfl, ?_⟩
        rw [q2, he, show (arY n).take n = arY n from List.take_of_length_le (by rw [arY_len]; exact Nat.le_refl _)]
      · right
        refine fun _ => ⟨by omega, fun _ => ⟨i + 1, ⟨by rw [arF_succ (i + 1)], q2⟩, by omega, by omega⟩⟩
def c_arrows1 (n : Nat) (caps args : List D) : Prop × Out := match caps, args with
  | [], [] => (0 < n ∧ n < 1000000, .seq (arY n ++ [[]]))
  | _, _ => (False, .ret .any)
theorem st_arrows1 (n : Nat) : StC Tryz.prog 115 (c_arrows1 n) := by
  intro caps args; unfold c_arrows1; split
  · exact fun h => fc_arrows1 n h.1 h.2
  · exact fun h => h.elim
def c_arrows (caps args : List D) : Prop × Out := match caps, args with
  | [], [] => (True, .ret (.fn 115 [] []))
  | _, _ => (False, .ret .any)
theorem st_arrows : StC Tryz.prog 95 c_arrows := by
  intro caps args; unfold c_arrows; split
  · intro _
    refine fc_M (fn := Tryz.f95) (C := (tab [] [])) (rs := [0]) mixed (by kernel_rfl) (by kernel_rfl) rfl rfl (by kernel_rfl) (by intro ys h; cases h) ?_
    simp +contextual (maxSteps := 5000000) only [go_sem, ↓reduceIte]
  · exact fun h => h.elim
theorem fc_Arrow (l : List (List UInt8)) (hl : l.length < 1000000000) (hc : ∀ s ∈ l, s.length < 900000) : FC Tryz.prog 54 [] [.sl 1 (l.map eS)] (.ret (.str (awF l))) := by
  obtain ⟨n1, n2, n3, n4⟩ := arN_spec 900000 l 1 hc (by omega)
  have haw : awF l = arF (arN l 1) := rfl
  generalize hN : arN l 1 = N at n1 n2 n3 n4 haw
  have hyes : ∀ j, j + 1 < N → (l.any fun s => Lib.contains s (arF (j + 1))) = true := fun j hj => by
    obtain ⟨s, hs, h⟩ := n4 (j + 1) (by omega) hj
    exact List.any_eq_true.2 ⟨s, hs, by simp [Lib.contains, h]⟩
  have hno : (l.any fun s => Lib.contains s (arF N)) = false := by
    rw [Bool.eq_false_iff]
    intro h
    obtain ⟨s, hs, h⟩ := List.any_eq_true.1 h
    exact n3 s hs (by simpa [Lib.contains] using h)
  have hcl : ∀ s ∈ l, s.length < 4294967281 := fun s hs => by have := hc s hs; omega
  have hst1 := st_arrows1 N
  have hd := dS_eS l
  refine fc_M (fn := Tryz.f54) (C := (tab [(95, c_arrows), (115, c_arrows1 N), (96, c_cnA)] [] [3998])) (rs := [2]) mixed (by kernel_rfl) (by kernel_rfl) rfl rfl (by kernel_rfl) (by intro ys h; cases h) ?_
  simp +contextual (maxSteps := 5000000) only [go_sem, ↓reduceIte, c_arrows, st_arrows]
  refine M_rangeE (f := 115) (caps := []) (ys := arY N) (pre := (c_arrows1 N [] []).1) ?_ ?_ ?_ (σ := Unit) [(1, .loc 1 0), (3, .loc 3 0)] (fun j _ => [(1, .blk [.sl 1 (l.map eS)] false), (3, .blk [.str []] false)]) (fun j _ => j < N) () ?_ ?_ ?_
  · simp +contextual (maxSteps := 5000000) only [go_sem, ↓reduceIte]
  · simp +contextual (maxSteps := 5000000) only [go_sem, ↓reduceIte, c_arrows1]
  · simp +contextual (maxSteps := 5000000) only [go_sem, ↓reduceIte, c_arrows1, hst1]
    omega
  · simp +contextual (maxSteps := 5000000) only [go_sem, ↓reduceIte]
    refine ⟨fun y hy => ?_, fun _ => by rw [arY_len]; omega⟩
    obtain ⟨x, _, rfl⟩ := List.mem_map.1 hy
    rfl
  · simp +contextual (maxSteps := 5000000) only [go_sem, ↓reduceIte]
    omega
  · intro j _ hj hlt2
    rw [arY_at hj]
    by_cases hjn : j + 1 < N
    · have h1 := hyes j hjn
      simp +contextual (maxSteps := 5000000) only [go_sem, ↓reduceIte, putPs, c_cnA, st_cnA, hd, h1]
      refine ⟨⟨hl, hcl⟩, ?_⟩
      rw [arY_len]; exact ⟨(), hjn, hjn⟩
    · obtain rfl : N = j + 1 := by omega
      simp +contextual (maxSteps := 5000000) only [go_sem, ↓reduceIte, putPs, c_cnA, st_cnA, hd, hno, finC, finCB, locR]
      exact ⟨⟨hl, hcl⟩, haw.symm⟩
def c_Arrow (caps args : List D) : Prop × Out := match caps, args with
  | [], [.sl 1 rows] => ((rows = (rows.map dS).map eS ∧ rows.length < 1000000000) ∧ ∀ s ∈ rows.map dS, s.length < 900000, .ret (.str (awF (rows.map dS))))
  | _, _ => (False, .ret .any)
theorem st_Arrow : StC Tryz.prog 54 c_Arrow := by
  intro caps args; unfold c_Arrow; split
  · rename_i rows
    rintro ⟨⟨h1, h2⟩, h3⟩
    have := fc_Arrow (rows.map dS) (by simpa using h2) h3
    rw [← h1] at this
    exact this
  · exact fun h => h.elim
end Go.Proofs.YtlabdffgcciepaaGreatDoor
namespace Go.Proofs.YtlabdffgcciepaaGreatDoor
open Go.Tn
set_option maxHeartbeats 8000000
set_option maxRecDepth 100000
def shF (d : Dl) : List (Int × Int) := byF d.cols d.B.length ++ gnP (rsL (d.cols.map (·.1)) d.A.length)
theorem shown_in {d : Dl} (g : OkD d) : ∀ q ∈ shF d, (-1 ≤ q.1 ∧ q.1 < d.A.length) ∧ (-1 ≤ q.2 ∧ q.2 < d.B.length) ∧ (0 ≤ q.1 ∨ 0 ≤ q.2) := by
  intro q hq
  rcases List.mem_append.1 hq with h | h
  · obtain ⟨b, hb, rfl⟩ := List.mem_map.1 h
    have hb' := List.mem_range.1 hb
    rcases bbF_cases b d.cols with ⟨r, hr, h1, h2⟩ | ⟨_, h2⟩
    · rw [h2]
      have := g.cols.inn r hr
      unfold inB at this
      omega
    · rw [h2]; simp only; omega
  · obtain ⟨a, ha, rfl⟩ := List.mem_map.1 h
    obtain ⟨⟨h1, h2⟩, _⟩ := mem_rsL.1 ha
    simp only; omega
theorem shF_len (d : Dl) : (shF d).length ≤ d.B.length + d.A.length := by
  unfold shF
  have := rsL_len (d.cols.map (·.1)) d.A.length
  rw [List.length_append, byF_len]
  simp only [gnP, List.length_map]; omega
def lnR (l : List Ln) (a : Int) : List Str := match l.find? fun x => decide (x.1 = a) with | some x => x.2 | none => []
theorem eLn_at (l : List Ln) (i : Nat) (h : i < l.length) : (l.map eL).getD i [] = [.int .i64 (l.getD i (0, [])).1, .sl 1 ((l.getD i (0, [])).2.map eS)] := at_of eL (0, []) l i h
theorem eSpn_at (l : List Sp) (i : Nat) (h : i < l.length) : (l.map eSp).getD i [] = [.int .i64 (l.getD i (0, 0, [])).1, .int .i64 (l.getD i (0, 0, [])).2.1, .str (l.getD i (0, 0, [])).2.2] := at_of eSp (0, 0, []) l i h
def spR (l : List Sp) (r c : Int) : Str := match l.find? fun x => decide (x.1 = r ∧ x.2.1 = c) with | some x => x.2.2 | none => []
def goC (cells : List Str) (q : Int × Int) : Str := if 0 ≤ q.1 then cells.getD q.1.toNat [] else []
def frC (cells : List Str) (q : Int × Int) : Str := if 0 ≤ q.2 then cells.getD q.2.toNat [] else []
end Go.Proofs.YtlabdffgcciepaaGreatDoor
namespace Go.Proofs.YtlabdffgcciepaaGreatDoor
open Go.Tn
set_option maxHeartbeats 8000000
set_option maxRecDepth 100000
def stF6 (l : List St6) (p : Int × Int) : List St6 := l.filter fun s => decide (s.i = p.1 ∧ s.j = p.2)
theorem stF6_take {l : List St6} {p : Int × Int} {i : Nat} (h : i < l.length) : stF6 (l.take (i + 1)) p = stF6 (l.take i) p ++ if (l.getD i default).i = p.1 ∧ (l.getD i default).j = p.2 then [l.getD i default] else [] := by
  unfold stF6
  rw [List.take_add_one, List.getElem?_eq_getElem h, List.filter_append, List.getD_eq_getElem?_getD, List.getElem?_eq_getElem h, Option.getD_some, Option.toList_some]
  congr 1
  by_cases c : l[i].i = p.1 ∧ l[i].j = p.2
  · rw [if_pos c]; simp [c]
  · rw [if_neg c, List.filter_cons, decide_eq_false c]; rfl
theorem awF_len {l : List Str} (hc : ∀ s ∈ l, s.length < 900000) : (awF l).length ≤ 900001 := by
  have := (arN_spec 900000 l 1 hc (by omega)).2.1
  unfold awF; rw [arF_len]; omega
theorem awF_pos (l : List Str) : 0 < (awF l).length := by unfold awF; rw [arF_len]; omega
def tlC (l : List St6) (w : Str) (c : Str) (q : Int × Int) : Str := l.foldl (fun c s => if s.p = q.1 ∧ s.q = q.2 then s.o ++ w ++ s.n else c) c
def tl0 (d : Dl) (p q : Int × Int) : Str := if q.2 < 0 then spR d.lost p.1 q.1 else if q.1 < 0 then spR d.gain p.2 q.2 else []
def tlM (inn : Bool) (l : List St6) (w : Str) : Str := if (if inn = true then ([] : Str) else [58]) ++ (if 0 < l.length then w else []) = [] then [43] else (if inn = true then ([] : Str) else [58]) ++ (if 0 < l.length then w else [])
def quF (d : Dl) (p : Int × Int) : Bool := decide (p ∈ stP d.rows) && (decide ((stF6 d.sets p).length = 0) && (decide (d.cols.length = d.A.length) && decide (d.cols.length = d.B.length)))
def rtold (d : Dl) (sh : List (Int × Int)) (p : Int × Int) : List Str := if quF d p = true then [] else
  tlM (decide (p ∈ stP d.rows)) (stF6 d.sets p) (awF (txS (stF6 d.sets p))) :: plF p :: sh.map fun q => tlC (stF6 d.sets p) (awF (txS (stF6 d.sets p))) (tl0 d p q) q
end Go.Proofs.YtlabdffgcciepaaGreatDoor
namespace Go.Proofs.YtlabdffgcciepaaGreatDoor
open Go.Tn
set_option maxHeartbeats 8000000
set_option maxRecDepth 100000
def mkF (S : List (Int × Int)) (q : Int × Int) : Str := if q.2 < 0 then [45, 45, 45] else if q.1 < 0 then [43, 43, 43] else if q ∈ S then [] else [58]
def nmF (A B : List Str) (w : Str) (q : Int × Int) : Str := if q.2 < 0 then A.getD q.1.toNat [] else if q.1 < 0 ∨ A.getD q.1.toNat [] = B.getD q.2.toNat [] then B.getD q.2.toNat [] else A.getD q.1.toNat [] ++ w ++ B.getD q.2.toNat []
def hdsF (d : Dl) (sh : List (Int × Int)) : List (List Str) :=
  [[33] :: [] :: sh.map (mkF (stP d.cols)), [35] :: plF (d.na, d.nb) :: sh.map plF, [64, 64] :: awF (d.A ++ d.B) :: sh.map (nmF d.A d.B (awF (d.A ++ d.B)))]
abbrev inSh (d : Dl) (q : Int × Int) : Prop := (-1 ≤ q.1 ∧ q.1 < d.A.length) ∧ (-1 ≤ q.2 ∧ q.2 < d.B.length) ∧ (0 ≤ q.1 ∨ 0 ≤ q.2)
end Go.Proofs.YtlabdffgcciepaaGreatDoor
namespace Go.Proofs.YtlabdffgcciepaaGreatDoor
open Go.Tn
set_option maxHeartbeats 8000000
set_option maxRecDepth 100000
theorem wvF_mem {st : Int × Int → Bool} {x : Int × Int} : ∀ {L : List (Int × Int)} {G : List Int}, x ∈ wvF st L G → x ∈ L ∨ ∃ a ∈ G, x = (a, -1)
  | [], G, h => by
    obtain ⟨a, ha, rfl⟩ := List.mem_map.1 (show x ∈ G.map fun a => (a, -1) from h)
    exact .inr ⟨a, ha, rfl⟩
  | p :: r, G, h => by
    simp only [wvF] at h
    split at h
    · rcases List.mem_append.1 h with h | h
      · obtain ⟨a, ha, rfl⟩ := List.mem_map.1 (show x ∈ (tkA p.1 G).map fun a => (a, -1) from h)
        exact .inr ⟨a, (List.takeWhile_sublist _).subset ha, rfl⟩
      · rcases List.mem_cons.1 h with rfl | h
        · exact .inl (by simp)
        · rcases wvF_mem h with h | ⟨a, ha, e⟩
          · exact .inl (by simp [h])
          · exact .inr ⟨a, dp_sub _ _ a ha, e⟩
    · rcases List.mem_cons.1 h with rfl | h
      · exact .inl (by simp)
      · rcases wvF_mem h with h | ⟨a, ha, e⟩
        · exact .inl (by simp [h])
        · exact .inr ⟨a, ha, e⟩
theorem odF_mem {l : List (Int × Int)} {na nb : Int} (g : Good l na nb) {x : Int × Int} (h : x ∈ odF l na nb) : x ∈ l ∨ (x.1 = -1 ∧ x.2 ∈ rsL (l.map (·.2)) nb.toNat) ∨ (x.2 = -1 ∧ x.1 ∈ rsL (l.map (·.1)) na.toNat) := by
  rw [od_wv g] at h
  rcases wvF_mem h with h | ⟨a, ha, rfl⟩
  · obtain ⟨b, hb, rfl⟩ := List.mem_map.1 h
    have hb' := List.mem_range.1 hb
    rcases bbF_cases b l with ⟨q, hq, _, h2⟩ | ⟨h1, h2⟩
    · rw [h2]; exact .inl hq
    · rw [h2]
      refine .inr (.inl ⟨rfl, mem_rsL.2 ⟨⟨?_, ?_⟩, fun hm => ?_⟩⟩)
      · exact Int.natCast_nonneg _
      · simp only; omega
      · obtain ⟨q, hq, e⟩ := List.mem_map.1 hm
        exact h1 q hq e
  · exact .inr (.inr ⟨rfl, ha⟩)
theorem mtF_memH {α β : Type} {q : α → β → Bool} : ∀ {l : List α} {r : List β}, mtF q l r = true → (∀ x ∈ l, ∃ y ∈ r, q x y = true) ∧ ∀ y ∈ r, ∃ x ∈ l, q x y = true
  | [], [], _ => by simp
  | x :: l, y :: r, h => by
    simp only [mtF, Bool.and_eq_true] at h
    obtain ⟨h1, h2⟩ := mtF_memH h.2
    refine ⟨fun a ha => ?_, fun b hb => ?_⟩
    · rcases List.mem_cons.1 ha with rfl | ha
      · exact ⟨y, by simp, h.1⟩
      · obtain ⟨z, hz, hq⟩ := h1 a ha
        exact ⟨z, by simp [hz], hq⟩
    · rcases List.mem_cons.1 hb with rfl | hb
      · exact ⟨x, by simp, h.1⟩
      · obtain ⟨z, hz, hq⟩ := h2 b hb
        exact ⟨z, by simp [hz], hq⟩
theorem lnR_len {l : List Ln} {w : Int} {r : List Int} (h : mtF (isL w) l r = true) {a : Int} (ha : a ∈ r) : ((lnR l a).length : Int) = w := by
  obtain ⟨h1, h2⟩ := mtF_memH h
  obtain ⟨x, hx, hq⟩ := h2 a ha
  simp only [isL, decide_eq_true_eq] at hq
  cases hf : l.find? fun x => decide (x.1 = a) with
  | none =>
    have := List.find?_eq_none.1 hf x hx
    exact absurd hq.1 (by simpa using this)
  | some y =>
    have hy := List.mem_of_find?_eq_some hf
    obtain ⟨z, _, hz⟩ := h1 y hy
    simp only [isL, decide_eq_true_eq] at hz
    unfold lnR
    rw [hf]; exact hz.2
structure WovOk (d : Dl) (p : Int × Int) : Prop where
  r1 : InR .i64 p.1
  r2 : InR .i64 p.2
  kind : (0 ≤ p.1 ∧ 0 ≤ p.2) ∨ (p.1 = -1 ∧ 0 ≤ p.2 ∧ ((lnR d.inss p.2).length : Int) = d.B.length) ∨ (p.2 = -1 ∧ 0 ≤ p.1 ∧ ((lnR d.dels p.1).length : Int) = d.A.length)
theorem wov_ok {d : Dl} (g : OkD d) {p : Int × Int} (h : p ∈ odF d.rows d.na d.nb) : WovOk d p := by
  have hb := g.big
  rcases odF_mem g.rows h with h | ⟨h1, h2⟩ | ⟨h1, h2⟩
  · have := g.rows.inn p h
    unfold inB at this
    exact ⟨inR64 (by omega) (by omega), inR64 (by omega) (by omega), .inl (by omega)⟩
  · have hm := (mem_rsL.1 h2).1
    exact ⟨inR64 (by omega) (by omega), inR64 (by omega) (by omega), .inr (.inl ⟨h1, hm.1, lnR_len g.lines.2 h2⟩)⟩
  · have hm := (mem_rsL.1 h2).1
    exact ⟨inR64 (by omega) (by omega), inR64 (by omega) (by omega), .inr (.inr ⟨h1, hm.1, lnR_len g.lines.1 h2⟩)⟩
def recR (d : Dl) (p : Int × Int) : List Str :=
  if 0 ≤ p.1 ∧ 0 ≤ p.2 then rtold d (shF d) p
  else if p.1 < 0 then [43, 43, 43] :: plF p :: (shF d).map (frC (lnR d.inss p.2))
  else [45, 45, 45] :: plF p :: (shF d).map (goC (lnR d.dels p.1))
def gapF (n : Nat) : List Str := [46, 46, 46] :: List.replicate (n + 1) []
def stpF' (rec : Int × Int → List Str) (n : Nat) (s : List (List Str) × Bool) (p : Int × Int) : List (List Str) × Bool :=
  if rec p ≠ [] then (s.1 ++ [rec p], false) else if s.2 = true then (s.1, true) else (s.1 ++ [gapF n], true)
def rwF' (rec : Int × Int → List Str) (n : Nat) (L : List (Int × Int)) : List (List Str) × Bool := L.foldl (stpF' rec n) ([], false)
theorem rwF_take {rec : Int × Int → List Str} {n : Nat} {L : List (Int × Int)} {i : Nat} (h : i < L.length) : rwF' rec n (L.take (i + 1)) = stpF' rec n (rwF' rec n (L.take i)) (L.getD i (0, 0)) := by
  unfold rwF'
  rw [List.take_add_one, List.getElem?_eq_getElem h, List.foldl_append, List.getD_eq_getElem?_getD, List.getElem?_eq_getElem h]; rfl
theorem stp_len (rec : Int × Int → List Str) (n : Nat) (s : List (List Str) × Bool) (p : Int × Int) : (stpF' rec n s p).1.length ≤ s.1.length + 1 := by
  unfold stpF'; split
  · simp
  · split <;> simp
theorem rw_len (rec : Int × Int → List Str) (n : Nat) (L : List (Int × Int)) : ∀ i, i ≤ L.length → (rwF' rec n (L.take i)).1.length ≤ i := by
  intro i
  induction i with
  | zero => intro _; simp [rwF']
  | succ i ih =>
    intro hi
    rw [rwF_take hi]
    have := stp_len rec n (rwF' rec n (L.take i)) (L.getD i (0, 0))
    have := ih (by omega)
    omega
def hpF (d : Dl) (rec : Int × Int → List Str) : List (List Str) := hdsF d (shF d) ++ (rwF' rec (shF d).length (odF d.rows d.na d.nb)).1
def rputF (d : Dl) : List (List Str) := if chkD d = 0 then hpF d (recR d) else []
theorem OkD.short9 {d : Dl} (g : OkD d) : ∀ s ∈ txF d, s.length < 900000 := fun s hs => by
  have h : ¬ 1000 < s.length := fun h => g.short ⟨s, hs, h⟩
  omega
theorem OkD.texts {d : Dl} (g : OkD d) : (∀ s ∈ d.A ++ d.B, s.length < 900000) ∧ ∀ s ∈ d.sets, s.o.length < 900000 ∧ s.n.length < 900000 := by
  constructor
  · intro s hs
    refine g.short9 s ?_
    unfold txF
    simp only [List.mem_append] at hs ⊢
    exact .inl (.inl (.inl hs))
  · intro s hs
    have h1 : s.o ∈ txS d.sets := List.mem_flatMap.2 ⟨s, hs, by simp⟩
    have h2 : s.n ∈ txS d.sets := List.mem_flatMap.2 ⟨s, hs, by simp⟩
    constructor
    · refine g.short9 _ ?_
      unfold txF
      simp only [List.mem_append]
      exact .inl (.inr h1)
    · refine g.short9 _ ?_
      unfold txF
      simp only [List.mem_append]
      exact .inl (.inr h2)
theorem odF_len {l : List (Int × Int)} {na nb : Int} : (odF l na nb).length = nb.toNat + (rsL (l.map (·.1)) na.toNat).length := by
  unfold odF; rw [odW_len, byF_len]
end Go.Proofs.YtlabdffgcciepaaGreatDoor
namespace Go.Proofs.YtlabdffgcciepaaGreatDoor
open Go.Tn
set_option maxHeartbeats 8000000
set_option maxRecDepth 100000
def kPi (x : (Int × Int) × Int) : D := .agg [.int .i64 x.1.1, .int .i64 x.1.2]
def vPi (x : (Int × Int) × Int) : D := .int .i64 x.2
theorem lookPi {ty kty ety : Ty} {m : List ((Int × Int) × Int)} {a b : Int} {ok : Bool} {H : Hp} {U : Us} (h : kty.kind = .struct) (he : kty.eagg = true) (hk : kty.zero = [.int .i64 0, .int .i64 0]) (hz : zeroD ety = .int .i64 0) :
    lookM ty kty ety (m.map kPi) (m.map vPi) (.agg [.int .i64 a, .int .i64 b]) ok H U = .ok True (ty.kind = .map) (tupOk ok (.int .i64 (glk 0 m (a, b))) (m.any fun x => decide (x.1 = (a, b)))) H U := glook (ke := keP) (ve := D.int .i64) (v0 := (0 : Int)) (eqK_pair h he hk) (k := (a, b)) hz
theorem updPi {ty kty : Ty} {m : List ((Int × Int) × Int)} {i : Nat} {a b v : Int} {H : Hp} {U : Us} (h : kty.kind = .struct) (he : kty.eagg = true) (hk : kty.zero = [.int .i64 0, .int .i64 0]) :
    updB (some (.mp (m.map kPi) (m.map vPi) false)) i ty kty (.agg [.int .i64 a, .int .i64 b]) (.int .i64 v) H U = .ok True (ty.kind = .map) .any (upd H i (some (.mp ((gup m (a, b) v).map kPi) ((gup m (a, b) v).map vPi) false))) U := gupd (ke := keP) (ve := D.int .i64) (eqK_pair h he hk) (k := (a, b))
def vO (z : Nat) {α : Type} (e : α → List D) : Option (List α) → D | none => .nil | some l => .sl z (l.map e)
def kLo (x : Int × Option (List Str)) : D := .int .i64 x.1
def vLo (x : Int × Option (List Str)) : D := vO 1 eS x.2
theorem lookLo {ty kty ety : Ty} {m : List (Int × Option (List Str))} {a : Int} {ok : Bool} {H : Hp} {U : Us} (h : kty.kind = .int .i64) (hz : zeroD ety = .nil) :
    lookM ty kty ety (m.map kLo) (m.map vLo) (.int .i64 a) ok H U = .ok True (ty.kind = .map) (tupOk ok (vO 1 eS (glk none m a)) (m.any fun x => decide (x.1 = a))) H U := glook (ke := D.int .i64) (ve := vO 1 eS) (v0 := none) (eqK_int h) (k := a) hz
theorem updLo {ty kty : Ty} {m : List (Int × Option (List Str))} {i : Nat} {a : Int} {v : List Str} {H : Hp} {U : Us} (h : kty.kind = .int .i64) :
    updB (some (.mp (m.map kLo) (m.map vLo) false)) i ty kty (.int .i64 a) (.sl 1 (v.map eS)) H U = .ok True (ty.kind = .map) .any (upd H i (some (.mp ((gup m a (some v)).map kLo) ((gup m a (some v)).map vLo) false))) U := gupd (ke := D.int .i64) (ve := vO 1 eS) (eqK_int h) (k := a) (v := some v)
attribute [go_sem] lookPi updPi lookLo updLo
def stQ (l : List (Int × Int)) (js : List Int) : List ((Int × Int) × Int) := js.foldl (fun m j => gup m (l.getD j.toNat (0, 0)) 1) []
theorem stQ_snoc (l : List (Int × Int)) (js : List Int) (j : Int) : stQ l (js ++ [j]) = gup (stQ l js) (l.getD j.toNat (0, 0)) 1 := by unfold stQ; rw [List.foldl_append]; rfl
theorem stQ_lk (l : List (Int × Int)) (p : Int × Int) : glk 0 (stQ l (stF l)) p = if p ∈ stP l then 1 else 0 := by
  have gen : ∀ (js : List Int) (m : List ((Int × Int) × Int)), glk 0 (js.foldl (fun m j => gup m (l.getD j.toNat (0, 0)) 1) m) p = if p ∈ js.map (fun j => l.getD j.toNat (0, 0)) then 1 else glk 0 m p := by
    intro js
    induction js with
    | nil => intro m; simp
    | cons j r ih =>
      intro m
      rw [List.foldl_cons, ih, glk_gup]
      simp only [List.map_cons, List.mem_cons]
      by_cases h1 : p ∈ r.map (fun j => l.getD j.toNat (0, 0))
      · rw [if_pos h1, if_pos (.inr h1)]
      · rw [if_neg h1]
        by_cases h2 : p = l.getD j.toNat (0, 0)
        · rw [if_pos h2, if_pos (.inl h2)]
        · rw [if_neg h2, if_neg (fun h => h.elim h2 h1)]
  exact gen (stF l) []
theorem w_Still : StC Tryz.prog 60 c_Still := stC_wide fenN fenW untameW (by intro a b; unfold c_Still; split <;> rfl) st_Still
theorem fc_hstill (l : List (Int × Int)) (hl : l.length < 1000000) : FC Tryz.prog 51 [] [.sl 2 (l.map eP)] (.ret (.mp ((stQ l (stF l)).map kPi) ((stQ l (stF l)).map vPi))) := by
  have hd1 : (l.map eP).map dP = l := dP_eP l
  have hstl := stF_len l
  refine fc_M (fn := Tryz.f51) (C := (tab [(60, c_Still)] [] [])) (rs := [2]) mixed (by kernel_rfl) (by kernel_rfl) rfl rfl (by kernel_rfl) (by intro ys h; cases h) ?_
  simp +contextual (maxSteps := 5000000) only [go_sem, ↓reduceIte, c_Still, w_Still, hd1, hl]
  intro _
  refine M_loopI (fun i : Nat => ⟨[(0, .sl 2 (l.map eP)), (3, .lmap 6), (8, .sl 1 ((stF l).map eI)), (9, .int .i64 (stF l).length), (10, .int .i64 i)], [(6, .mp ((stQ l ((stF l).take i)).map kPi) ((stQ l ((stF l).take i)).map vPi) false)]⟩) (fun i => (stF l).length - i) (fun i => i ≤ (stF l).length) 0 ?_ ?_
  · simp +contextual (maxSteps := 5000000) only [go_sem, ↓reduceIte, stQ, List.foldl_nil]
    rfl
  intro i hi
  by_cases hlt : i < (stF l).length
  · have hat := eI_at (stF l) i hlt
    have hj := stF_in l _ (getD_mem (d := (0 : Int)) hlt)
    have hsn : (stF l).take (i + 1) = (stF l).take i ++ [(stF l).getD i 0] := by
      rw [List.take_add_one, List.getElem?_eq_getElem hlt, List.getD_eq_getElem?_getD, List.getElem?_eq_getElem hlt]; rfl
    have hst := stQ_snoc l ((stF l).take i) ((stF l).getD i 0)
    rw [← hsn] at hst
    generalize (stF l).getD i 0 = j at hat hj hst
    obtain ⟨k, rfl⟩ : ∃ k : Nat, j = k := ⟨j.toNat, by omega⟩
    have hk : k < l.length := by omega
    have hat2 := eP_at l k hk
    simp +contextual (maxSteps := 5000000) only [go_sem, ↓reduceIte, hlt, hat, hat2, hk]
    rw [Int.toNat_natCast] at hst
    exact ⟨inR64 (by omega) (by omega), fun _ => ⟨i + 1, ⟨by simp, by rw [hst], by rw [hst]⟩, by omega, by omega⟩⟩
  · obtain rfl : i = (stF l).length := by omega
    rw [List.take_length]
    simp +contextual (maxSteps := 5000000) only [go_sem, ↓reduceIte, hlt]
    done
def c_hst (caps args : List D) : Prop × Out := match caps, args with
  | [], [.sl 2 rows] => (rows = (rows.map dP).map eP ∧ rows.length < 1000000, .ret (.mp ((stQ (rows.map dP) (stF (rows.map dP))).map kPi) ((stQ (rows.map dP) (stF (rows.map dP))).map vPi)))
  | _, _ => (False, .ret .any)
theorem st_hst : StC Tryz.prog 51 c_hst := by
  intro caps args; unfold c_hst; split
  · rename_i rows
    rintro ⟨h1, h2⟩
    have := fc_hstill (rows.map dP) (by simpa using h2)
    rw [← h1] at this
    exact this
  · exact fun h => h.elim
def spM (l : List Sp) : List ((Int × Int) × Str) := l.foldl (fun m x => gup m (x.1, x.2.1) x.2.2) []
theorem spM_take {l : List Sp} {i : Nat} (h : i < l.length) : spM (l.take (i + 1)) = gup (spM (l.take i)) ((l.getD i (0, 0, [])).1, (l.getD i (0, 0, [])).2.1) (l.getD i (0, 0, [])).2.2 := by
  unfold spM
  rw [List.take_add_one, List.getElem?_eq_getElem h, List.foldl_append, List.getD_eq_getElem?_getD, List.getElem?_eq_getElem h]; rfl
theorem fc_hspots (l : List Sp) (hl : l.length < 1000000) : FC Tryz.prog 52 [] [.sl 3 (l.map eSp)] (.ret (.mp ((spM l).map kP) ((spM l).map vP))) := by
  refine fc_M (fn := Tryz.f52) (C := (tab [] [] [])) (rs := [2]) mixed (by kernel_rfl) (by kernel_rfl) rfl rfl (by kernel_rfl) (by intro ys h; cases h) ?_
  simp +contextual (maxSteps := 5000000) only [go_sem, ↓reduceIte]
  intro _
  refine M_loopI (fun i : Nat => ⟨[(3, .lmap 6), (7, .sl 3 (l.map eSp)), (8, .int .i64 l.length), (9, .int .i64 i)], [(6, .mp ((spM (l.take i)).map kP) ((spM (l.take i)).map vP) false)]⟩) (fun i => l.length - i) (fun i => i ≤ l.length) 0 ?_ ?_
  · simp +contextual (maxSteps := 5000000) only [go_sem, ↓reduceIte, spM, List.foldl_nil]
    rfl
  intro i hi
  by_cases hlt : i < l.length
  · have hat := eSpn_at l i hlt
    have hst := spM_take hlt
    generalize l.getD i (0, 0, []) = x at hat hst
    simp +contextual (maxSteps := 5000000) only [go_sem, ↓reduceIte, hlt, hat]
    exact ⟨inR64 (by omega) (by omega), fun _ => ⟨i + 1, ⟨by simp, by rw [hst], by rw [hst]⟩, by omega, by omega⟩⟩
  · obtain rfl : i = l.length := by omega
    rw [List.take_length]
    simp +contextual (maxSteps := 5000000) only [go_sem, ↓reduceIte, hlt]
    done
def c_hsp (caps args : List D) : Prop × Out := match caps, args with
  | [], [.sl 3 rows] => (rows = (rows.map dSp).map eSp ∧ rows.length < 1000000, .ret (.mp ((spM (rows.map dSp)).map kP) ((spM (rows.map dSp)).map vP)))
  | _, _ => (False, .ret .any)
theorem st_hsp : StC Tryz.prog 52 c_hsp := by
  intro caps args; unfold c_hsp; split
  · rename_i rows
    rintro ⟨h1, h2⟩
    have := fc_hspots (rows.map dSp) (by simpa using h2)
    rw [← h1] at this
    exact this
  · exact fun h => h.elim
def lnM (l : List Ln) : List (Int × Option (List Str)) := l.foldl (fun m x => gup m x.1 (some x.2)) []
theorem lnM_take {l : List Ln} {i : Nat} (h : i < l.length) : lnM (l.take (i + 1)) = gup (lnM (l.take i)) (l.getD i (0, [])).1 (some (l.getD i (0, [])).2) := by
  unfold lnM
  rw [List.take_add_one, List.getElem?_eq_getElem h, List.foldl_append, List.getD_eq_getElem?_getD, List.getElem?_eq_getElem h]; rfl
theorem fc_hlines (l : List Ln) (hl : l.length < 1000000) : FC Tryz.prog 53 [] [.sl 2 (l.map eL)] (.ret (.mp ((lnM l).map kLo) ((lnM l).map vLo))) := by
  refine fc_M (fn := Tryz.f53) (C := (tab [] [] [])) (rs := [2]) mixed (by kernel_rfl) (by kernel_rfl) rfl rfl (by kernel_rfl) (by intro ys h; cases h) ?_
  simp +contextual (maxSteps := 5000000) only [go_sem, ↓reduceIte]
  intro _
  refine M_loopI (fun i : Nat => ⟨[(3, .lmap 6), (7, .sl 2 (l.map eL)), (8, .int .i64 l.length), (9, .int .i64 i)], [(6, .mp ((lnM (l.take i)).map kLo) ((lnM (l.take i)).map vLo) false)]⟩) (fun i => l.length - i) (fun i => i ≤ l.length) 0 ?_ ?_
  · simp +contextual (maxSteps := 5000000) only [go_sem, ↓reduceIte, lnM, List.foldl_nil]
    rfl
  intro i hi
  by_cases hlt : i < l.length
  · have hat := eLn_at l i hlt
    have hst := lnM_take hlt
    generalize l.getD i (0, []) = x at hat hst
    simp +contextual (maxSteps := 5000000) only [go_sem, ↓reduceIte, hlt, hat]
    exact ⟨inR64 (by omega) (by omega), fun _ => ⟨i + 1, ⟨by simp, by rw [hst], by rw [hst]⟩, by omega, by omega⟩⟩
  · obtain rfl : i = l.length := by omega
    rw [List.take_length]
    simp +contextual (maxSteps := 5000000) only [go_sem, ↓reduceIte, hlt]
    done
def c_hln (caps args : List D) : Prop × Out := match caps, args with
  | [], [.sl 2 rows] => (rows = (rows.map dL).map eL ∧ rows.length < 1000000, .ret (.mp ((lnM (rows.map dL)).map kLo) ((lnM (rows.map dL)).map vLo)))
  | _, _ => (False, .ret .any)
theorem st_hln : StC Tryz.prog 53 c_hln := by
  intro caps args; unfold c_hln; split
  · rename_i rows
    rintro ⟨h1, h2⟩
    have := fc_hlines (rows.map dL) (by simpa using h2)
    rw [← h1] at this
    exact this
  · exact fun h => h.elim
end Go.Proofs.YtlabdffgcciepaaGreatDoor
namespace Go.Proofs.YtlabdffgcciepaaGreatDoor
open Go.Tn
set_option maxHeartbeats 4000000
set_option maxRecDepth 100000
theorem inn_ne {i k n : Nat} (h : n < 100000 * (i + 1)) : (inn i k = n) = False := by
  apply eq_false; unfold inn; omega
theorem inn_ne' {i k n : Nat} (h : n < 100000 * (i + 1)) : (n = inn i k) = False := by
  apply eq_false; unfold inn; omega
theorem inn_eq {i a b : Nat} : (inn i a = inn i b) = (a = b) := by
  apply propext; unfold inn; omega
section
variable {α : Type} (z : Nat) (f : α → List D)
def idsFG (i : Nat) : Nat → List (List α) → List (Nat × Nat)
  | _, [] => []
  | k, r :: rs => (inn i k, r.length) :: idsFG i (k + 1) rs
def famFG (i e : Nat) : Nat → List (List α) → List (Nat × LObj)
  | _, [] => []
  | k, r :: rs => (inn i k, .vec e z (r.map f) 0) :: famFG i e (k + 1) rs
theorem ids_lenG (i : Nat) : ∀ (rs : List (List α)) (k : Nat), (idsFG i k rs).length = rs.length
  | [], _ => rfl
  | _ :: rs, k => by simp [idsFG, ids_lenG i rs]
theorem ids_atG (i : Nat) : ∀ (rs : List (List α)) (k j : Nat), j < rs.length → (idsFG i k rs).getD j (0, 0) = (inn i (k + j), (rs.getD j []).length)
  | r :: rs, k, 0, _ => by simp [idsFG]
  | r :: rs, k, j + 1, h => by
    have := ids_atG i rs (k + 1) j (by simpa using h)
    simp only [idsFG, List.getD_cons_succ]
    rw [this]; congr 2; omega
theorem ids_snocG (i : Nat) (r : List α) : ∀ (rs : List (List α)) (k : Nat), idsFG i k (rs ++ [r]) = idsFG i k rs ++ [(inn i (k + rs.length), r.length)]
  | [], _ => rfl
  | x :: rs, k => by
    simp only [List.cons_append, idsFG, ids_snocG i r rs (k + 1), List.length_cons]
    rw [show k + 1 + rs.length = k + (rs.length + 1) by omega]
theorem fam_atG (i e : Nat) : ∀ (rs : List (List α)) (k j : Nat), j < rs.length → mkH (famFG z f i e k rs) (inn i (k + j)) = some (.vec e z ((rs.getD j []).map f) 0)
  | r :: rs, k, 0, _ => by simp [famFG, mkH, upd]
  | r :: rs, k, j + 1, h => by
    have := fam_atG i e rs (k + 1) j (by simpa using h)
    simp only [famFG, mkH, upd, List.getD_cons_succ]
    rw [if_neg (by rw [inn_eq]; omega), ← this]
    congr 2; omega
theorem fam_noG (i e : Nat) : ∀ (rs : List (List α)) (k j : Nat), rs.length ≤ j → mkH (famFG z f i e k rs) (inn i (k + j)) = none ∧ mkU (famFG z f i e k rs) (inn i (k + j)) = false
  | [], _, _, _ => ⟨rfl, rfl⟩
  | r :: rs, k, j + 1, h => by
    have := fam_noG i e rs (k + 1) j (by simpa using h)
    rw [show k + 1 + j = k + (j + 1) by omega] at this
    simp only [famFG, mkH, mkU, upd, inn_eq]
    rw [if_neg (by omega), if_neg (by omega)]
    exact this
theorem famU_atG (i e : Nat) : ∀ (rs : List (List α)) (k j : Nat), j < rs.length → mkU (famFG z f i e k rs) (inn i (k + j)) = true
  | r :: rs, k, 0, _ => by simp [famFG, mkU, upd]
  | r :: rs, k, j + 1, h => by
    have := famU_atG i e rs (k + 1) j (by simpa using h)
    rw [show k + 1 + j = k + (j + 1) by omega] at this
    simp only [famFG, mkU, upd, inn_eq]
    rw [if_neg (by omega)]
    exact this
theorem fam_litG (i e n : Nat) (h : n < 100000 * (i + 1)) : ∀ (rs : List (List α)) (k : Nat), mkH (famFG z f i e k rs) n = none ∧ mkU (famFG z f i e k rs) n = false
  | [], _ => ⟨rfl, rfl⟩
  | r :: rs, k => by
    have := fam_litG i e n h rs (k + 1)
    simp only [famFG, mkH, mkU, upd, inn_ne' h, if_false]
    exact this
theorem famH_litG {i e n k : Nat} {rs : List (List α)} (h : n < 100000 * (i + 1)) : mkH (famFG z f i e k rs) n = none := (fam_litG z f i e n h rs k).1
theorem famU_litG {i e n k : Nat} {rs : List (List α)} (h : n < 100000 * (i + 1)) : mkU (famFG z f i e k rs) n = false := (fam_litG z f i e n h rs k).2
theorem fam_entG {V U : Nat → Bool} {H : Nat → Option LObj} (i e : Nat) : ∀ (rs : List (List α)) (k : Nat), (∀ j, j < rs.length → H (inn i (k + j)) = some (.vec e z ((rs.getD j []).map f) 0)) → entO V U H (famFG z f i e k rs)
  | [], _, _ => trivial
  | r :: rs, k, h => by
    simp only [famFG, entO]
    refine ⟨⟨?_, trivial⟩, fam_entG i e rs (k + 1) fun j hj => ?_⟩
    · have := h 0 (by simp)
      rw [show k + 0 = k by omega] at this
      rw [this]
      exact ⟨rfl, rfl, rfl, Nat.le_refl _, by simp⟩
    · have := h (j + 1) (by simpa using hj)
      rw [show k + 1 + j = k + (j + 1) by omega]
      simpa using this
theorem ids_inG {U : Nat → Bool} (i : Nat) : ∀ (rs : List (List α)) (k : Nat), (∀ j, j < rs.length → U (inn i (k + j)) = true) → inOL U (nvD (idsFG i k rs))
  | [], _, _ => trivial
  | r :: rs, k, h => by
    refine ⟨by show U (inn i k) = true; simpa using h 0 (by simp), ids_inG i rs (k + 1) fun j hj => ?_⟩
    have := h (j + 1) (by simpa using hj)
    rwa [show k + 1 + j = k + (j + 1) by omega]
theorem ids_cvG {H : Nat → Option LObj} (i e n : Nat) : ∀ (rs : List (List α)) (k : Nat), (∀ j, j < rs.length → H (inn i (k + j)) = some (.vec e z ((rs.getD j []).map f) 0)) →
    (idsFG i k rs).map (fun q => cv H (n + 1) (.vec q.1 q.2)) = rs.map fun r => .sl z (r.map f)
  | [], _, _ => rfl
  | r :: rs, k, h => by
    have h0 := h 0 (by simp)
    rw [show k + 0 = k by omega] at h0
    simp only [idsFG, List.map_cons, ids_cvG i e n rs (k + 1) (fun j hj => by
      have := h (j + 1) (by simpa using hj)
      rw [show k + 1 + j = k + (j + 1) by omega]
      simpa using this)]
    congr 1
    simp only [cv, h0, cvV, List.getD_cons_zero]
theorem ids_newG {H : Nat → Option LObj} (i e n : Nat) : ∀ (rs : List (List α)) (k : Nat), (∀ j, j < rs.length → H (inn i (k + j)) = some (.vec e z ((rs.getD j []).map f) 0)) →
    (nvD (idsFG i k rs)).foldr (fun c q => new H (n + 1) c ∧ q) True
  | [], _, _ => trivial
  | r :: rs, k, h => by
    have h0 := h 0 (by simp)
    rw [show k + 0 = k by omega] at h0
    refine ⟨?_, ids_newG i e n rs (k + 1) (fun j hj => by
      have := h (j + 1) (by simpa using hj)
      rw [show k + 1 + j = k + (j + 1) by omega]
      simpa using this)⟩
    simp only [new, h0, newW]
    simp
theorem ids_setG (i : Nat) (r : List α) : ∀ (rs : List (List α)) (k j : Nat), j < rs.length → idsFG i k (rs.set j r) = (idsFG i k rs).set j (inn i (k + j), r.length)
  | x :: rs, k, 0, _ => by simp [idsFG]
  | x :: rs, k, j + 1, h => by
    have := ids_setG i r rs (k + 1) j (by simpa using h)
    simp only [List.set_cons_succ, idsFG, this]
    rw [show k + 1 + j = k + (j + 1) by omega]
end
end Go.Proofs.YtlabdffgcciepaaGreatDoor
