/-
  What the functions compute that the law of this claim reaches. By an AI agent.
-/
import Derived.Test.YtdaffodmpoadgaaRows
import Derived.WalkKit
import Derived.ProofKit
import Derived.Test.YtdaffodmpoadgaaG1
set_option linter.unusedSimpArgs false
set_option linter.unusedVariables false

set_option linter.unusedSimpArgs false
namespace Go.Proofs.Ytdaffodmpoadgaa
open Go.Tn
set_option maxHeartbeats 8000000
set_option maxRecDepth 100000
def cm_sm1 (cm : St6 → St6 → Int) (le : St6 → St6 → Bool) (k : Nat) (i n : Nat) (a m b : Int) (g : Nat) (cs : List D) : Option LObj → MS
  | some (.vec e 6 rows 0) => .yes ((e = 38 ∧ rows = (rows.map d6).map eD6) ∧ (rows.length = n ∧ n < 1000000000) ∧ (0 ≤ a ∧ a < m ∧ m < b ∧ b ≤ n ∧ b - a < k) ∧ (cleanL [.fn g [] cs] = true ∧ CmpOn g cs cm (rows.map d6)) ∧ Ps.Sd le (rows.map d6) a.toNat m.toNat ∧ Ps.Sd le (rows.map d6) m.toNat b.toNat) [i] [(i, .vec e 6 ((Ps.seg (Ps.srt le) (rows.map d6) a.toNat b.toNat).map eD6) 0)] (.ret (.tup []))
  | _ => .bad
def cm_sm (cm : St6 → St6 → Int) (le : St6 → St6 → Bool) (k : Nat) (ds : List D) (H : Hp) : MS := match ds with | [.vec i n, .int .i64 a, .int .i64 m, .int .i64 b, .fn g [] cs] => cm_sm1 cm le k i n a m b g cs (H i) | _ => .bad
theorem fcm_sm (g : Nat) (cs : List D) (hcs : cleanL [.fn g [] cs] = true) (cm : St6 → St6 → Int) (le : St6 → St6 → Bool) (hcl : CmpLe cm le) (kk : Nat) (hst : StMC Try.prog 71 [0] (cm_sm cm le kk)) (l : List St6) (hc : CmpOn g cs cm l)
    (a m b : Nat) (n : Nat) (hn : l.length = n) (h1 : a < m) (h2 : m < b) (h4 : b ≤ n) (h3 : n < 1000000000) (hk : b - a ≤ kk) (hA : Ps.Sd le l a m) (hB : Ps.Sd le l m b) :
    FCM Try.prog 71 [(true, .vec 1000 n), (false, .int .i64 a), (false, .int .i64 m), (false, .int .i64 b), (false, .fn g [] cs)] [(1000, .vec 38 6 (l.map eD6) 0)] [(1000, .vec 38 6 ((Ps.seg (Ps.srt le) l a b).map eD6) 0)] (.ret (.tup [])) := by
  have cl := clrL_of (cl_fn hcs)
  have hsc := st_cl hc.2
  have ng := hc.1
  have hp := hcl.p
  have hle := hcl.e
  refine fcm_M (fn := Try.f71) (C := (tab [(g, c_cl cs cm l)] [(71, [0], cm_sm cm le kk), (77, [0], cm_ro)] [39, 41])) (rs := []) mixed (by kernel_rfl) (by kernel_rfl) rfl rfl (by kernel_rfl) ?_ ?_
  · simp +contextual (maxSteps := 5000000) only [go_sem, ↓reduceIte]
  have gd : ∀ {p : Nat} {x : St6}, l[p]? = some x → l.getD p default = x := fun {p x} h => by rw [List.getD_eq_getElem?_getD, h]; rfl
  have hmem : ∀ {p : Nat}, p < l.length → l.getD p default ∈ l := fun {p} h => by rw [List.getD_eq_getElem?_getD, List.getElem?_eq_getElem h]; exact List.getElem_mem h
  have gs : ∀ {p : Nat}, p < l.length → l[p]? = some (l.getD p default) := fun {p} h => by rw [List.getD_eq_getElem?_getD, List.getElem?_eq_getElem h]; rfl
  simp +contextual (maxSteps := 5000000) only [go_sem, ↓reduceIte, eD6_at, eD6_set, List.length_set, tn_add, tn_add1, tn_sub, tn_sub1, sh1, sh1b, half_cast]
  refine ⟨⟨by omega, by omega⟩, fun _ => ?_⟩
  split
  · rename_i e1
    have e1 : m = a + 1 := by omega
    subst e1
    refine M_loopI (fun s : Nat × Nat => ⟨[(0, .vec 1000 n), (1, .int .i64 a), (2, .int .i64 (a + 1 : Nat)), (3, .int .i64 b), (4, .fn g [] cs), (10, .int .i64 s.1), (11, .int .i64 s.2)], [(1000, .vec 38 6 (l.map eD6) 0)]⟩) (fun s => s.2 - s.1)
      (fun s => a + 1 ≤ s.1 ∧ s.1 ≤ s.2 ∧ s.2 ≤ b ∧ (∀ p, a + 1 ≤ p → p < s.1 → cm (l.getD p default) (l.getD a default) < 0) ∧ ∀ p, s.2 ≤ p → p < b → ¬ cm (l.getD p default) (l.getD a default) < 0) (a + 1, b) ?_ ?_
    · simp +contextual (maxSteps := 5000000) only [go_sem, ↓reduceIte, cl.cv6, cl.rf6, cl.nw6, cl.fz6, cl.cv5, cl.rf5, cl.nw5, cl.fz5, cl.wkL, cl.inOL]
      and_intros
      all_goals first | omega | (intros; omega)
    · intro ⟨i, j⟩ hi
      obtain ⟨i1, i2, i3, i4, i5⟩ := hi
      simp only at i1 i2 i3 i4 i5
      simp +contextual (maxSteps := 5000000) only [go_sem, ↓reduceIte, eD6_at, eD6_set, List.length_set, tn_add, tn_add1, tn_sub, tn_sub1, sh1, sh1b, half_cast, cl.cv6, cl.rf6, cl.nw6, cl.fz6, cl.cv5, cl.rf5, cl.nw5, cl.fz5, cl.wkL, cl.inOL, c_cl, hsc, ng]
      simp only [aa, inR_iff, inR_u64]
      split
      · rename_i hij
        have hh : i ≤ (i + j) / 2 ∧ (i + j) / 2 < j := by omega
        generalize (i + j) / 2 = h at hh ⊢
        and_intros
        all_goals first | omega | exact hmem (by omega) | skip
        split
        · rename_i hneg
          and_intros
          all_goals first | omega | skip
          refine ⟨(h + 1, j), ⟨by simp only; omega, rfl⟩, by simp only; omega, by simp only; omega, by simp only; omega, by simp only; omega, fun p p1 p2 => ?_, i5⟩
          simp only at p2
          by_cases e : p = h
          · rw [e]; exact hneg
          · have h5 := hB p h _ _ (by omega) (by omega) (by omega) (gs (by omega)) (gs (by omega))
            have h6 : le (l.getD a default) (l.getD h default) = false := hcl.f.2 hneg
            cases h7 : le (l.getD a default) (l.getD p default) with
            | true => rw [hp.tr _ _ _ h7 h5] at h6; cases h6
            | false => exact hcl.f.1 h7
        · rename_i hneg
          refine ⟨(i, h), ⟨rfl, rfl⟩, by simp only; omega, i1, by simp only; omega, by simp only; omega, i4, fun p p1 p2 => ?_⟩
          simp only at p1
          by_cases e : p = h
          · rw [e]; exact hneg
          · have h5 := hB h p _ _ (by omega) (by omega) (by omega) (gs (by omega)) (gs (by omega))
            have h6 : le (l.getD a default) (l.getD h default) = true := hcl.t.2 hneg
            have h7 := hp.tr _ _ _ h6 h5
            exact hcl.t.1 h7
      · rename_i hij
        have hij : i = j := by omega
        subst hij
        have fin : Ps.rot l a (a + 1) i = Ps.seg (Ps.srt le) l a b := Ps.front_seg hp i1 i3 (by omega) hB
          (fun p x y p1 p2 hx hy => by have := i4 p p1 p2; rw [gd hx, gd hy] at this; exact hcl.f.2 this)
          (fun p x y p1 p2 hx hy => by have := i5 p p1 p2; rw [gd hx, gd hy] at this; exact hcl.t.2 this)
        refine M_loopI (fun k : Nat => ⟨[(0, .vec 1000 n), (10, .int .i64 i), (13, .int .i64 k)], [(1000, .vec 38 6 ((Ps.rot l a (a + 1) (k + 1)).map eD6) 0)]⟩) (fun k => i - k) (fun k => a ≤ k ∧ k < i) a ?_ ?_
        · simp +contextual (maxSteps := 5000000) only [go_sem, ↓reduceIte, cl.cv6, cl.rf6, cl.nw6, cl.fz6, cl.cv5, cl.rf5, cl.nw5, cl.fz5, cl.wkL, cl.inOL]
          rw [Ps.rot_triv (by omega) (by omega) (by omega) (.inr rfl)]
          exact ⟨rfl, by omega⟩
        · intro k hk
          have hlen := Ps.rot_len (l := l) (a := a) (m := a + 1) (b := k + 1) (by omega) (by omega) (by omega)
          simp +contextual (maxSteps := 5000000) only [go_sem, ↓reduceIte, eD6_at, eD6_set, List.length_set, tn_add, tn_add1, tn_sub, tn_sub1, sh1, sh1b, half_cast, cl.cv6, cl.rf6, cl.nw6, cl.fz6, cl.cv5, cl.rf5, cl.nw5, cl.fz5, cl.wkL, cl.inOL]
          simp only [aa, inR_iff, inR_u64]
          and_intros
          · omega
          · omega
          split
          · rename_i hlt
            and_intros
            all_goals first | omega | skip
            refine ⟨k + 1, ⟨by omega, ?_⟩, by omega, by omega, by omega⟩
            rw [← Ps.rot_up default (by omega) (by omega)]
            rfl
          · rename_i hge
            have : k + 1 = i := by omega
            rw [this, fin]
  · rename_i e1
    refine ⟨⟨by omega, by omega⟩, fun _ => ?_⟩
    split
    · rename_i e2
      have e2 : b = m + 1 := by omega
      subst e2
      refine M_loopI (fun s : Nat × Nat => ⟨[(0, .vec 1000 n), (1, .int .i64 a), (2, .int .i64 m), (3, .int .i64 (m + 1 : Nat)), (4, .fn g [] cs), (14, .int .i64 s.1), (15, .int .i64 s.2)], [(1000, .vec 38 6 (l.map eD6) 0)]⟩) (fun s => s.2 - s.1)
        (fun s => a ≤ s.1 ∧ s.1 ≤ s.2 ∧ s.2 ≤ m ∧ (∀ p, a ≤ p → p < s.1 → ¬ cm (l.getD m default) (l.getD p default) < 0) ∧ ∀ p, s.2 ≤ p → p < m → cm (l.getD m default) (l.getD p default) < 0) (a, m) ?_ ?_
      · simp +contextual (maxSteps := 5000000) only [go_sem, ↓reduceIte, cl.cv6, cl.rf6, cl.nw6, cl.fz6, cl.cv5, cl.rf5, cl.nw5, cl.fz5, cl.wkL, cl.inOL]
        and_intros
        all_goals first | omega | (intros; omega)
      · intro ⟨i, j⟩ hi
        obtain ⟨i1, i2, i3, i4, i5⟩ := hi
        simp only at i1 i2 i3 i4 i5
        simp +contextual (maxSteps := 5000000) only [go_sem, ↓reduceIte, eD6_at, eD6_set, List.length_set, tn_add, tn_add1, tn_sub, tn_sub1, sh1, sh1b, half_cast, cl.cv6, cl.rf6, cl.nw6, cl.fz6, cl.cv5, cl.rf5, cl.nw5, cl.fz5, cl.wkL, cl.inOL, c_cl, hsc, ng]
        simp only [aa, inR_iff, inR_u64]
        split
        · rename_i hij
          have hh : i ≤ (i + j) / 2 ∧ (i + j) / 2 < j := by omega
          generalize (i + j) / 2 = h at hh ⊢
          and_intros
          all_goals first | omega | exact hmem (by omega) | skip
          split
          · rename_i hneg
            and_intros
            all_goals first | omega | skip
            refine ⟨(h + 1, j), ⟨by simp only; omega, rfl⟩, by simp only; omega, by simp only; omega, by simp only; omega, by simp only; omega, fun p p1 p2 => ?_, i5⟩
            simp only at p2
            by_cases e : p = h
            · rw [e]; exact hneg
            · have h5 := hA p h _ _ (by omega) (by omega) (by omega) (gs (by omega)) (gs (by omega))
              have h6 : le (l.getD h default) (l.getD m default) = true := hcl.t.2 hneg
              exact hcl.t.1 (hp.tr _ _ _ h5 h6)
          · rename_i hneg
            have hneg := Classical.not_not.1 hneg
            refine ⟨(i, h), ⟨rfl, rfl⟩, by simp only; omega, i1, by simp only; omega, by simp only; omega, i4, fun p p1 p2 => ?_⟩
            simp only at p1
            by_cases e : p = h
            · rw [e]; exact hneg
            · have h5 := hA h p _ _ (by omega) (by omega) (by omega) (gs (by omega)) (gs (by omega))
              have h6 : le (l.getD h default) (l.getD m default) = false := hcl.f.2 hneg
              cases h7 : le (l.getD p default) (l.getD m default) with
              | true => rw [hp.tr _ _ _ h5 h7] at h6; cases h6
              | false => exact hcl.f.1 h7
        · rename_i hij
          have hij : i = j := by omega
          subst hij
          have fin : Ps.rot l i m (m + 1) = Ps.seg (Ps.srt le) l a (m + 1) := Ps.back_seg hp i1 i3 (by omega) hA
            (fun p x y p1 p2 hx hy => by have := i4 p p1 p2; rw [gd hx, gd hy] at this; exact hcl.t.2 this)
            (fun p x y p1 p2 hx hy => by have := i5 p p1 p2; rw [gd hx, gd hy] at this; exact hcl.f.2 this)
          refine M_loopI (fun k : Nat => ⟨[(0, .vec 1000 n), (14, .int .i64 i), (17, .int .i64 k)], [(1000, .vec 38 6 ((Ps.rot l k m (m + 1)).map eD6) 0)]⟩) (fun k => k) (fun k => i ≤ k ∧ k ≤ m) m ?_ ?_
          · simp +contextual (maxSteps := 5000000) only [go_sem, ↓reduceIte, cl.cv6, cl.rf6, cl.nw6, cl.fz6, cl.cv5, cl.rf5, cl.nw5, cl.fz5, cl.wkL, cl.inOL]
            rw [Ps.rot_triv (by omega) (by omega) (by omega) (.inl rfl)]
            exact ⟨rfl, by omega⟩
          · intro k hk
            have hlen := Ps.rot_len (l := l) (a := k) (m := m) (b := m + 1) (by omega) (by omega) (by omega)
            simp +contextual (maxSteps := 5000000) only [go_sem, ↓reduceIte, eD6_at, eD6_set, List.length_set, tn_add, tn_add1, tn_sub, tn_sub1, sh1, sh1b, half_cast, cl.cv6, cl.rf6, cl.nw6, cl.fz6, cl.cv5, cl.rf5, cl.nw5, cl.fz5, cl.wkL, cl.inOL]
            simp only [aa, inR_iff, inR_u64]
            split
            · rename_i hlt
              and_intros
              all_goals first | omega | skip
              refine ⟨k - 1, ⟨by omega, ?_⟩, by omega, by omega, by omega⟩
              rw [← Ps.rot_down default (by omega) (by omega) (by omega)]
              rfl
            · rename_i hge
              have : k = i := by omega
              rw [this, fin]
    · rename_i e2
      obtain ⟨mid, hmid⟩ : ∃ mid, mid = (a + b) / 2 := ⟨_, rfl⟩
      obtain ⟨lo, hlo⟩ : ∃ lo, lo = if mid < m then mid + m - b else a := ⟨_, rfl⟩
      obtain ⟨hi, hhi⟩ : ∃ hi, hi = if mid < m then mid else m := ⟨_, rfl⟩
      rw [← hmid]
      have hmid2 : 2 * mid ≤ a + b ∧ a + b ≤ 2 * mid + 1 := by omega
      clear hmid
      simp only [aa, inR_iff, inR_u64]
      and_intros
      all_goals first | omega | skip
      split
      all_goals
        rename_i hmm
        first | rw [if_pos hmm] at hlo hhi | rw [if_neg hmm] at hlo hhi
        have hF : a ≤ lo ∧ lo ≤ hi ∧ hi ≤ m ∧ hi ≤ mid ∧ mid + m ≤ lo + b ∧ (lo = a ∨ lo + b = mid + m) ∧ (hi = mid ∨ hi = m) := by omega
        and_intros
        all_goals first | omega | skip
        refine M_loopI (fun s : Nat × Nat => ⟨[(0, .vec 1000 n), (1, .int .i64 a), (2, .int .i64 m), (3, .int .i64 b), (4, .fn g [] cs), (18, .int .i64 mid), (19, .int .i64 (mid + m : Nat)), (20, .int .i64 s.1), (21, .int .i64 s.2), (22, .int .i64 (mid + m - 1 : Nat))], [(1000, .vec 38 6 (l.map eD6) 0)]⟩) (fun s => s.2 - s.1)
          (fun s => lo ≤ s.1 ∧ s.1 ≤ s.2 ∧ s.2 ≤ hi ∧ (s.1 = lo ∨ ¬ cm (l.getD (mid + m - s.1) default) (l.getD (s.1 - 1) default) < 0) ∧ (s.2 = hi ∨ cm (l.getD (mid + m - 1 - s.2) default) (l.getD s.2 default) < 0)) (lo, hi) ?_ ?_
        · simp +contextual (maxSteps := 5000000) only [go_sem, ↓reduceIte, cl.cv6, cl.rf6, cl.nw6, cl.fz6, cl.cv5, cl.rf5, cl.nw5, cl.fz5, cl.wkL, cl.inOL]
          and_intros
          all_goals omega
        · intro ⟨i, j⟩ hi
          obtain ⟨i1, i2, i3, i4, i5⟩ := hi
          simp only at i1 i2 i3 i4 i5
          simp +contextual (maxSteps := 5000000) only [go_sem, ↓reduceIte, eD6_at, eD6_set, List.length_set, tn_add, tn_add1, tn_sub, tn_sub1, sh1, sh1b, half_cast, cl.cv6, cl.rf6, cl.nw6, cl.fz6, cl.cv5, cl.rf5, cl.nw5, cl.fz5, cl.wkL, cl.inOL, c_cl, hsc, ng, cm_sm, cm_sm1, hst, cm_ro, cm_ro1, stm_ro, d6_eD6]
          simp only [aa, inR_iff, inR_u64]
          split
          · rename_i hij
            have hh : i ≤ (i + j) / 2 ∧ (i + j) / 2 < j := by omega
            generalize (i + j) / 2 = h at hh ⊢
            and_intros
            all_goals first | omega | exact hmem (by omega) | skip
            split
            · rename_i hneg
              and_intros
              all_goals first | omega | skip
              refine ⟨(h + 1, j), ⟨by simp only; omega, rfl⟩, by simp only; omega, by simp only; omega, by simp only; omega, by simp only; omega, .inr ?_, i5⟩
              simp only
              rw [show mid + m - (h + 1) = mid + m - 1 - h from by omega, show h + 1 - 1 = h from rfl]
              exact hneg
            · rename_i hneg
              exact ⟨(i, h), ⟨rfl, rfl⟩, by simp only; omega, by simp only; omega, by simp only; omega, by simp only; omega, i4, .inr (Classical.not_not.1 hneg)⟩
          · rename_i hij
            have hij : i = j := by omega
            subst hij
            obtain ⟨e, he⟩ : ∃ e, e = mid + m - i := ⟨_, rfl⟩
            have hE : i + (e - m) = mid ∧ m ≤ e ∧ e ≤ b ∧ a ≤ i ∧ i ≤ m := by omega
            have c1 : i = a ∨ e = b ∨ ∀ x y, l[i - 1]? = some x → l[e]? = some y → le x y = true := by
              rcases i4 with h | h
              · omega
              · rw [← he] at h
                exact .inr (.inr fun x y hx hy => by rw [gd hx, gd hy] at h; exact hcl.t.2 h)
            have c2 : i = m ∨ e = m ∨ ∀ x y, l[i]? = some x → l[e - 1]? = some y → le x y = false := by
              rcases i5 with h | h
              · omega
              · rw [show mid + m - 1 - i = e - 1 from by omega] at h
                exact .inr (.inr fun x y hx hy => by rw [gd hx, gd hy] at h; exact hcl.f.2 h)
            have hj := Ps.sym_join hp hE.2.2.2.1 hE.2.2.2.2 hE.2.1 hE.2.2.1 (by omega) hA hB c1 c2
            rw [hE.1] at hj
            obtain ⟨d1, d2, d3, d4⟩ := Ps.sd_rot_l hE.2.2.2.1 hE.2.2.2.2 hE.2.1 hE.2.2.1 (by omega) hA hB
            rw [hE.1] at d2 d3
            have hl1 := Ps.rot_len hE.2.2.2.2 hE.2.1 (l := l) (by omega)
            have p1 := Ps.rot_perm hE.2.2.2.2 hE.2.1 (l := l) (by omega)
            have htr : i = m ∨ m = e → Ps.rot l i m e = l := fun h => Ps.rot_triv hE.2.2.2.2 hE.2.1 (by omega) h
            clear c1 c2 i4 i5 hF hlo hhi
            have e24 : ((mid + m : Nat) : Int) - (i : Int) = (e : Int) := by omega
            rw [e24]
            refine ⟨by omega, ?_⟩
            generalize hl1e : Ps.rot l i m e = l1 at hj d1 d2 d3 d4 hl1 p1 htr
            have hl2 : (Ps.seg (Ps.srt le) l1 a mid).length = n := by rw [Ps.seg_len Ps.srt_len (by omega) (by omega)]; omega
            have p2 : (Ps.seg (Ps.srt le) l1 a mid).Perm l1 := Ps.seg_perm (by omega)
            have d3' := Ps.sd_seg (f := Ps.srt le) Ps.srt_len (a := a) (b := mid) (by omega) (by omega) d3 (.inr (Nat.le_refl _))
            have d4' := Ps.sd_seg (f := Ps.srt le) Ps.srt_len (a := a) (b := mid) (by omega) (by omega) d4 (.inr (by omega))
            have s1 : ¬ (a < i ∧ i < mid) → Ps.seg (Ps.srt le) l1 a mid = l1 := fun h => Ps.seg_id (by omega) (by
              by_cases c : a < i
              · have : i = mid := by omega
                rw [← this]; exact d1
              · have : i = a := by omega
                rw [← this]; exact d2)
            have s2 : ¬ (mid < e ∧ e < b) → Ps.seg (Ps.srt le) (Ps.seg (Ps.srt le) l1 a mid) mid b = Ps.seg (Ps.srt le) l1 a mid := fun h => Ps.seg_id (by omega) (by
              by_cases c : mid < e
              · have : e = b := by omega
                rw [this] at d3'; exact d3'
              · have : e = mid := by omega
                rw [this] at d4'; exact d4')
            rw [← hj]
            generalize hl2e : Ps.seg (Ps.srt le) l1 a mid = l2 at hj hl2 p2 d3' d4' s1 s2
            refine M_join (fun _ : Unit => ⟨[(0, .vec 1000 n), (1, .int .i64 a), (3, .int .i64 b), (4, .fn g [] cs), (18, .int .i64 mid), (20, .int .i64 i), (24, .int .i64 e)], [(1000, .vec 38 6 (l1.map eD6) 0)]⟩) (fun _ => True) ?_ ?_
            · simp +contextual (maxSteps := 5000000) only [go_sem, ↓reduceIte, eD6_at, eD6_set, List.length_set, tn_add, tn_add1, tn_sub, tn_sub1, sh1, sh1b, half_cast, cl.cv6, cl.rf6, cl.nw6, cl.fz6, cl.cv5, cl.rf5, cl.nw5, cl.fz5, cl.wkL, cl.inOL, cm_ro, cm_ro1, stm_ro, d6_eD6]
              split
              · split
                · exact ⟨⟨⟨hn, h3⟩, by omega, hcs⟩, (), by rw [hl1e]⟩
                · rw [htr (by omega)]; exact ⟨(), rfl⟩
              · rw [htr (by omega)]; exact ⟨(), rfl⟩
            · intro _ _
              refine M_join (fun _ : Unit => ⟨[(0, .vec 1000 n), (3, .int .i64 b), (4, .fn g [] cs), (18, .int .i64 mid), (24, .int .i64 e)], [(1000, .vec 38 6 (l2.map eD6) 0)]⟩) (fun _ => True) ?_ ?_
              · simp +contextual (maxSteps := 5000000) only [go_sem, ↓reduceIte, eD6_at, eD6_set, List.length_set, tn_add, tn_add1, tn_sub, tn_sub1, sh1, sh1b, half_cast, cl.cv6, cl.rf6, cl.nw6, cl.fz6, cl.cv5, cl.rf5, cl.nw5, cl.fz5, cl.wkL, cl.inOL, cm_sm, cm_sm1, hst, d6_eD6]
                split
                · split
                  · exact ⟨⟨⟨by omega, h3⟩, by omega, ⟨hcs, hc.perm p1⟩, d1, d2⟩, (), by rw [hl2e]⟩
                  · rw [s1 (by omega)]; exact ⟨(), rfl⟩
                · rw [s1 (by omega)]; exact ⟨(), rfl⟩
              · intro _ _
                simp +contextual (maxSteps := 5000000) only [go_sem, ↓reduceIte, eD6_at, eD6_set, List.length_set, tn_add, tn_add1, tn_sub, tn_sub1, sh1, sh1b, half_cast, cl.cv6, cl.rf6, cl.nw6, cl.fz6, cl.cv5, cl.rf5, cl.nw5, cl.fz5, cl.wkL, cl.inOL, cm_sm, cm_sm1, hst, d6_eD6]
                split
                · split
                  · exact ⟨⟨hl2, h3⟩, by omega, ⟨hcs, hc.perm (p2.trans p1)⟩, d3', d4'⟩
                  · rw [s2 (by omega)]
                · rw [s2 (by omega)]
end Go.Proofs.Ytdaffodmpoadgaa

set_option linter.unusedSimpArgs false
namespace Go.Proofs.Ytdaffodmpoadgaa
open Go.Tn
set_option maxHeartbeats 8000000
set_option maxRecDepth 100000
theorem stm_sm {cm : St6 → St6 → Int} {le : St6 → St6 → Bool} (hcl : CmpLe cm le) : ∀ k, StMC Try.prog 71 [0] (cm_sm cm le k)
  | 0 => by
    intro ds H pre mu o1 out h hp
    unfold cm_sm at h
    split at h
    · unfold cm_sm1 at h
      split at h
      · cases h
        obtain ⟨_, _, ⟨ha, h1, h2, h4, hk⟩, _⟩ := hp
        omega
      · cases h
    · cases h
  | k + 1 => by
    intro ds H pre mu o1 out h hp
    unfold cm_sm at h
    split at h
    · rename_i i n a m b g cs
      unfold cm_sm1 at h
      split at h
      · rename_i e rows hi
        cases h
        obtain ⟨⟨rfl, hr⟩, ⟨rfl, h3⟩, ⟨ha, h1, h2, h4, hk⟩, ⟨hcs, hc⟩, hA, hB⟩ := hp
        rw [objs_one hi]
        have := (fcm_sm g cs hcs cm le hcl k (stm_sm hcl k) (rows.map d6) hc a.toNat m.toNat b.toNat rows.length (by simp) (by omega) (by omega) (by omega) h3 (by omega) hA hB).one i trivial (by simp [plainO])
        rw [← hr, Int.toNat_of_nonneg ha, Int.toNat_of_nonneg (by omega), Int.toNat_of_nonneg (by omega)] at this
        simp only [renF, ren1, renLO, renO, renM, ren, renL, sw_l] at this
        exact this
      · cases h
    · cases h
theorem fcm_stable (g : Nat) (cs : List D) (hcs : cleanL [.fn g [] cs] = true) (cm : St6 → St6 → Int) (le : St6 → St6 → Bool) (hcl : CmpLe cm le) (l : List St6) (hc : CmpOn g cs cm l)
    (n : Nat) (hn : l.length = n) (h3 : n < 1000000000) :
    FCM Try.prog 51 [(true, .vec 1000 n), (false, .int .i64 n), (false, .fn g [] cs)] [(1000, .vec 38 6 (l.map eD6) 0)] [(1000, .vec 38 6 ((Ps.srt le l).map eD6) 0)] (.ret (.tup [])) := by
  have cl := clrL_of (cl_fn hcs)
  have hp := hcl.p
  have hs1 := stm_is hcl
  have hs2 := stm_sm hcl (n + 1)
  refine fcm_M (fn := Try.f51) (C := (tab [] [(71, [0], cm_sm cm le (n + 1)), (70, [0], cm_is cm le)])) (rs := []) mixed (by kernel_rfl) (by kernel_rfl) rfl rfl (by kernel_rfl) ?_ ?_
  · simp +contextual (maxSteps := 5000000) only [go_sem, ↓reduceIte]
  simp +contextual (maxSteps := 5000000) only [go_sem, ↓reduceIte, eD6_at, eD6_set, List.length_set, tn_add, tn_add1, tn_sub, tn_sub1, sh1, sh1b, half_cast]
  refine M_loopI (fun s : List St6 × Nat => ⟨[(0, .vec 1000 n), (1, .int .i64 n), (2, .fn g [] cs), (6, .int .i64 20), (7, .int .i64 s.2), (8, .int .i64 (s.2 + 20 : Nat))], [(1000, .vec 38 6 (s.1.map eD6) 0)]⟩) (fun s => n - s.2)
    (fun s => s.1.length = n ∧ s.1.Perm l ∧ s.2 ≤ n ∧ Ps.Done le l s.1 20 s.2 ∧ ∀ p, s.2 ≤ p → s.1[p]? = l[p]?) (l, 0) ?_ ?_
  · simp +contextual (maxSteps := 5000000) only [go_sem, ↓reduceIte, cl.cv6, cl.rf6, cl.nw6, cl.fz6, cl.cv5, cl.rf5, cl.nw5, cl.fz5, cl.wkL, cl.inOL]
    and_intros
    all_goals first | omega | exact List.Perm.refl _ | exact Ps.Done.nil | (intros; rfl) | skip
  · intro ⟨k, a⟩ hi
    obtain ⟨i1, i2, i3, i4, i5⟩ := hi
    simp only at i1 i2 i3 i4 i5
    simp +contextual (maxSteps := 5000000) only [go_sem, ↓reduceIte, eD6_at, eD6_set, List.length_set, tn_add, tn_add1, tn_sub, tn_sub1, sh1, sh1b, half_cast, cl.cv6, cl.rf6, cl.nw6, cl.fz6, cl.cv5, cl.rf5, cl.nw5, cl.fz5, cl.wkL, cl.inOL, cm_is, cm_is1, hs1, d6_eD6]
    simp only [aa, inR_iff]
    subst hn
    split
    · rename_i hlt
      have hl := Ps.seg_len' (le := le) (l := k) (a := a) (b := a + 20) (by omega) (by omega)
      refine ⟨⟨⟨i1, h3⟩, by omega, hcs, hc.perm i2⟩, ⟨by omega, by omega⟩, ⟨(Ps.seg (Ps.srt le) k a (a + 20), a + 20), ⟨⟨rfl, by simp only; omega⟩, rfl⟩, by simp only; omega, by simp only; omega, (Ps.seg_perm (by omega)).trans i2, hlt, ?_, fun p hp' => ?_⟩⟩
      · exact (i4.out (by omega) (by omega) (Nat.le_refl _)).snoc (by omega) (Ps.W.new (by omega) (by omega) i5)
      · simp only at hp'
        rw [Ps.seg_out Ps.srt_len (by omega) (by omega) (.inr hp')]
        exact i5 p (by omega)
    · rename_i hge
      refine ⟨⟨⟨i1, h3⟩, ⟨i3, Nat.le_refl _⟩, hcs, hc.perm i2⟩, ?_⟩
      have hl := Ps.seg_len' (le := le) (l := k) (a := a) (b := l.length) (by omega) (by omega)
      have hr : Ps.Runs le l (Ps.seg (Ps.srt le) k a l.length) 20 0 := by
        refine (i4.out (by omega) (by omega) (Nat.le_refl _)).runs (by omega) ?_
        by_cases c : a = l.length
        · exact .nil (by omega)
        · refine .cons (by omega) ?_ (.nil (by omega))
          rw [hl, Nat.min_eq_right (by omega), i1]
          exact Ps.W.new (by omega) (by omega) i5
      have hpm : (Ps.seg (Ps.srt le) k a l.length).Perm l := (Ps.seg_perm (by omega)).trans i2
      generalize Ps.seg (Ps.srt le) k a l.length = k2 at hl hr hpm
      clear i1 i2 i3 i4 i5 hge
      refine M_loopI (fun s : List St6 × Nat => ⟨[(0, .vec 1000 l.length), (1, .int .i64 l.length), (2, .fn g [] cs), (6, .int .i64 s.2)], [(1000, .vec 38 6 (s.1.map eD6) 0)]⟩) (fun s => l.length - s.2)
        (fun s => s.1.Perm l ∧ 0 < s.2 ∧ s.2 < 4000000000 ∧ Ps.Runs le l s.1 s.2 0) (k2, 20) ?_ ?_
      · simp +contextual (maxSteps := 5000000) only [go_sem, ↓reduceIte, cl.cv6, cl.rf6, cl.nw6, cl.fz6, cl.cv5, cl.rf5, cl.nw5, cl.fz5, cl.wkL, cl.inOL]
        and_intros
        all_goals first | omega | assumption
      · intro ⟨k, bs⟩ hi
        obtain ⟨i2, i3, i4, i5⟩ := hi
        simp only at i2 i3 i4 i5
        have i1 := i2.length_eq
        simp +contextual (maxSteps := 5000000) only [go_sem, ↓reduceIte, eD6_at, eD6_set, List.length_set, tn_add, tn_add1, tn_sub, tn_sub1, sh1, sh1b, half_cast, cl.cv6, cl.rf6, cl.nw6, cl.fz6, cl.cv5, cl.rf5, cl.nw5, cl.fz5, cl.wkL, cl.inOL, cm_sm, cm_sm1, hs2, d6_eD6]
        simp only [aa, inR_iff]
        split
        · rename_i hbs
          refine ⟨⟨by omega, by omega⟩, ?_⟩
          refine M_loopI (fun s : List St6 × Nat => ⟨[(0, .vec 1000 l.length), (1, .int .i64 l.length), (2, .fn g [] cs), (6, .int .i64 bs), (7, .int .i64 s.2), (8, .int .i64 (s.2 + 2 * bs : Nat))], [(1000, .vec 38 6 (s.1.map eD6) 0)]⟩) (fun s => l.length - s.2)
            (fun s => s.1.Perm l ∧ s.2 ≤ l.length ∧ Ps.Done le l s.1 (2 * bs) s.2 ∧ Ps.Runs le l s.1 bs s.2) (k, 0) ?_ ?_
          · simp +contextual (maxSteps := 5000000) only [go_sem, ↓reduceIte, cl.cv6, cl.rf6, cl.nw6, cl.fz6, cl.cv5, cl.rf5, cl.nw5, cl.fz5, cl.wkL, cl.inOL]
            and_intros
            all_goals first | omega | assumption | exact Ps.Done.nil
          · intro ⟨k, a⟩ hi
            obtain ⟨j2, j3, j4, j5⟩ := hi
            simp only at j2 j3 j4 j5
            have j1 := j2.length_eq
            simp +contextual (maxSteps := 5000000) only [go_sem, ↓reduceIte, eD6_at, eD6_set, List.length_set, tn_add, tn_add1, tn_sub, tn_sub1, sh1, sh1b, half_cast, cl.cv6, cl.rf6, cl.nw6, cl.fz6, cl.cv5, cl.rf5, cl.nw5, cl.fz5, cl.wkL, cl.inOL, cm_sm, cm_sm1, hs2, d6_eD6]
            simp only [aa, inR_iff]
            split
            · rename_i hab
              obtain ⟨q1, q2, q3, q4⟩ := Ps.step_runs hcl.p i3 j4 j5 (by omega)
              refine ⟨⟨by omega, by omega⟩, ⟨⟨j1, h3⟩, ⟨by omega, by omega, by omega⟩, ⟨hcs, hc.perm j2⟩, q1, q2⟩, ⟨by omega, by omega⟩, ⟨by omega, by omega⟩, ⟨(Ps.seg (Ps.srt le) k a (a + 2 * bs), a + 2 * bs), ⟨⟨rfl, by simp only; omega⟩, rfl⟩, by simp only; omega, (Ps.seg_perm (by omega)).trans j2, hab, q3, q4⟩⟩
            · rename_i hab
              refine ⟨⟨by omega, by omega⟩, ?_⟩
              split
              · rename_i hm
                obtain ⟨q1, q2, q3⟩ := Ps.last_runs hcl.p i3 j4 j5 (by omega) (by omega)
                rw [j1] at q2 q3
                exact ⟨⟨⟨j1, h3⟩, ⟨by omega, by omega, by omega⟩, ⟨hcs, hc.perm j2⟩, q1, q2⟩, ⟨by omega, by omega⟩, ⟨(Ps.seg (Ps.srt le) k a l.length, 2 * bs), ⟨by simp only; omega, rfl⟩, by simp only; omega, (Ps.seg_perm (by omega)).trans j2, by simp only; omega, by simp only; omega, q3⟩⟩
              · rename_i hm
                exact ⟨⟨by omega, by omega⟩, ⟨(k, 2 * bs), ⟨by simp only; omega, rfl⟩, by simp only; omega, j2, by simp only; omega, by simp only; omega, Ps.less_runs i3 j4 j5 (show k.length ≤ a + bs by omega)⟩⟩
        · rename_i hbs
          rw [i5.fin i1 (by omega)]
def cm_sb1 (cm : St6 → St6 → Int) (le : St6 → St6 → Bool) (i n : Nat) (m : Int) (g : Nat) (cs : List D) : Option LObj → MS
  | some (.vec e 6 rows 0) => .yes ((e = 38 ∧ rows = (rows.map d6).map eD6) ∧ (rows.length = n ∧ m = n ∧ n < 1000000000) ∧ cleanL [.fn g [] cs] = true ∧ CmpOn g cs cm (rows.map d6)) [i] [(i, .vec e 6 ((Ps.srt le (rows.map d6)).map eD6) 0)] (.ret (.tup []))
  | _ => .bad
def cm_sb (cm : St6 → St6 → Int) (le : St6 → St6 → Bool) (ds : List D) (H : Hp) : MS := match ds with | [.vec i n, .int .i64 m, .fn g [] cs] => cm_sb1 cm le i n m g cs (H i) | _ => .bad
theorem stm_sb {cm : St6 → St6 → Int} {le : St6 → St6 → Bool} (hcl : CmpLe cm le) : StMC Try.prog 51 [0] (cm_sb cm le) := by
  intro ds H pre mu o1 out h hp
  unfold cm_sb at h
  split at h
  · rename_i i n m g cs
    unfold cm_sb1 at h
    split at h
    · rename_i e rows hi
      cases h
      obtain ⟨⟨rfl, hr⟩, ⟨rfl, rfl, h3⟩, hcs, hc⟩ := hp
      rw [objs_one hi]
      have := (fcm_stable g cs hcs cm le hcl (rows.map d6) hc rows.length (by simp) h3).one i trivial (by simp [plainO])
      rw [← hr] at this
      simp only [renF, ren1, renLO, renO, renM, ren, renL, sw_l] at this
      exact this
    · cases h
  · cases h
theorem fcm_sortStable (g : Nat) (cs : List D) (hcs : cleanL [.fn g [] cs] = true) (cm : St6 → St6 → Int) (le : St6 → St6 → Bool) (hcl : CmpLe cm le) (l : List St6) (hc : CmpOn g cs cm l)
    (n : Nat) (hn : l.length = n) (h3 : n < 1000000000) :
    FCM Try.prog 20 [(true, .vec 1000 n), (false, .fn g [] cs)] [(1000, .vec 38 6 (l.map eD6) 0)] [(1000, .vec 38 6 ((Ps.srt le l).map eD6) 0)] (.ret (.tup [])) := by
  have cl := clrL_of (cl_fn hcs)
  have hs := stm_sb hcl
  refine fcm_M (fn := Try.f20) (C := (tab [] [(51, [0], cm_sb cm le)])) (rs := []) mixed (by kernel_rfl) (by kernel_rfl) rfl rfl (by kernel_rfl) ?_ ?_
  · simp +contextual (maxSteps := 5000000) only [go_sem, ↓reduceIte]
  simp +contextual (maxSteps := 5000000) only [go_sem, ↓reduceIte, eD6_at, eD6_set, List.length_set, tn_add, tn_add1, tn_sub, tn_sub1, sh1, sh1b, half_cast, cl.cv6, cl.rf6, cl.nw6, cl.fz6, cl.cv5, cl.rf5, cl.nw5, cl.fz5, cl.wkL, cl.inOL, cm_sb, cm_sb1, hs, d6_eD6]
  exact ⟨hn, fun _ => ⟨h3, hcs, hc⟩⟩
def cm_ss1 (cm : St6 → St6 → Int) (le : St6 → St6 → Bool) (i n : Nat) (g : Nat) (cs : List D) : Option LObj → MS
  | some (.vec e 6 rows 0) => .yes ((e = 38 ∧ rows = (rows.map d6).map eD6) ∧ (rows.length = n ∧ n < 1000000000) ∧ cleanL [.fn g [] cs] = true ∧ CmpOn g cs cm (rows.map d6)) [i] [(i, .vec e 6 ((Ps.srt le (rows.map d6)).map eD6) 0)] (.ret (.tup []))
  | _ => .bad
def cm_ss (cm : St6 → St6 → Int) (le : St6 → St6 → Bool) (ds : List D) (H : Hp) : MS := match ds with | [.vec i n, .fn g [] cs] => cm_ss1 cm le i n g cs (H i) | _ => .bad
theorem stm_ss {cm : St6 → St6 → Int} {le : St6 → St6 → Bool} (hcl : CmpLe cm le) : StMC Try.prog 20 [0] (cm_ss cm le) := by
  intro ds H pre mu o1 out h hp
  unfold cm_ss at h
  split at h
  · rename_i i n g cs
    unfold cm_ss1 at h
    split at h
    · rename_i e rows hi
      cases h
      obtain ⟨⟨rfl, hr⟩, ⟨rfl, h3⟩, hcs, hc⟩ := hp
      rw [objs_one hi]
      have := (fcm_sortStable g cs hcs cm le hcl (rows.map d6) hc rows.length (by simp) h3).one i trivial (by simp [plainO])
      rw [← hr] at this
      simp only [renF, ren1, renLO, renO, renM, ren, renL, sw_l] at this
      exact this
    · cases h
  · cases h
end Go.Proofs.Ytdaffodmpoadgaa

set_option linter.unusedSimpArgs false
namespace Go.Proofs.Ytdaffodmpoadgaa
open Go.Tn
set_option maxHeartbeats 8000000
set_option maxRecDepth 100000
def turnS (s : St6) : St6 := ⟨s.j, s.i, s.q, s.p, s.n, s.o⟩
def leJ (x y : St6) : Bool := decide (0 ≤ ordF y x)
theorem ordF_lt (x y : St6) : ordF x y < 0 ↔ x.j < y.j ∨ (x.j = y.j ∧ x.q < y.q) := by
  simp only [ordF, orF, cmpI]
  (repeat' split) <;> simp_all <;> omega
theorem leJ_iff (x y : St6) : leJ x y = true ↔ x.j < y.j ∨ (x.j = y.j ∧ x.q ≤ y.q) := by
  have := ordF_lt y x
  simp only [leJ, decide_eq_true_eq]
  omega
theorem pre_leJ : Ps.Pre leJ := ⟨fun a b c => by simp only [leJ_iff]; omega, fun a b => by simp only [leJ_iff]; omega⟩
theorem cmpLe_ord : CmpLe ordF leJ := ⟨fun _ _ => rfl, pre_leJ⟩
def turnSs (l : List St6) : List St6 := Ps.srt leJ (l.map turnS)
theorem turnSs_len (l : List St6) : (turnSs l).length = l.length := by unfold turnSs; rw [Ps.srt_len, List.length_map]
def turnD (d : Dl) : Dl := ⟨d.B, d.A, turnP d.cols, d.nb, d.na, turnP d.rows, d.inss, d.dels, turnSs d.sets, d.gain, d.lost⟩
theorem cmpOn_ord (l : List St6) : CmpOn 21 [] ordF l := ⟨by decide, fun x _ y _ => fc_order x y⟩
def eT6 (s : St6) : List D := eD6 (turnS s)
theorem eT6_eq (l : List St6) : l.map eT6 = (l.map turnS).map eD6 := by rw [List.map_map]; rfl
def eZl : List D := [.nil, .nil, .nil, .int .i64 0, .int .i64 0, .nil, .nil, .nil, .nil, .nil, .nil]
theorem fc_DTurn (d : Dl) (h : okDl d) (hc : ∀ x ∈ d.dels ++ d.inss, x.2.length < 1000000000) : FC Try.prog 9 [] [.agg (eDl d)] (.ret (.agg (eDl (turnD d)))) := by
  have hh := h
  obtain ⟨hA, hB, hco, hro, hde, hin, hse, hlo, hga, hce⟩ := h
  have ty : tyOf Try.prog 28 = ⟨.struct, [(.slice none 0 0), (.slice none 0 0), (.slice none 0 0), (.int .i64 0), (.int .i64 0), (.slice none 0 0), (.slice none 0 0), (.slice none 0 0), (.slice none 0 0), (.slice none 0 0), (.slice none 0 0)], [(0, 1, false), (1, 1, false), (2, 1, false), (3, 1, false), (4, 1, false), (5, 1, false), (6, 1, false), (7, 1, false), (8, 1, false), (9, 1, false), (10, 1, false)], 0, 0, false, 0, 232⟩ := by kernel_rfl
  have hf := tyOf_fact (P := Try.prog) (t := 28) (by rw [ty]; intro h; cases h)
  rw [ty] at hf
  refine fcc_of (fn := Try.f9) (rt := 28) (r := 2) (i := 2) (C := tab [(22, c_Clone 9 1), (25, c_Clone 54 3), (23, c_pTurn), (24, c_lines)] [(20, [0], cm_ss ordF leJ)] [5007]) mixed (by kernel_rfl) (by kernel_rfl) rfl rfl hf (by kernel_rfl) (by intro ys h; cases h) ?_
  unfold eDl
  simp +contextual (maxSteps := 5000000) only [go_sem, ↓reduceIte]
  intro _
  have hs1 := stm_ss cmpLe_ord
  refine M_loopI (fun i : Nat => ⟨[(1, .loc 1 0), (2, .loc 2 0), (3, .vec 28 i), (7, .sl 6 (d.sets.map eD6)), (8, .int .i64 d.sets.length), (9, .int .i64 i)], [(1, .blk (eDl d) false), (2, .blk eZl false), (28, .vec 38 6 ((d.sets.take i).map eT6) 0)]⟩) (fun i => d.sets.length - i) (fun i => i ≤ d.sets.length) 0 ?_ ?_
  · simp +contextual (maxSteps := 5000000) only [go_sem, ↓reduceIte, eDl, eZl]
    rfl
  · intro i hi
    by_cases hlt : i < d.sets.length
    · have hat := eD6_at d.sets i hlt
      simp +contextual (maxSteps := 5000000) only [go_sem, ↓reduceIte, eI_at, eI_set, List.length_set, tn_add, tn_add1, tn_sub, tn_sub1, sh1, sh1b, half_cast, hlt, hat, eDl, eZl]
      exact ⟨⟨by omega, by omega⟩, fun _ => ⟨inR64 (by omega) (by omega), fun _ => ⟨i + 1, ⟨⟨rfl, by simp⟩, take_map_succ eT6 default d.sets i hlt⟩, by omega, by omega⟩⟩⟩
    · obtain rfl : i = d.sets.length := by omega
      simp +contextual (maxSteps := 5000000) only [go_sem, ↓reduceIte, hlt, Nat.lt_irrefl, List.take_length, eT6_eq, eDl, eZl]
      refine M_join (fun _ : Unit => ⟨[(1, .loc 1 0), (2, .loc 2 0), (3, .vec 28 d.sets.length)], [(1, .blk (eDl d) false), (2, .blk eZl false), (28, .vec 38 6 ((turnSs d.sets).map eD6) 0)]⟩) (fun _ => True) ?_ ?_
      · simp +contextual (maxSteps := 5000000) only [go_sem, ↓reduceIte, eDl, eZl, cm_ss, cm_ss1, hs1, d6_eD6]
        exact ⟨⟨by omega, rfl, cmpOn_ord _⟩, (), rfl⟩
      · intro _ _
        unfold turnD eDl
        simp +contextual (maxSteps := 5000000) only [go_sem, ↓reduceIte, eZl, c_Clone, c_pTurn, st_pTurn, st_CloneS, st_CloneP, c_lines, st_lines, dP_eP, dL_eL, finC, finCB, locR]
        refine ⟨by omega, by omega, by omega, by omega, ⟨hin, fun x hx => hc x (List.mem_append.2 (.inr hx))⟩, ⟨hde, fun x hx => hc x (List.mem_append.2 (.inl hx))⟩, by omega, by omega, turnSs_len _⟩
end Go.Proofs.Ytdaffodmpoadgaa

set_option linter.unusedSimpArgs false
namespace Go.Proofs.Ytdaffodmpoadgaa
open Go.Tn
set_option maxHeartbeats 8000000
set_option maxRecDepth 100000
/- one more into a sorted list, behind those alike -/
section
variable {α : Type} {le : α → α → Bool} {S : List α} {x d : α}
def insA (le : α → α → Bool) (d : α) (S : List α) (x : α) : Nat → Nat
  | 0 => 0
  | j + 1 => if le (S.getD j d) x = true then j + 1 else insA le d S x j
theorem insA_le : ∀ j, insA le d S x j ≤ j
  | 0 => Nat.le_refl _
  | j + 1 => by
    have := insA_le j
    simp only [insA]; split <;> omega
theorem insA_no : ∀ j i, insA le d S x j ≤ i → i < j → le (S.getD i d) x = false
  | 0, i, _, h => by omega
  | j + 1, i, h1, h2 => by
    simp only [insA] at h1
    split at h1
    · omega
    · rename_i hn
      by_cases e : i = j
      · subst e; simpa using hn
      · exact insA_no j i h1 (by omega)
theorem insA_yes : ∀ j, 0 < insA le d S x j → le (S.getD (insA le d S x j - 1) d) x = true
  | 0, h => by simp [insA] at h
  | j + 1, h => by
    simp only [insA] at h ⊢
    split at h
    · rename_i hy
      rw [if_pos hy]; exact hy
    · rename_i hn
      rw [if_neg hn]; exact insA_yes j h
def insG (le : α → α → Bool) (d : α) (S : List α) (x : α) : List α := S.take (insA le d S x S.length) ++ x :: S.drop (insA le d S x S.length)
theorem srt_snoc (h : Ps.Pre le) (d : α) (X : List α) (x : α) : Ps.srt le (X ++ [x]) = insG le d (Ps.srt le X) x := by
  have hx : Ps.srt le [x] = [x] := Ps.srt_id (by simp)
  rw [← Ps.srt_app h X [x], hx]
  have hS := Ps.srt_sorted h X
  generalize Ps.srt le X = S at *
  unfold insG
  have hle := insA_le (le := le) (d := d) (S := S) (x := x) S.length
  have hno := insA_no (le := le) (d := d) (S := S) (x := x) S.length
  have hys := insA_yes (le := le) (d := d) (S := S) (x := x) S.length
  generalize insA le d S x S.length = kk at *
  have hget := List.pairwise_iff_getElem.1 hS
  have mt : ∀ y ∈ S.take kk, ∃ i, ∃ hi : i < S.length, i < kk ∧ y = S[i] := fun y hy => by
    obtain ⟨i, hi, rfl⟩ := List.getElem_of_mem hy
    have hi' : i < kk ∧ i < S.length := by simp at hi; omega
    exact ⟨i, hi'.2, hi'.1, by simp⟩
  have md : ∀ y ∈ S.drop kk, ∃ i, ∃ hi : i < S.length, kk ≤ i ∧ y = S[i] := fun y hy => by
    obtain ⟨i, hi, rfl⟩ := List.getElem_of_mem hy
    have hi' : kk + i < S.length := by simp at hi; omega
    exact ⟨kk + i, hi', by omega, by simp⟩
  have hxle : ∀ y ∈ S.take kk, le y x = true := fun y hy => by
    obtain ⟨i, hi, hk, rfl⟩ := mt y hy
    have h1 := hys (by omega)
    rw [List.getD_eq_getElem?_getD, List.getElem?_eq_getElem (show kk - 1 < S.length by omega)] at h1
    simp only [Option.getD_some] at h1
    by_cases e : i = kk - 1
    · subst e; exact h1
    · exact h.tr _ _ _ (hget i (kk - 1) hi (by omega) (by omega)) h1
  have hsp := Ps.srt_split h (S.take kk) (S.drop kk) [x] [] (fun a ha b hb => by
      obtain ⟨i, hi, hk, rfl⟩ := mt a ha
      obtain ⟨j, hj, hk', rfl⟩ := md b hb
      exact hget i j hi hj (by omega)) (by simp) (fun a ha b hb => by
      obtain rfl : a = x := by simpa using ha
      obtain ⟨j, hj, hk', rfl⟩ := md b hb
      have := hno j hk' hj
      rwa [List.getD_eq_getElem?_getD, List.getElem?_eq_getElem hj] at this) (by simp)
  rw [List.take_append_drop, List.append_nil, List.append_nil] at hsp
  rw [hsp, Ps.srt_id, Ps.srt_id]
  · simp
  · exact hS.sublist (List.drop_sublist _ _)
  · refine List.pairwise_append.2 ⟨hS.sublist (List.take_sublist _ _), by simp, fun a ha b hb => ?_⟩
    obtain rfl : b = x := by simpa using hb
    exact hxle a ha
end
theorem kAt_eq (l : List St6) (x : St6) : ∀ i, kAt l x i = insA leJ default l x i
  | 0 => rfl
  | i + 1 => by
    have h1 := kAt_eq l x i
    have hb : (befF x (l.getD i default) = true) ↔ ¬ leJ (l.getD i default) x = true := by
      rw [leJ_iff]; simp only [befF, Bool.or_eq_true, Bool.and_eq_true, decide_eq_true_eq]; omega
    simp only [kAt, insA, h1]
    by_cases q : leJ (l.getD i default) x = true
    · rw [if_neg (fun h => hb.1 h q), if_pos q]
    · rw [if_pos (hb.2 q), if_neg q]
theorem putF_eq (l : List St6) (x : St6) : putF l x = insG leJ default l x := by unfold putF insG; rw [kAt_eq]
def c_rPut (caps args : List D) : Prop × Out := match caps, args with
  | [], [.sl 2 rows, .agg [.int .i64 a, .int .i64 b]] => (rows = (rows.map dP).map eP ∧ rows.length < 1000000000, .own 36 2 ((insG leB (0, 0) (rows.map dP) (a, b)).map eP))
  | _, _ => (False, .ret .any)
theorem fc_rPut (l : List (Int × Int)) (a b : Int) (hl : l.length < 1000000000) : FC Try.prog 56 [] [.sl 2 (l.map eP), .agg [.int .i64 a, .int .i64 b]] (.own 36 2 ((insG leB (0, 0) l (a, b)).map eP)) := by
  unfold insG
  refine fc_M (fn := Try.f56) (C := (tab [] [])) (rs := [4]) mixed (by kernel_rfl) (by kernel_rfl) rfl rfl (by kernel_rfl) (by intro ys h; cases h) ?_
  simp +contextual (maxSteps := 5000000) only [go_sem, ↓reduceIte]
  refine M_loopI (fun i : Nat => ⟨[(0, .sl 2 (l.map eP)), (3, .loc 3 0), (5, .int .i64 (insA leB (0, 0) l (a, b) i)), (6, .int .i64 i)], [(3, .blk [.int .i64 a, .int .i64 b] false)]⟩) (fun i => l.length - i) (fun i => i ≤ l.length) 0 ?_ ?_
  · simp +contextual (maxSteps := 5000000) only [go_sem, ↓reduceIte, insA]
    rfl
  · intro i hi
    have hk := insA_le (le := leB) (d := (0, 0)) (S := l) (x := (a, b)) i
    by_cases hlt : i < l.length
    · have hat := eP_at l i hlt
      have hs : insA leB (0, 0) l (a, b) (i + 1) = if leB (l.getD i (0, 0)) (a, b) = true then i + 1 else insA leB (0, 0) l (a, b) i := rfl
      by_cases q : (l.getD i (0, 0)).2 ≤ b
      · have q2 : leB (l.getD i (0, 0)) (a, b) = true := decide_eq_true q
        rw [if_pos q2] at hs
        simp +contextual (maxSteps := 5000000) only [go_sem, ↓reduceIte, eI_at, eI_set, List.length_set, tn_add, tn_add1, tn_sub, tn_sub1, sh1, sh1b, half_cast, hlt, hat, q]
        refine fun _ => ⟨inR64 (by omega) (by omega), fun _ => ⟨i + 1, ⟨by rw [hs]; simp, by simp⟩, by omega, by omega⟩⟩
      · have q2 : ¬ leB (l.getD i (0, 0)) (a, b) = true := fun h => q (of_decide_eq_true h)
        rw [if_neg q2] at hs
        simp +contextual (maxSteps := 5000000) only [go_sem, ↓reduceIte, eI_at, eI_set, List.length_set, tn_add, tn_add1, tn_sub, tn_sub1, sh1, sh1b, half_cast, hlt, hat, q]
        refine fun _ => ⟨inR64 (by omega) (by omega), fun _ => ⟨i + 1, ⟨by rw [hs], by simp⟩, by omega, by omega⟩⟩
    · obtain rfl : i = l.length := by omega
      simp +contextual (maxSteps := 5000000) only [go_sem, ↓reduceIte, eI_at, eI_set, List.length_set, tn_add, tn_add1, tn_sub, tn_sub1, sh1, sh1b, half_cast, hlt, Nat.lt_irrefl, Int.toNat_zero, Int.reduceToNat, Nat.sub_zero, Nat.le_refl, List.length_drop]
      generalize insA leB (0, 0) l (a, b) l.length = k at hk
      refine fun _ => ⟨⟨by omega, hk⟩, fun _ => ⟨by omega, fun _ => ⟨by omega, fun _ => ⟨by omega, fun _ => ?_⟩⟩⟩⟩
      have h1 : (l.map eP).drop k = (l.drop k).map eP := by rw [List.map_drop]
      have h2 : (l.map eP).take k = (l.take k).map eP := by rw [List.map_take]
      have h3 : ((l.map eP).drop k).take (l.length - k) = (l.drop k).map eP := by rw [h1]; exact List.take_of_length_le (by simp)
      rw [h2, h3]
      simp [eP]
theorem st_rPut : StC Try.prog 56 c_rPut := by
  intro caps args; unfold c_rPut; split
  · rename_i rows a b
    rintro ⟨h1, h2⟩
    have := fc_rPut (rows.map dP) a b (by simpa using h2)
    rw [← h1] at this
    exact this
  · exact fun h => h.elim
end Go.Proofs.Ytdaffodmpoadgaa

set_option linter.unusedSimpArgs false
namespace Go.Proofs.Ytdaffodmpoadgaa
open Go.Tn
set_option maxHeartbeats 8000000
set_option maxRecDepth 100000
theorem turnP_succ {l : List (Int × Int)} {n : Nat} (h : n < l.length) : turnP (l.take (n + 1)) = insG leB (0, 0) (turnP (l.take n)) ((l.getD n (0, 0)).2, (l.getD n (0, 0)).1) := by
  unfold turnP
  rw [← srt_snoc pre_leB, List.take_add_one, List.getElem?_eq_getElem h, List.getD_eq_getElem?_getD, List.getElem?_eq_getElem h, List.map_append]; rfl
theorem fc_rTurnP (l : List (Int × Int)) (hl : l.length < 1000000000) : FC Try.prog 27 [] [.sl 2 (l.map eP)] (.ret (.sl 2 ((turnP l).map eP))) := by
  refine fc_M (fn := Try.f27) (C := (tab [(56, c_rPut)] [])) (rs := [2]) mixed (by kernel_rfl) (by kernel_rfl) rfl rfl (by kernel_rfl) (by intro ys h; cases h) ?_
  simp +contextual (maxSteps := 5000000) only [go_sem, ↓reduceIte]
  have sn : turnP (l.take 0) = [] := by simp [turnP, Ps.srt]
  refine M_loopI (fun n : Nat => ⟨[(0, .sl 2 (l.map eP)), (3, .sl 2 ((turnP (l.take n)).map eP)), (4, .int .i64 n)], []⟩) (fun n => l.length - n) (fun n => n ≤ l.length) 0 ?_ ?_
  · simp +contextual (maxSteps := 5000000) only [go_sem, ↓reduceIte]
    exact ⟨by rw [show turnP [] = [] from sn]; rfl, rfl⟩
  · intro n hn
    by_cases hlt : n < l.length
    · have hat := eP_at l n hlt
      have hs := turnP_succ hlt
      have e1 := turnP_len (l.take n)
      simp +contextual (maxSteps := 5000000) only [go_sem, ↓reduceIte, eI_at, eI_set, List.length_set, tn_add, tn_add1, tn_sub, tn_sub1, sh1, sh1b, half_cast, hlt, hat, c_rPut, st_rPut, dP_eP]
      exact fun _ => ⟨by rw [e1, List.length_take]; omega, inR64 (by omega) (by omega), fun _ => ⟨n + 1, ⟨by rw [hs], by simp⟩, by omega, by omega⟩⟩
    · obtain rfl : n = l.length := by omega
      simp +contextual (maxSteps := 5000000) only [go_sem, ↓reduceIte, Nat.lt_irrefl, List.take_length]
def c_rTurnP (caps args : List D) : Prop × Out := match caps, args with
  | [], [.sl 2 rows] => (rows = (rows.map dP).map eP ∧ rows.length < 1000000000, .ret (.sl 2 ((turnP (rows.map dP)).map eP)))
  | _, _ => (False, .ret .any)
theorem st_rTurnP : StC Try.prog 27 c_rTurnP := by
  intro caps args; unfold c_rTurnP; split
  · rename_i rows
    rintro ⟨h1, h2⟩
    have := fc_rTurnP (rows.map dP) (by simpa using h2)
    rw [← h1] at this
    exact this
  · exact fun h => h.elim
theorem turnSs_succ {l : List St6} {n : Nat} (h : n < l.length) : turnSs (l.take (n + 1)) = putF (turnSs (l.take n)) (turnS (l.getD n default)) := by
  rw [putF_eq]
  unfold turnSs
  rw [← srt_snoc pre_leJ, List.take_add_one, List.getElem?_eq_getElem h, List.getD_eq_getElem?_getD, List.getElem?_eq_getElem h, List.map_append]; rfl
theorem fc_putR (l : List St6) (x : St6) (hl : l.length < 1000000000) : FC Try.prog 26 [] [.sl 6 (l.map eD6), .agg (eD6 x)] (.ret (.sl 6 ((putF l x).map eD6))) := by
  unfold putF
  have ex : eD6 x = [.int .i64 x.i, .int .i64 x.j, .int .i64 x.p, .int .i64 x.q, .str x.o, .str x.n] := rfl
  refine fc_M (fn := Try.f26) (C := (tab [(55, c_bef)] [])) (rs := [4]) mixed (by kernel_rfl) (by kernel_rfl) rfl rfl (by kernel_rfl) (by intro ys h; cases h) ?_
  simp +contextual (maxSteps := 5000000) only [go_sem, ↓reduceIte, ex]
  refine M_loopI (fun i : Nat => ⟨[(0, .sl 6 (l.map eD6)), (3, .loc 3 0), (5, .int .i64 (kAt l x i)), (6, .int .i64 i)], [(3, .blk [.int .i64 x.i, .int .i64 x.j, .int .i64 x.p, .int .i64 x.q, .str x.o, .str x.n] false)]⟩) (fun i => l.length - i) (fun i => i ≤ l.length) 0 ?_ ?_
  · simp +contextual (maxSteps := 5000000) only [go_sem, ↓reduceIte, kAt]
    rfl
  · intro i hi
    have hk := kAt_le l x i
    by_cases hlt : i < l.length
    · have hat := eD6_at l i hlt
      have hb : befF ⟨x.i, x.j, x.p, x.q, x.o, x.n⟩ ⟨(l.getD i default).i, (l.getD i default).j, (l.getD i default).p, (l.getD i default).q, (l.getD i default).o, (l.getD i default).n⟩ = befF x (l.getD i default) := rfl
      have hs : kAt l x (i + 1) = if befF x (l.getD i default) = true then kAt l x i else i + 1 := rfl
      cases q : befF x (l.getD i default)
      · rw [q] at hs
        simp +contextual (maxSteps := 5000000) only [go_sem, ↓reduceIte, eI_at, eI_set, List.length_set, tn_add, tn_add1, tn_sub, tn_sub1, sh1, sh1b, half_cast, hlt, hat, c_bef, st_bef, hb, q]
        refine fun _ => ⟨inR64 (by omega) (by omega), fun _ => ⟨i + 1, ⟨by rw [hs]; simp, by simp⟩, by omega, by omega⟩⟩
      · rw [q] at hs
        simp +contextual (maxSteps := 5000000) only [go_sem, ↓reduceIte, eI_at, eI_set, List.length_set, tn_add, tn_add1, tn_sub, tn_sub1, sh1, sh1b, half_cast, hlt, hat, c_bef, st_bef, hb, q]
        refine fun _ => ⟨inR64 (by omega) (by omega), fun _ => ⟨i + 1, ⟨by rw [hs]; simp, by simp⟩, by omega, by omega⟩⟩
    · obtain rfl : i = l.length := by omega
      simp +contextual (maxSteps := 5000000) only [go_sem, ↓reduceIte, eI_at, eI_set, List.length_set, tn_add, tn_add1, tn_sub, tn_sub1, sh1, sh1b, half_cast, hlt, Nat.lt_irrefl, Int.toNat_zero, Int.reduceToNat, Nat.sub_zero, Nat.le_refl, List.length_drop]
      refine fun _ => ⟨⟨by omega, hk⟩, fun _ => ⟨by omega, fun _ => ⟨by omega, fun _ => ⟨by omega, fun _ => ?_⟩⟩⟩⟩
      have h1 : (l.map eD6).drop (kAt l x l.length) = (l.drop (kAt l x l.length)).map eD6 := by rw [List.map_drop]
      have h2 : (l.map eD6).take (kAt l x l.length) = (l.take (kAt l x l.length)).map eD6 := by rw [List.map_take]
      have h3 : ((l.map eD6).drop (kAt l x l.length)).take (l.length - kAt l x l.length) = (l.drop (kAt l x l.length)).map eD6 := by rw [h1]; exact List.take_of_length_le (by simp)
      rw [h2, h3]
      simp [eD6]
def c_putR (caps args : List D) : Prop × Out := match caps, args with
  | [], [.sl 6 rows, .agg [.int .i64 a, .int .i64 b, .int .i64 c, .int .i64 d, .str e, .str f]] => (rows = (rows.map d6).map eD6 ∧ rows.length < 1000000000, .ret (.sl 6 ((putF (rows.map d6) ⟨a, b, c, d, e, f⟩).map eD6)))
  | _, _ => (False, .ret .any)
theorem st_putR : StC Try.prog 26 c_putR := by
  intro caps args; unfold c_putR; split
  · rename_i rows a b c d e f
    rintro ⟨h1, h2⟩
    have := fc_putR (rows.map d6) ⟨a, b, c, d, e, f⟩ (by simpa using h2)
    rw [← h1] at this
    exact this
  · exact fun h => h.elim
theorem g6 (l : List St6) : gndL (l.map eD6).flatten = true := gndR_of eD6 (fun _ => rfl) l
theorem fc_rTurn (d : Dl) (h : okDl d) : FC Try.prog 10 [] [.agg (eDl d)] (.ret (.agg (eDl (turnD d)))) := by
  obtain ⟨hA, hB, hco, hro, hde, hin, hse, hlo, hga, hce⟩ := h
  have ty : tyOf Try.prog 28 = ⟨.struct, [(.slice none 0 0), (.slice none 0 0), (.slice none 0 0), (.int .i64 0), (.int .i64 0), (.slice none 0 0), (.slice none 0 0), (.slice none 0 0), (.slice none 0 0), (.slice none 0 0), (.slice none 0 0)], [(0, 1, false), (1, 1, false), (2, 1, false), (3, 1, false), (4, 1, false), (5, 1, false), (6, 1, false), (7, 1, false), (8, 1, false), (9, 1, false), (10, 1, false)], 0, 0, false, 0, 232⟩ := by kernel_rfl
  have hf := tyOf_fact (P := Try.prog) (t := 28) (by rw [ty]; intro h; cases h)
  rw [ty] at hf
  refine fcc_of (fn := Try.f10) (rt := 28) (r := 2) (i := 2) (C := tab [(26, c_putR), (27, c_rTurnP)] []) mixed (by kernel_rfl) (by kernel_rfl) rfl rfl hf (by kernel_rfl) (by intro ys h; cases h) ?_
  unfold eDl
  simp +contextual (maxSteps := 5000000) only [go_sem, ↓reduceIte]
  have sn : turnSs (d.sets.take 0) = [] := by simp [turnSs, Ps.srt]
  refine M_loopI (fun n : Nat => ⟨[(1, .loc 1 0), (2, .loc 2 0), (3, .sl 6 ((turnSs (d.sets.take n)).map eD6)), (4, .int .i64 n)], [(1, .blk (eDl d) false), (2, .blk eZl false)]⟩) (fun n => d.sets.length - n) (fun n => n ≤ d.sets.length) 0 ?_ ?_
  · simp +contextual (maxSteps := 5000000) only [go_sem, ↓reduceIte, eDl, eZl, List.map_nil]
    exact ⟨by rw [show turnSs [] = [] from sn]; rfl, rfl⟩
  · intro n hn
    by_cases hlt : n < d.sets.length
    · have hat := eD6_at d.sets n hlt
      have hs := turnSs_succ hlt
      have e1 := turnSs_len (d.sets.take n)
      simp +contextual (maxSteps := 5000000) only [go_sem, ↓reduceIte, eI_at, eI_set, List.length_set, tn_add, tn_add1, tn_sub, tn_sub1, sh1, sh1b, half_cast, hlt, hat, eDl, eZl, c_putR, st_putR, d6_eD6, g6]
      have e2 : (⟨(d.sets.getD n default).j, (d.sets.getD n default).i, (d.sets.getD n default).q, (d.sets.getD n default).p, (d.sets.getD n default).n, (d.sets.getD n default).o⟩ : St6) = turnS (d.sets.getD n default) := rfl
      exact fun _ => ⟨by rw [e1, List.length_take]; omega, inR64 (by omega) (by omega), fun _ => ⟨n + 1, ⟨by rw [e2, hs], by simp⟩, by omega, by omega⟩⟩
    · obtain rfl : n = d.sets.length := by omega
      unfold turnD eDl
      simp +contextual (maxSteps := 5000000) only [go_sem, ↓reduceIte, Nat.lt_irrefl, List.take_length, eZl, c_rTurnP, st_rTurnP, dP_eP, finC, finCB, locR]
      exact fun _ => ⟨by omega, by omega⟩
end Go.Proofs.Ytdaffodmpoadgaa

set_option linter.unusedSimpArgs false
namespace Go.Proofs.Ytdaffodmpoadgaa
open Go.Tn
set_option maxHeartbeats 8000000
set_option maxRecDepth 100000
def c_RefS (caps args : List D) : Prop × Out := match caps, args with | [], [.sl 1 a, .sl 1 b] => (a = (a.map dS).map eS ∧ b = (b.map dS).map eS, .ret (.bool (decide (a.map dS = b.map dS)))) | _, _ => (False, .ret .any)
theorem st_RefS : StC Try.prog 15 c_RefS := by
  intro caps args; unfold c_RefS; split
  · rename_i a b
    rintro ⟨h1, h2⟩
    have := fc_RefS (a.map dS) (b.map dS)
    rw [← h1, ← h2] at this
    exact this
  · exact fun h => h.elim
theorem fc_Lines (l k : List Ln) : FC Try.prog 17 [] [.sl 2 (l.map eL), .sl 2 (k.map eL)] (.ret (.bool (decide (l = k)))) := by
  refine fc_M (fn := Try.f17) (C := (tab [(15, c_RefS)] [])) (rs := [4]) mixed (by kernel_rfl) (by kernel_rfl) rfl rfl (by kernel_rfl) (by intro ys h; cases h) ?_
  by_cases hlen : l.length = k.length
  · simp +contextual (maxSteps := 5000000) only [go_sem, ↓reduceIte, hlen]
    intro _
    refine M_loopI (fun i : Nat => ⟨[(0, .sl 2 (l.map eL)), (1, .sl 2 (k.map eL)), (5, .int .i64 i)], []⟩) (fun i => l.length - i) (fun i => i ≤ l.length ∧ ∀ j, j < i → l.getD j (0, []) = k.getD j (0, [])) 0 ?_ ?_
    · simp +contextual (maxSteps := 5000000) only [go_sem, ↓reduceIte]
      rfl
    · intro i hi
      obtain ⟨hi, ho⟩ := hi
      by_cases hlt : i < k.length
      · have ha := eL_at l i (by omega)
        have hb := eL_at k i hlt
        have hl2 : i < l.length := by omega
        generalize hx : l.getD i (0, []) = x at ha
        generalize hy : k.getD i (0, []) = y at hb
        by_cases q : x = y
        · subst q
          simp +contextual (maxSteps := 5000000) only [go_sem, ↓reduceIte, hlt, hl2, ha, hb, c_RefS, st_RefS, dS_eS, eq_self]
          refine fun _ => ⟨inR64 (by omega) (by omega), fun _ => ⟨i + 1, by simp, by omega, by omega, fun j hj => ?_⟩⟩
          rcases lt_cases hj with h | rfl
          · exact ho j h
          · rw [hx, hy]
        · have hne : ¬ l = k := fun h => q (by rw [← hx, ← hy, h])
          have hd : decide (l = k) = false := decide_eq_false hne
          rw [hd]
          by_cases q1 : x.1 = y.1
          · have q2 : ¬ x.2 = y.2 := fun e => q (Prod.ext q1 e)
            simp +contextual (maxSteps := 5000000) only [go_sem, ↓reduceIte, hlt, hl2, ha, hb, c_RefS, st_RefS, dS_eS, q1, q2]
          · simp +contextual (maxSteps := 5000000) only [go_sem, ↓reduceIte, hlt, hl2, ha, hb, c_RefS, st_RefS, dS_eS, q1]
      · have hd : decide (l = k) = true := decide_eq_true (eq_of_at (0, []) hlen (fun j hj => ho j (by omega)))
        rw [hd]
        have hl3 : ¬ i < l.length := by omega
        simp +contextual (maxSteps := 5000000) only [go_sem, ↓reduceIte, hlt, hl3]
  · have hd : decide (l = k) = false := decide_eq_false (fun h => hlen (by rw [h]))
    rw [hd]
    simp +contextual (maxSteps := 5000000) only [go_sem, ↓reduceIte, hlen]
def c_RefP (caps args : List D) : Prop × Out := match caps, args with | [], [.sl 2 a, .sl 2 b] => (a = (a.map dP).map eP ∧ b = (b.map dP).map eP, .ret (.bool (decide (a.map dP = b.map dP)))) | _, _ => (False, .ret .any)
theorem st_RefP : StC Try.prog 16 c_RefP := by
  intro caps args; unfold c_RefP; split
  · rename_i a b
    rintro ⟨h1, h2⟩
    have := fc_RefP (a.map dP) (b.map dP)
    rw [← h1, ← h2] at this
    exact this
  · exact fun h => h.elim
def c_Ref6 (caps args : List D) : Prop × Out := match caps, args with | [], [.sl 6 a, .sl 6 b] => (a = (a.map d6).map eD6 ∧ b = (b.map d6).map eD6, .ret (.bool (decide (a.map d6 = b.map d6)))) | _, _ => (False, .ret .any)
theorem st_Ref6 : StC Try.prog 18 c_Ref6 := by
  intro caps args; unfold c_Ref6; split
  · rename_i a b
    rintro ⟨h1, h2⟩
    have := fc_Ref6 (a.map d6) (b.map d6)
    rw [← h1, ← h2] at this
    exact this
  · exact fun h => h.elim
def c_RefSp (caps args : List D) : Prop × Out := match caps, args with | [], [.sl 3 a, .sl 3 b] => (a = (a.map dSp).map eSp ∧ b = (b.map dSp).map eSp, .ret (.bool (decide (a.map dSp = b.map dSp)))) | _, _ => (False, .ret .any)
theorem st_RefSp : StC Try.prog 19 c_RefSp := by
  intro caps args; unfold c_RefSp; split
  · rename_i a b
    rintro ⟨h1, h2⟩
    have := fc_RefSp (a.map dSp) (b.map dSp)
    rw [← h1, ← h2] at this
    exact this
  · exact fun h => h.elim
def c_RefL (caps args : List D) : Prop × Out := match caps, args with | [], [.sl 2 a, .sl 2 b] => (a = (a.map dL).map eL ∧ b = (b.map dL).map eL, .ret (.bool (decide (a.map dL = b.map dL)))) | _, _ => (False, .ret .any)
theorem st_RefL : StC Try.prog 17 c_RefL := by
  intro caps args; unfold c_RefL; split
  · rename_i a b
    rintro ⟨h1, h2⟩
    have := fc_Lines (a.map dL) (b.map dL)
    rw [← h1, ← h2] at this
    exact this
  · exact fun h => h.elim
def rSameF (d e : Dl) : Bool := decide (d.A = e.A) && decide (d.B = e.B) && (decide (d.cols = e.cols) && decide (d.rows = e.rows)) && (decide (d.dels = e.dels) && decide (d.inss = e.inss)) && (decide (d.sets = e.sets) && decide (d.lost = e.lost) && decide (d.gain = e.gain)) && decide (d.na = e.na) && decide (d.nb = e.nb)
theorem rSameF_iff (d e : Dl) : rSameF d e = true ↔ d = e := by
  obtain ⟨a1, a2, a3, a4, a5, a6, a7, a8, a9, a10, a11⟩ := d
  obtain ⟨b1, b2, b3, b4, b5, b6, b7, b8, b9, b10, b11⟩ := e
  simp only [rSameF, Bool.and_eq_true, decide_eq_true_eq, Dl.mk.injEq]
  constructor
  · rintro ⟨⟨⟨⟨⟨⟨h1, h2⟩, h3, h4⟩, h5, h6⟩, ⟨h7, h8⟩, h9⟩, h10⟩, h11⟩
    exact ⟨h1, h2, h3, h10, h11, h4, h5, h6, h7, h8, h9⟩
  · rintro ⟨h1, h2, h3, h10, h11, h4, h5, h6, h7, h8, h9⟩
    exact ⟨⟨⟨⟨⟨⟨h1, h2⟩, h3, h4⟩, h5, h6⟩, ⟨h7, h8⟩, h9⟩, h10⟩, h11⟩
theorem fc_rSame (d e : Dl) : FC Try.prog 8 [] [.agg (eDl d), .agg (eDl e)] (.ret (.bool (rSameF d e))) := by
  refine fc_M (fn := Try.f8) (C := (tab [(15, c_RefS), (16, c_RefP), (18, c_Ref6), (19, c_RefSp), (17, c_RefL)] [] [5001, 5002, 5003, 5004])) (rs := [4]) mixed (by kernel_rfl) (by kernel_rfl) rfl rfl (by kernel_rfl) (by intro ys h; cases h) ?_
  unfold eDl
  simp +contextual (maxSteps := 5000000) only [go_sem, ↓reduceIte]
  refine M_join (fun _ : Unit => ⟨[(2, .loc 2 0), (3, .loc 3 0), (5, .bool (decide (d.A = e.A) && decide (d.B = e.B)))], [(2, .blk (eDl d) false), (3, .blk (eDl e) false)]⟩) (fun _ => True) ?_ ?_
  · simp +contextual (maxSteps := 5000000) only [go_sem, ↓reduceIte, c_RefS, st_RefS, dS_eS, eDl]
    exact ⟨(), trivial⟩
  intro _ _
  unfold eDl
  simp +contextual (maxSteps := 5000000) only [go_sem, ↓reduceIte]
  refine M_join (fun _ : Unit => ⟨[(2, .loc 2 0), (3, .loc 3 0), (5, .bool (decide (d.A = e.A) && decide (d.B = e.B))), (6, .bool (decide (d.cols = e.cols) && decide (d.rows = e.rows)))], [(2, .blk (eDl d) false), (3, .blk (eDl e) false)]⟩) (fun _ => True) ?_ ?_
  · simp +contextual (maxSteps := 5000000) only [go_sem, ↓reduceIte, c_RefP, st_RefP, dP_eP, eDl]
    exact ⟨(), trivial⟩
  intro _ _
  unfold eDl
  simp +contextual (maxSteps := 5000000) only [go_sem, ↓reduceIte]
  refine M_join (fun _ : Unit => ⟨[(2, .loc 2 0), (3, .loc 3 0), (5, .bool (decide (d.A = e.A) && decide (d.B = e.B))), (6, .bool (decide (d.cols = e.cols) && decide (d.rows = e.rows))), (7, .bool (decide (d.dels = e.dels) && decide (d.inss = e.inss)))], [(2, .blk (eDl d) false), (3, .blk (eDl e) false)]⟩) (fun _ => True) ?_ ?_
  · simp +contextual (maxSteps := 5000000) only [go_sem, ↓reduceIte, c_RefL, st_RefL, dL_eL, eDl]
    exact ⟨(), trivial⟩
  intro _ _
  unfold eDl
  simp +contextual (maxSteps := 5000000) only [go_sem, ↓reduceIte]
  refine M_join (fun _ : Unit => ⟨[(2, .loc 2 0), (3, .loc 3 0), (5, .bool (decide (d.A = e.A) && decide (d.B = e.B))), (6, .bool (decide (d.cols = e.cols) && decide (d.rows = e.rows))), (7, .bool (decide (d.dels = e.dels) && decide (d.inss = e.inss))), (8, .bool (decide (d.sets = e.sets) && decide (d.lost = e.lost) && decide (d.gain = e.gain)))], [(2, .blk (eDl d) false), (3, .blk (eDl e) false)]⟩) (fun _ => True) ?_ ?_
  · simp +contextual (maxSteps := 5000000) only [go_sem, ↓reduceIte, c_Ref6, st_Ref6, d6_eD6, c_RefSp, st_RefSp, dSp_eSp, eDl]
    exact ⟨(), trivial⟩
  intro _ _
  unfold eDl rSameF
  generalize (decide (d.A = e.A) && decide (d.B = e.B)) = x1
  generalize (decide (d.cols = e.cols) && decide (d.rows = e.rows)) = x2
  generalize (decide (d.dels = e.dels) && decide (d.inss = e.inss)) = x3
  generalize (decide (d.sets = e.sets) && decide (d.lost = e.lost) && decide (d.gain = e.gain)) = x4
  simp +contextual (maxSteps := 5000000) only [go_sem, ↓reduceIte]
end Go.Proofs.Ytdaffodmpoadgaa

set_option linter.unusedSimpArgs false
namespace Go.Proofs.Ytdaffodmpoadgaa
open Go.Tn
set_option maxHeartbeats 8000000
set_option maxRecDepth 100000
/- delta.Same -/
def lnF (x y : Ln) : Bool := decide (x = y)
theorem fc_Same1 (x y : Ln) : FC Try.prog 46 [] [.agg (eL x), .agg (eL y)] (.ret (.bool (decide (x = y)))) := by
  have e : decide (x = y) = (decide (x.1 = y.1) && decide (x.2 = y.2)) := by
    obtain ⟨a, b⟩ := x; obtain ⟨c, e⟩ := y
    simp [Prod.mk.injEq, Bool.decide_and]
  rw [e]
  unfold eL
  refine fc_M (fn := Try.f46) (C := (tab [(44, c_EqS)] [])) (rs := [4]) mixed (by kernel_rfl) (by kernel_rfl) rfl rfl (by kernel_rfl) (by intro ys h; cases h) ?_
  by_cases a : x.1 = y.1
  · simp +contextual (maxSteps := 5000000) only [go_sem, ↓reduceIte, c_EqS, st_EqS, dS_eS, a]
  · simp +contextual (maxSteps := 5000000) only [go_sem, ↓reduceIte, c_EqS, st_EqS, dS_eS, a]
def c_Same1 (caps args : List D) : Prop × Out := match caps, args with
  | [], [.agg x, .agg y] => (x = eL (dL x) ∧ y = eL (dL y), .ret (.bool (decide (dL x = dL y))))
  | _, _ => (False, .ret .any)
theorem st_Same1 : StC Try.prog 46 c_Same1 := by
  intro caps args; unfold c_Same1; split
  · rename_i x y
    rintro ⟨h1, h2⟩
    have := fc_Same1 (dL x) (dL y)
    rw [← h1, ← h2] at this
    exact this
  · exact fun h => h.elim
theorem eL_dL (x : Ln) : eL (dL (eL x)) = eL x := by
  have := congrArg (List.map eL) (dL_eL [x])
  simpa using this
theorem dL_eL1 (x : Ln) : dL (eL x) = x := by
  have := dL_eL [x]
  simpa using this
theorem fc_EqF (l k : List Ln) : FC Try.prog 48 [] [.sl 2 (l.map eL), .sl 2 (k.map eL), .fn 46 [] []] (.ret (.bool (decide (l = k)))) := by
  refine fc_M (fn := Try.f48) (C := (tab [(46, c_Same1)] [])) (rs := [6]) mixed (by kernel_rfl) (by kernel_rfl) rfl rfl (by kernel_rfl) (by intro ys h; cases h) ?_
  by_cases hlen : l.length = k.length
  · simp +contextual (maxSteps := 5000000) only [go_sem, ↓reduceIte, hlen]
    intro _
    refine M_loopI (fun i : Nat => ⟨[(0, .sl 2 (l.map eL)), (1, .sl 2 (k.map eL)), (2, .fn 46 [] []), (15, .sl 2 (l.map eL)), (16, .int .i64 k.length), (17, .int .i64 i)], []⟩) (fun i => l.length - i) (fun i => i ≤ l.length ∧ ∀ j, j < i → l.getD j (0, []) = k.getD j (0, [])) 0 ?_ ?_
    · simp +contextual (maxSteps := 5000000) only [go_sem, ↓reduceIte]
      rfl
    · intro i hi
      obtain ⟨hi, ho⟩ := hi
      by_cases hlt : i < k.length
      · have ha := eL_at l i (by omega)
        have hb := eL_at k i hlt
        have hl2 : i < l.length := by omega
        generalize hx : l.getD i (0, []) = x at ha
        generalize hy : k.getD i (0, []) = y at hb
        have e1 := eL_dL x
        have e2 := eL_dL y
        have e3 := dL_eL1 x
        have e4 := dL_eL1 y
        unfold eL at e1 e2 e3 e4
        by_cases q : x = y
        · subst q
          simp +contextual (maxSteps := 5000000) only [go_sem, ↓reduceIte, hlt, hl2, ha, hb, c_Same1, st_Same1, eq_self, e1, e3, eL]
          refine ⟨inR64 (by omega) (by omega), fun _ => ⟨i + 1, by simp, by omega, by omega, fun j hj => ?_⟩⟩
          rcases lt_cases hj with h | rfl
          · exact ho j h
          · rw [hx, hy]
        · have hne : ¬ l = k := fun h => q (by rw [← hx, ← hy, h])
          have hd : decide (l = k) = false := decide_eq_false hne
          rw [hd]
          simp +contextual (maxSteps := 5000000) only [go_sem, ↓reduceIte, hlt, hl2, ha, hb, c_Same1, st_Same1, e1, e2, e3, e4, q, eL]
      · have hd : decide (l = k) = true := decide_eq_true (eq_of_at (0, []) hlen (fun j hj => ho j (by omega)))
        rw [hd]
        have hl3 : ¬ i < l.length := by omega
        simp +contextual (maxSteps := 5000000) only [go_sem, ↓reduceIte, hlt, hl3]
  · have hd : decide (l = k) = false := decide_eq_false (fun h => hlen (by rw [h]))
    rw [hd]
    simp +contextual (maxSteps := 5000000) only [go_sem, ↓reduceIte, hlen]
def c_EqP (caps args : List D) : Prop × Out := match caps, args with | [], [.sl 2 a, .sl 2 b] => (a = (a.map dP).map eP ∧ b = (b.map dP).map eP, .ret (.bool (decide (a.map dP = b.map dP)))) | _, _ => (False, .ret .any)
theorem st_EqP : StC Try.prog 47 c_EqP := by
  intro caps args; unfold c_EqP; split
  · rename_i a b
    rintro ⟨h1, h2⟩
    have := fc_EqualP (a.map dP) (b.map dP)
    rw [← h1, ← h2] at this
    exact this
  · exact fun h => h.elim
def c_Eq6 (caps args : List D) : Prop × Out := match caps, args with | [], [.sl 6 a, .sl 6 b] => (a = (a.map d6).map eD6 ∧ b = (b.map d6).map eD6, .ret (.bool (decide (a.map d6 = b.map d6)))) | _, _ => (False, .ret .any)
theorem st_Eq6 : StC Try.prog 49 c_Eq6 := by
  intro caps args; unfold c_Eq6; split
  · rename_i a b
    rintro ⟨h1, h2⟩
    have := fc_Equal6 (a.map d6) (b.map d6)
    rw [← h1, ← h2] at this
    exact this
  · exact fun h => h.elim
def c_EqSp (caps args : List D) : Prop × Out := match caps, args with | [], [.sl 3 a, .sl 3 b] => (a = (a.map dSp).map eSp ∧ b = (b.map dSp).map eSp, .ret (.bool (decide (a.map dSp = b.map dSp)))) | _, _ => (False, .ret .any)
theorem st_EqSp : StC Try.prog 50 c_EqSp := by
  intro caps args; unfold c_EqSp; split
  · rename_i a b
    rintro ⟨h1, h2⟩
    have := fc_EqualSp (a.map dSp) (b.map dSp)
    rw [← h1, ← h2] at this
    exact this
  · exact fun h => h.elim
def c_EqF (caps args : List D) : Prop × Out := match caps, args with | [], [.sl 2 a, .sl 2 b, .fn g [] []] => (g = 46 ∧ a = (a.map dL).map eL ∧ b = (b.map dL).map eL, .ret (.bool (decide (a.map dL = b.map dL)))) | _, _ => (False, .ret .any)
theorem st_EqF : StC Try.prog 48 c_EqF := by
  intro caps args; unfold c_EqF; split
  · rename_i a b g
    rintro ⟨rfl, h1, h2⟩
    have := fc_EqF (a.map dL) (b.map dL)
    rw [← h1, ← h2] at this
    exact this
  · exact fun h => h.elim
def sameF (d e : Dl) : Bool := decide (d.A = e.A) && decide (d.B = e.B) && decide (d.cols = e.cols) && decide (d.rows = e.rows) && decide (d.na = e.na) && decide (d.nb = e.nb) && decide (d.dels = e.dels) && decide (d.inss = e.inss) && decide (d.sets = e.sets) && decide (d.lost = e.lost) && decide (d.gain = e.gain)
theorem sameF_iff (d e : Dl) : sameF d e = true ↔ d = e := by
  obtain ⟨a1, a2, a3, a4, a5, a6, a7, a8, a9, a10, a11⟩ := d
  obtain ⟨b1, b2, b3, b4, b5, b6, b7, b8, b9, b10, b11⟩ := e
  simp only [sameF, Bool.and_eq_true, decide_eq_true_eq, Dl.mk.injEq]
  constructor
  · rintro ⟨⟨⟨⟨⟨⟨⟨⟨⟨⟨h1, h2⟩, h3⟩, h4⟩, h5⟩, h6⟩, h7⟩, h8⟩, h9⟩, h10⟩, h11⟩
    exact ⟨h1, h2, h3, h5, h6, h4, h7, h8, h9, h10, h11⟩
  · rintro ⟨h1, h2, h3, h5, h6, h4, h7, h8, h9, h10, h11⟩
    exact ⟨⟨⟨⟨⟨⟨⟨⟨⟨⟨h1, h2⟩, h3⟩, h4⟩, h5⟩, h6⟩, h7⟩, h8⟩, h9⟩, h10⟩, h11⟩
theorem fc_DSame (d e : Dl) : FC Try.prog 13 [] [.agg (eDl d), .agg (eDl e)] (.ret (.bool (sameF d e))) := by
  refine fc_M (fn := Try.f13) (C := (tab [(44, c_EqS), (47, c_EqP), (49, c_Eq6), (50, c_EqSp), (48, c_EqF)] [] [])) (rs := [4]) mixed (by kernel_rfl) (by kernel_rfl) rfl rfl (by kernel_rfl) (by intro ys h; cases h) ?_
  unfold eDl sameF
  simp +contextual (maxSteps := 5000000) only [go_sem, ↓reduceIte, c_EqS, st_EqS, dS_eS, c_EqP, st_EqP, dP_eP, c_Eq6, st_Eq6, d6_eD6, c_EqSp, st_EqSp, dSp_eSp, c_EqF, st_EqF, dL_eL]
end Go.Proofs.Ytdaffodmpoadgaa

set_option linter.unusedSimpArgs false
namespace Go.Proofs.Ytdaffodmpoadgaa
open Go.Tn
set_option maxHeartbeats 8000000
set_option maxRecDepth 100000
def pR (d : D) : List (List D) := match d with | .sl _ rows => rows | _ => []
def dDl (r : List D) : Dl := match r with
  | [a, b, co, .int _ na, .int _ nb, ro, de, ins, se, lo, ga] => ⟨(pR a).map dS, (pR b).map dS, (pR co).map dP, na, nb, (pR ro).map dP, (pR de).map dL, (pR ins).map dL, (pR se).map d6, (pR lo).map dSp, (pR ga).map dSp⟩
  | _ => ⟨[], [], [], 0, 0, [], [], [], [], [], []⟩
theorem dDl_eDl (d : Dl) : dDl (eDl d) = d := by
  simp only [eDl, dDl, pR, dS_eS, dP_eP, dL_eL, d6_eD6, dSp_eSp]
abbrev lA : List D := [.sl 1 [[.str [97]]], .sl 1 [[.str [98]]], .nil, .int .i64 0, .int .i64 0, .nil, .nil, .nil, .nil, .nil, .nil]
abbrev lB : List D := [.sl 1 [[.str [97]]], .sl 1 [[.str [98]]], .nil, .int .i64 1, .int .i64 0, .nil, .nil, .nil, .nil, .nil, .nil]
abbrev lC : List D := [.sl 1 [[.str [97]]], .sl 1 [[.str [97]]], .sl 2 [[.int .i64 0, .int .i64 0]], .int .i64 1, .int .i64 1, .sl 2 [[.int .i64 0, .int .i64 0]], .nil, .nil, .sl 6 [[.int .i64 0, .int .i64 0, .int .i64 0, .int .i64 0, .str [120], .str [121]]], .nil, .nil]
abbrev lE : List D := [.nil, .nil, .nil, .int .i64 0, .int .i64 0, .nil, .nil, .nil, .nil, .nil, .nil]
abbrev lT : List D := [.sl 1 [[.str [97]]], .sl 1 [[.str [97]]], .sl 2 [[.int .i64 0, .int .i64 0]], .int .i64 1, .int .i64 1, .sl 2 [[.int .i64 0, .int .i64 0]], .sl 2 [], .sl 2 [], .sl 6 [[.int .i64 0, .int .i64 0, .int .i64 0, .int .i64 0, .str [121], .str [120]]], .sl 3 [], .sl 3 []]
abbrev lD : List D := [.sl 1 [[.str [97]]], .sl 1 [[.str [97]]], .sl 2 [[.int .i64 0, .int .i64 0]], .int .i64 0, .int .i64 0, .nil, .nil, .nil, .nil, .nil, .nil]
theorem k1 : chkD (dDl lA) = 0 := by decide +kernel
theorem k2 : chkD (dDl lB) = 13 := by decide +kernel
theorem k3 : chkD (dDl lC) = 0 := by decide +kernel
theorem k4 : chkD (dDl lE) = 8 := by decide +kernel
theorem k5 : noneF (dDl lC) = false := by decide +kernel
theorem k6 : noneF (dDl lD) = true := by decide +kernel
theorem k7 : sameF (dDl lC) (dDl lC) = true := by rw [sameF_iff]
theorem k8 : sameF (dDl lC) (dDl lT) = false := by decide +kernel
theorem k9 : eDl (turnD (dDl lC)) = lT := by
  have h1 : turnP [(0, 0)] = [(0, 0)] := Ps.srt_id (by simp)
  have h2 : turnSs [⟨0, 0, 0, 0, [120], [121]⟩] = [⟨0, 0, 0, 0, [121], [120]⟩] := Ps.srt_id (by simp)
  have e : dDl lC = ⟨[[97]], [[97]], [(0, 0)], 1, 1, [(0, 0)], [], [], [⟨0, 0, 0, 0, [120], [121]⟩], [], []⟩ := rfl
  rw [e]
  unfold turnD
  simp only [h1, h2]
  rfl
structure okArg (r : List D) : Prop where
  wk : wkL r (eDl (dDl r))
  ok : okDl (dDl r)
  na : (dDl r).na < 1000000000
  nb : (dDl r).nb < 1000000000
  cs : ∀ x ∈ (dDl r).dels ++ (dDl r).inss, x.2.length < 1000000000
theorem okArg_eDl {d : Dl} (h : okDl d) (h1 : d.na < 1000000000) (h2 : d.nb < 1000000000) (h3 : ∀ x ∈ d.dels ++ d.inss, x.2.length < 1000000000) : okArg (eDl d) := by
  refine ⟨by rw [dDl_eDl]; exact wkL_self _, ?_, ?_, ?_, ?_⟩ <;> rw [dDl_eDl] <;> assumption
theorem oA : okArg lA := ⟨by simp [wkL, wk, dDl, pR, eDl, dS, eS, sOf], by constructor <;> decide +kernel, by decide +kernel, by decide +kernel, by decide +kernel⟩
theorem oB : okArg lB := ⟨by simp [wkL, wk, dDl, pR, eDl, dS, eS, sOf], by constructor <;> decide +kernel, by decide +kernel, by decide +kernel, by decide +kernel⟩
theorem oC : okArg lC := ⟨by simp [wkL, wk, dDl, pR, eDl, dS, eS, sOf, iOf, dP, eP, d6, eD6], by constructor <;> decide +kernel, by decide +kernel, by decide +kernel, by decide +kernel⟩
theorem oD : okArg lD := ⟨by simp [wkL, wk, dDl, pR, eDl, dS, eS, sOf, iOf, dP, eP], by constructor <;> decide +kernel, by decide +kernel, by decide +kernel, by decide +kernel⟩
theorem oE : okArg lE := ⟨by simp [wkL, wk, dDl, pR, eDl], by constructor <;> decide +kernel, by decide +kernel, by decide +kernel, by decide +kernel⟩
theorem oT : okArg lT := ⟨by simp [wkL, wk, dDl, pR, eDl, dS, eS, sOf, iOf, dP, eP, d6, eD6], by constructor <;> decide +kernel, by decide +kernel, by decide +kernel, by decide +kernel⟩
theorem wk_agg {r s : List D} (h : wkL r s) : wkL [.agg r] [.agg s] := by simp only [wkL, wk]; exact ⟨h, trivial⟩
theorem wk_agg2 {r s r' s' : List D} (h : wkL r s) (h' : wkL r' s') : wkL [.agg r, .agg r'] [.agg s, .agg s'] := by simp only [wkL, wk]; exact ⟨h, h', trivial⟩
def c_DChk (caps args : List D) : Prop × Out := match caps, args with | [], [.agg r] => (okArg r, .ret (.int .i64 (chkD (dDl r)))) | _, _ => (False, .ret .any)
theorem st_DChk : StC Try.prog 11 c_DChk := by
  intro caps args; unfold c_DChk; split
  · exact fun h => fc_wk (wkL_self []) (wk_agg h.wk) (by intro ys h; cases h) (fc_DCheck _ h.ok h.na h.nb)
  · exact fun h => h.elim
noncomputable def c_DTrn (caps args : List D) : Prop × Out := match caps, args with | [], [.agg r] => (okArg r, .ret (.agg (eDl (turnD (dDl r))))) | _, _ => (False, .ret .any)
theorem st_DTrn : StC Try.prog 9 c_DTrn := by
  intro caps args; unfold c_DTrn; split
  · exact fun h => fc_wk (wkL_self []) (wk_agg h.wk) (by intro ys h; cases h) (fc_DTurn _ h.ok h.cs)
  · exact fun h => h.elim
noncomputable def c_rTrn (caps args : List D) : Prop × Out := match caps, args with | [], [.agg r] => (okArg r, .ret (.agg (eDl (turnD (dDl r))))) | _, _ => (False, .ret .any)
theorem st_rTrn : StC Try.prog 10 c_rTrn := by
  intro caps args; unfold c_rTrn; split
  · exact fun h => fc_wk (wkL_self []) (wk_agg h.wk) (by intro ys h; cases h) (fc_rTurn _ h.ok)
  · exact fun h => h.elim
def c_DNone (caps args : List D) : Prop × Out := match caps, args with | [], [.agg r] => (okArg r, .ret (.bool (noneF (dDl r)))) | _, _ => (False, .ret .any)
theorem st_DNone : StC Try.prog 12 c_DNone := by
  intro caps args; unfold c_DNone; split
  · exact fun h => fc_wk (wkL_self []) (wk_agg h.wk) (by intro ys h; cases h) (fc_None _ h.ok)
  · exact fun h => h.elim
def c_DSame (caps args : List D) : Prop × Out := match caps, args with | [], [.agg r, .agg s] => (okArg r ∧ okArg s, .ret (.bool (sameF (dDl r) (dDl s)))) | _, _ => (False, .ret .any)
theorem st_DSame : StC Try.prog 13 c_DSame := by
  intro caps args; unfold c_DSame; split
  · exact fun h => fc_wk (wkL_self []) (wk_agg2 h.1.wk h.2.wk) (by intro ys h; cases h) (fc_DSame _ _)
  · exact fun h => h.elim
def c_rSm (caps args : List D) : Prop × Out := match caps, args with | [], [.agg r, .agg s] => (wkL r (eDl (dDl r)) ∧ wkL s (eDl (dDl s)), .ret (.bool (rSameF (dDl r) (dDl s)))) | _, _ => (False, .ret .any)
theorem st_rSm : StC Try.prog 8 c_rSm := by
  intro caps args; unfold c_rSm; split
  · exact fun h => fc_wk (wkL_self []) (wk_agg2 h.1 h.2) (by intro ys h; cases h) (fc_rSame _ _)
  · exact fun h => h.elim
def c_fewD (caps args : List D) : Prop × Out := match caps, args with | [], [.agg r] => (wkL r (eDl (dDl r)) ∧ okT (dDl r), .ret (.bool (fewF (dDl r)))) | _, _ => (False, .ret .any)
theorem st_fewD : StC Try.prog 7 c_fewD := by
  intro caps args; unfold c_fewD; split
  · exact fun h => fc_wk (wkL_self []) (wk_agg h.1) (by intro ys h; cases h) (fc_Few _ h.2)
  · exact fun h => h.elim
end Go.Proofs.Ytdaffodmpoadgaa

set_option linter.unusedSimpArgs false
namespace Go.Proofs.Ytdaffodmpoadgaa
open Go.Tn
set_option maxHeartbeats 8000000
set_option maxRecDepth 100000
theorem fc_works : FC Try.prog 6 [] [] (.ret (.bool true)) := by
  refine fc_M (fn := Try.f6) (C := (tab [(11, c_DChk), (9, c_DTrn), (12, c_DNone), (13, c_DSame)] [] [5001, 5002, 5003, 5004, 5005])) (rs := [0]) mixed (by kernel_rfl) (by kernel_rfl) rfl rfl (by kernel_rfl) (by intro ys h; cases h) ?_
  simp +contextual (maxSteps := 5000000) only [go_sem, ↓reduceIte]
  refine M_join (fun _ : Unit => ⟨[(1, .loc 1 0)], [(1, .blk [.vec 6 1, .vec 7 1, .nil, .int .i64 0, .int .i64 0, .nil, .nil, .nil, .nil, .nil, .nil] false), (6, .vec 9 1 [[.str [97]]] 0), (7, .vec 9 1 [[.str [98]]] 0)]⟩) (fun _ => True) ?_ ?_
  · simp +contextual (maxSteps := 5000000) only [go_sem, ↓reduceIte, Int.reduceEq, Int.reduceNe, Int.reduceLT, Int.reduceLE, Int.reduceToNat, Int.cast_ofNat_Int]
    exact ⟨(), trivial⟩
  intro _ _
  simp +contextual (maxSteps := 5000000) only [go_sem, ↓reduceIte]
  refine M_join (fun _ : Unit => ⟨[(1, .loc 1 0), (2, .loc 2 0)], [(1, .blk [.vec 6 1, .vec 7 1, .nil, .int .i64 0, .int .i64 0, .nil, .nil, .nil, .nil, .nil, .nil] false), (6, .vec 9 1 [[.str [97]]] 0), (7, .vec 9 1 [[.str [98]]] 0), (2, .blk [.vec 9 1, .vec 10 1, .nil, .int .i64 1, .int .i64 0, .nil, .nil, .nil, .nil, .nil, .nil] false), (9, .vec 9 1 [[.str [97]]] 0), (10, .vec 9 1 [[.str [98]]] 0)]⟩) (fun _ => True) ?_ ?_
  · simp +contextual (maxSteps := 5000000) only [go_sem, ↓reduceIte, Int.reduceEq, Int.reduceNe, Int.reduceLT, Int.reduceLE, Int.reduceToNat, Int.cast_ofNat_Int]
    exact ⟨(), trivial⟩
  intro _ _
  simp +contextual (maxSteps := 5000000) only [go_sem, ↓reduceIte]
  refine M_join (fun _ : Unit => ⟨[(1, .loc 1 0), (2, .loc 2 0), (3, .loc 3 0)], [(1, .blk [.vec 6 1, .vec 7 1, .nil, .int .i64 0, .int .i64 0, .nil, .nil, .nil, .nil, .nil, .nil] false), (6, .vec 9 1 [[.str [97]]] 0), (7, .vec 9 1 [[.str [98]]] 0), (2, .blk [.vec 9 1, .vec 10 1, .nil, .int .i64 1, .int .i64 0, .nil, .nil, .nil, .nil, .nil, .nil] false), (9, .vec 9 1 [[.str [97]]] 0), (10, .vec 9 1 [[.str [98]]] 0), (3, .blk [.vec 12 1, .vec 13 1, .vec 15 1, .int .i64 1, .int .i64 1, .vec 17 1, .nil, .nil, .vec 19 1, .nil, .nil] false), (12, .vec 9 1 [[.str [97]]] 0), (13, .vec 9 1 [[.str [97]]] 0), (15, .vec 36 2 [[.int .i64 0, .int .i64 0]] 0), (17, .vec 36 2 [[.int .i64 0, .int .i64 0]] 0), (19, .vec 38 6 [[.int .i64 0, .int .i64 0, .int .i64 0, .int .i64 0, .str [120], .str [121]]] 0)]⟩) (fun _ => True) ?_ ?_
  · simp +contextual (maxSteps := 5000000) only [go_sem, ↓reduceIte, Int.reduceEq, Int.reduceNe, Int.reduceLT, Int.reduceLE, Int.reduceToNat, Int.cast_ofNat_Int]
    exact ⟨(), trivial⟩
  intro _ _
  simp +contextual (maxSteps := 5000000) only [go_sem, ↓reduceIte]
  refine M_join (fun _ : Unit => ⟨[(1, .loc 1 0), (2, .loc 2 0), (3, .loc 3 0), (4, .loc 4 0)], [(1, .blk [.vec 6 1, .vec 7 1, .nil, .int .i64 0, .int .i64 0, .nil, .nil, .nil, .nil, .nil, .nil] false), (6, .vec 9 1 [[.str [97]]] 0), (7, .vec 9 1 [[.str [98]]] 0), (2, .blk [.vec 9 1, .vec 10 1, .nil, .int .i64 1, .int .i64 0, .nil, .nil, .nil, .nil, .nil, .nil] false), (9, .vec 9 1 [[.str [97]]] 0), (10, .vec 9 1 [[.str [98]]] 0), (3, .blk [.vec 12 1, .vec 13 1, .vec 15 1, .int .i64 1, .int .i64 1, .vec 17 1, .nil, .nil, .vec 19 1, .nil, .nil] false), (12, .vec 9 1 [[.str [97]]] 1), (13, .vec 9 1 [[.str [97]]] 1), (15, .vec 36 2 [[.int .i64 0, .int .i64 0]] 1), (17, .vec 36 2 [[.int .i64 0, .int .i64 0]] 1), (19, .vec 38 6 [[.int .i64 0, .int .i64 0, .int .i64 0, .int .i64 0, .str [120], .str [121]]] 1), (4, .blk lT false)]⟩) (fun _ => True) ?_ ?_
  · simp +contextual (maxSteps := 5000000) only [go_sem, ↓reduceIte, Int.reduceEq, Int.reduceNe, Int.reduceLT, Int.reduceLE, Int.reduceToNat, Int.cast_ofNat_Int, c_DTrn, st_DTrn, oC, k9]
    exact ⟨(), trivial⟩
  intro _ _
  simp +contextual (maxSteps := 5000000) only [go_sem, ↓reduceIte]
  refine M_join (fun _ : Unit => ⟨[(1, .loc 1 0), (2, .loc 2 0), (3, .loc 3 0), (4, .loc 4 0), (5, .loc 5 0)], [(1, .blk [.vec 6 1, .vec 7 1, .nil, .int .i64 0, .int .i64 0, .nil, .nil, .nil, .nil, .nil, .nil] false), (6, .vec 9 1 [[.str [97]]] 0), (7, .vec 9 1 [[.str [98]]] 0), (2, .blk [.vec 9 1, .vec 10 1, .nil, .int .i64 1, .int .i64 0, .nil, .nil, .nil, .nil, .nil, .nil] false), (9, .vec 9 1 [[.str [97]]] 0), (10, .vec 9 1 [[.str [98]]] 0), (3, .blk [.vec 12 1, .vec 13 1, .vec 15 1, .int .i64 1, .int .i64 1, .vec 17 1, .nil, .nil, .vec 19 1, .nil, .nil] false), (12, .vec 9 1 [[.str [97]]] 1), (13, .vec 9 1 [[.str [97]]] 1), (15, .vec 36 2 [[.int .i64 0, .int .i64 0]] 1), (17, .vec 36 2 [[.int .i64 0, .int .i64 0]] 1), (19, .vec 38 6 [[.int .i64 0, .int .i64 0, .int .i64 0, .int .i64 0, .str [120], .str [121]]] 1), (4, .blk lT false), (5, .blk [.vec 23 1, .vec 24 1, .vec 26 1, .int .i64 0, .int .i64 0, .nil, .nil, .nil, .nil, .nil, .nil] false), (23, .vec 9 1 [[.str [97]]] 0), (24, .vec 9 1 [[.str [97]]] 0), (26, .vec 36 2 [[.int .i64 0, .int .i64 0]] 0)]⟩) (fun _ => True) ?_ ?_
  · simp +contextual (maxSteps := 5000000) only [go_sem, ↓reduceIte, Int.reduceEq, Int.reduceNe, Int.reduceLT, Int.reduceLE, Int.reduceToNat, Int.cast_ofNat_Int]
    exact ⟨(), trivial⟩
  intro _ _
  simp +contextual (maxSteps := 5000000) only [go_sem, ↓reduceIte, Int.reduceEq, Int.reduceNe, Int.reduceLT, Int.reduceLE, Int.reduceToNat, Int.cast_ofNat_Int, c_DChk, st_DChk, c_DNone, st_DNone, c_DSame, st_DSame, oA, oB, oC, oD, oE, oT, k1, k2, k3, k4, k5, k6, k7, k8]
end Go.Proofs.Ytdaffodmpoadgaa

set_option linter.unusedSimpArgs false
namespace Go.Proofs.Ytdaffodmpoadgaa
open Go.Tn
set_option maxHeartbeats 8000000
set_option maxRecDepth 100000
theorem line_le {l : List Ln} {x : Ln} (h : x ∈ l) : x.2.length ≤ (txL l).length := by
  unfold txL
  obtain ⟨a, b, rfl⟩ := List.append_of_mem h
  simp; omega
theorem few_ok {d : Dl} (h : fewF d = true) : okDl d ∧ okArg (eDl d) ∧ cntN d ≤ 300 ∧ (d.na ≤ 60 ∧ d.nb ≤ 60) := by
  unfold fewF at h
  simp only [Bool.and_eq_true, decide_eq_true_eq] at h
  obtain ⟨⟨hn, h1, h2⟩, hm⟩ := h
  have hn' := hn
  unfold cntN at hn
  have hc : (txL (d.dels ++ d.inss)).length = (txL d.dels).length + (txL d.inss).length := by unfold txL; simp
  have ok : okDl d := by constructor <;> omega
  refine ⟨ok, okArg_eDl ok (by omega) (by omega) (fun x hx => ?_), hn', h1, h2⟩
  have := line_le hx
  omega
def c_works (caps args : List D) : Prop × Out := match caps, args with | [], [] => (True, .ret (.bool true)) | _, _ => (False, .ret .any)
theorem st_works : StC Try.prog 6 c_works := by
  intro caps args; unfold c_works; split
  · exact fun _ => fc_works
  · exact fun h => h.elim
theorem eDl_lit (d : Dl) : eDl d = [.sl 1 (d.A.map eS), .sl 1 (d.B.map eS), .sl 2 (d.cols.map eP), .int .i64 d.na, .int .i64 d.nb, .sl 2 (d.rows.map eP), .sl 2 (d.dels.map eL), .sl 2 (d.inss.map eL), .sl 6 (d.sets.map eD6), .sl 3 (d.lost.map eSp), .sl 3 (d.gain.map eSp)] := rfl
theorem fc_Turns (d : Dl) (ht : okT d) : FC Try.prog 3 [] [.agg (eDl d)] (.ret (.bool true)) := by
  have hd1 := dDl_eDl d
  have hs : rSameF (turnD d) (turnD d) = true := by rw [rSameF_iff]
  refine fc_M (fn := Try.f3) (C := (tab [(6, c_works), (7, c_fewD), (9, c_DTrn), (10, c_rTrn), (8, c_rSm)] [] [])) (rs := [2]) mixed (by kernel_rfl) (by kernel_rfl) rfl rfl (by kernel_rfl) (by intro ys h; cases h) ?_
  cases hf : fewF d with
  | false =>
    rw [eDl_lit] at hd1 ⊢
    simp +contextual (maxSteps := 5000000) only [go_sem, ↓reduceIte, c_works, st_works, c_fewD, st_fewD, hd1, ht, hf]
    exact wkL_self (eDl d)
  | true =>
    have ha := (few_ok hf).2.1
    have hd2 := dDl_eDl (turnD d)
    generalize hT : turnD d = t at hs hd2
    have ht2 := eDl_lit t
    rw [ht2] at hd2
    rw [eDl_lit d] at hd1 ha ⊢
    simp +contextual (maxSteps := 5000000) only [go_sem, ↓reduceIte, c_works, st_works, c_fewD, st_fewD, hd1, ht, hf, ha, c_DTrn, st_DTrn, c_rTrn, st_rTrn, c_rSm, st_rSm, hd2, hT, ht2, hs]
    exact wkL_self (eDl d)
end Go.Proofs.Ytdaffodmpoadgaa

set_option linter.unusedSimpArgs false
namespace Go.Proofs.Ytdaffodmpoadgaa
open Go.Tn Go.RowKit
theorem own : ownKnob Try.prog.godebug = none := by kernel_rfl
theorem laidOut : laidOutB Try.prog = true := by kernel_rfl
mutual
theorem bulk_eq {H : Type} : ∀ d : DataW H, Rows.uptoBulk d = blk d
  | .lit l => by cases l <;> simp [Rows.uptoBulk, blk]
  | .nil => by simp [Rows.uptoBulk, blk]
  | .ptr d => by simp [Rows.uptoBulk, blk, bulk_eq d]
  | .slice elems spare => by simp [Rows.uptoBulk, blk, bulkL_eq elems, bulkL_eq spare]
  | .agg parts => by simp [Rows.uptoBulk, blk, bulkL_eq parts]
  | .iface _ d => by simp [Rows.uptoBulk, blk, bulk_eq d]
  | .map entries => by simp [Rows.uptoBulk, blk, bulkE_eq entries]
  | .held _ => by simp [Rows.uptoBulk, blk]
theorem bulkL_eq {H : Type} : ∀ l : List (DataW H), Rows.uptoBulkAll l = blkL l
  | [] => by simp [Rows.uptoBulkAll, blkL]
  | d :: r => by simp [Rows.uptoBulkAll, blkL, bulk_eq d, bulkL_eq r]
theorem bulkE_eq {H : Type} : ∀ l : List (Lit × DataW H), Rows.uptoBulkEntries l = blkE l
  | [] => by simp [Rows.uptoBulkEntries, blkE]
  | x :: r => by simp [Rows.uptoBulkEntries, blkE, bulk1_eq x, bulkE_eq r]
theorem bulk1_eq {H : Type} : ∀ x : Lit × DataW H, Rows.uptoBulkEntry x = blk1 x
  | (l, d) => by cases l <;> simp [Rows.uptoBulkEntry, blk1, bulk_eq d]
end
theorem small_le {H : Type} {ds : List (DataW H)} (h : Rows.uptoSmall H ds = true) : blkL ds ≤ 1048576 := by
  rw [← bulkL_eq]; exact of_decide_eq_true h
theorem fits_sS {d : D} (h : Fits (.slc [.str]) d) : ∃ l : List Str, d = .sl 1 (l.map eS) := by
  unfold Fits at h
  obtain ⟨r, rfl, g⟩ := h
  exact ⟨r.map dS, by rw [← fits_S g]; rfl⟩
theorem fits_sL {d : D} (h : Fits (.slc [.int .i64, .slc [.str]]) d) : ∃ l : List Ln, d = .sl 2 (l.map eL) := by
  unfold Fits at h
  obtain ⟨rows, rfl, g⟩ := h
  refine ⟨rows.map dL, ?_⟩
  have : rows = (rows.map dL).map eL := map_id_of fun r hr => by
    have := g r hr
    simp only [FitsL] at this
    obtain ⟨_, _, rfl, ⟨n, rfl⟩, _, _, rfl, h2, rfl⟩ := this
    obtain ⟨l, rfl⟩ := fits_sS h2
    simp only [dL, eL, List.headD_cons, List.tail_cons, rowsOf, iOf]
    rw [dS_eS]
  rw [← this]; rfl
theorem fits_s6 {d : D} (h : Fits (.slc [.int .i64, .int .i64, .int .i64, .int .i64, .str, .str]) d) : ∃ l : List St6, d = .sl 6 (l.map eD6) := by
  unfold Fits at h
  obtain ⟨rows, rfl, g⟩ := h
  refine ⟨rows.map d6, ?_⟩
  have : rows = (rows.map d6).map eD6 := map_id_of fun r hr => by
    have := g r hr
    simp only [FitsL, Fits] at this
    obtain ⟨_, _, rfl, ⟨_, rfl⟩, _, _, rfl, ⟨_, rfl⟩, _, _, rfl, ⟨_, rfl⟩, _, _, rfl, ⟨_, rfl⟩, _, _, rfl, ⟨_, rfl⟩, _, _, rfl, ⟨_, rfl⟩, rfl⟩ := this
    rfl
  rw [← this]; rfl
theorem fits_sSp {d : D} (h : Fits (.slc [.int .i64, .int .i64, .str]) d) : ∃ l : List Sp, d = .sl 3 (l.map eSp) := by
  unfold Fits at h
  obtain ⟨rows, rfl, g⟩ := h
  refine ⟨rows.map dSp, ?_⟩
  have : rows = (rows.map dSp).map eSp := map_id_of fun r hr => by
    have := g r hr
    simp only [FitsL, Fits] at this
    obtain ⟨_, _, rfl, ⟨_, rfl⟩, _, _, rfl, ⟨_, rfl⟩, _, _, rfl, ⟨_, rfl⟩, rfl⟩ := this
    rfl
  rw [← this]; rfl
theorem szD_pos (d : D) : 1 ≤ szD d := by unfold szD; split <;> omega
theorem szL_mem {d : D} : ∀ {l : List D}, d ∈ l → szD d ≤ szL l
  | x :: l, h => by
    simp only [szL]
    rcases List.mem_cons.1 h with rfl | h
    · omega
    · have := szL_mem h; omega
theorem szR_mem {r : List D} : ∀ {l : List (List D)}, r ∈ l → szL r ≤ szR l
  | x :: l, h => by
    simp only [szR]
    rcases List.mem_cons.1 h with rfl | h
    · omega
    · have := szR_mem h; omega
theorem szR_len {α : Type} {e : α → List D} (he : ∀ x, e x ≠ []) : ∀ l : List α, l.length ≤ szR (l.map e)
  | [] => by simp
  | x :: l => by
    have h1 := szR_len he l
    have h2 : 1 ≤ szL (e x) := by
      cases h : e x with
      | nil => exact absurd h (he x)
      | cons d r => simp only [szL]; have := szD_pos d; omega
    simp only [List.map_cons, szR, List.length_cons]; omega
theorem txL_sz : ∀ l : List Ln, (txL l).length ≤ szR (l.map eL)
  | [] => by simp [txL]
  | x :: l => by
    have h1 := txL_sz l
    have h2 := szR_len (e := eS) (by intro x h; cases h) x.2
    simp only [txL, List.flatMap_cons, List.length_append, List.map_cons, szR, eL, szL, szD] at h1 ⊢; omega
def delta_shs : List Sh := [.slc [.str], .slc [.str], .slc [.int .i64, .int .i64], .int .i64, .int .i64, .slc [.int .i64, .int .i64], .slc [.int .i64, .slc [.str]], .slc [.int .i64, .slc [.str]], .slc [.int .i64, .int .i64, .int .i64, .int .i64, .str, .str], .slc [.int .i64, .int .i64, .str], .slc [.int .i64, .int .i64, .str]]
theorem okT_of {d : Dl} (h : szL (eDl d) ≤ 1048576) : okT d := by
  simp only [eDl, szL, szD] at h
  have a1 := szR_len (e := eS) (by intro x h; cases h) d.A
  have a2 := szR_len (e := eS) (by intro x h; cases h) d.B
  have a3 := szR_len (e := eP) (by intro x h; cases h) d.cols
  have a4 := szR_len (e := eP) (by intro x h; cases h) d.rows
  have a5 := szR_len (e := eL) (by intro x h; cases h) d.dels
  have a6 := szR_len (e := eL) (by intro x h; cases h) d.inss
  have a7 := szR_len (e := eD6) (by intro x h; cases h) d.sets
  have a8 := szR_len (e := eSp) (by intro x h; cases h) d.lost
  have a9 := szR_len (e := eSp) (by intro x h; cases h) d.gain
  have b1 := txL_sz d.dels
  have b2 := txL_sz d.inss
  have tS : ∀ {l : List Str} {s : Str}, s ∈ l → s.length ≤ szR (l.map eS) := fun {l s} hs => by
    have := szR_mem (List.mem_map_of_mem (f := eS) hs)
    simp only [eS, szL, szD] at this; omega
  have tL : ∀ {l : List Ln} {s : Str}, s ∈ txL l → s.length ≤ szR (l.map eL) := fun {l s} hs => by
    obtain ⟨x, hx, hs⟩ := List.mem_flatMap.1 hs
    have h1 := szR_mem (List.mem_map_of_mem (f := eL) hx)
    have h2 := tS hs
    simp only [eL, szL, szD] at h1; omega
  have t6 : ∀ {l : List St6} {s : Str}, s ∈ txS l → s.length ≤ szR (l.map eD6) := fun {l s} hs => by
    obtain ⟨x, hx, hs⟩ := List.mem_flatMap.1 hs
    have h1 := szR_mem (List.mem_map_of_mem (f := eD6) hx)
    simp only [eD6, szL, szD] at h1
    simp only [List.mem_cons, List.not_mem_nil, or_false] at hs
    rcases hs with rfl | rfl <;> omega
  have tP : ∀ {l : List Sp} {s : Str}, s ∈ txP l → s.length ≤ szR (l.map eSp) := fun {l s} hs => by
    obtain ⟨x, hx, rfl⟩ := List.mem_map.1 hs
    have h1 := szR_mem (List.mem_map_of_mem (f := eSp) hx)
    simp only [eSp, szL, szD] at h1; omega
  refine ⟨by omega, by omega, by omega, by omega, by omega, by omega, by omega, by omega, by omega, ?_, fun s hs => ?_⟩
  · have : (txL (d.dels ++ d.inss)).length = (txL d.dels).length + (txL d.inss).length := by unfold txL; simp
    omega
  · unfold txF at hs
    have e1 : txL (d.dels ++ d.inss) = txL d.dels ++ txL d.inss := by unfold txL; simp
    have e2 : txP (d.lost ++ d.gain) = txP d.lost ++ txP d.gain := by unfold txP; simp
    rw [e1, e2] at hs
    simp only [List.mem_append] at hs
    rcases hs with (((hs | hs) | hs | hs) | hs) | hs | hs
    · have := tS hs; omega
    · have := tS hs; omega
    · have := tL hs; omega
    · have := tL hs; omega
    · have := t6 hs; omega
    · have := tP hs; omega
    · have := tP hs; omega
theorem open_delta {cs : List D} (hc : FitsL delta_shs cs) : ∃ d : Dl, cs = eDl d := by
  simp only [delta_shs, FitsL] at hc
  obtain ⟨_, _, rfl, h0, _, _, rfl, h1, _, _, rfl, h2, _, _, rfl, h3, _, _, rfl, h4, _, _, rfl, h5, _, _, rfl, h6, _, _, rfl, h7, _, _, rfl, h8, _, _, rfl, h9, _, _, rfl, h10, rfl⟩ := hc
  obtain ⟨A, rfl⟩ := fits_sS h0
  obtain ⟨B, rfl⟩ := fits_sS h1
  obtain ⟨co, rfl⟩ := fits_sP h2
  obtain ⟨na, rfl⟩ := fits_i h3
  obtain ⟨nb, rfl⟩ := fits_i h4
  obtain ⟨ro, rfl⟩ := fits_sP h5
  obtain ⟨de, rfl⟩ := fits_sL h6
  obtain ⟨ins, rfl⟩ := fits_sL h7
  obtain ⟨se, rfl⟩ := fits_s6 h8
  obtain ⟨lo, rfl⟩ := fits_sSp h9
  obtain ⟨ga, rfl⟩ := fits_sSp h10
  exact ⟨⟨A, B, co, na, nb, ro, de, ins, se, lo, ga⟩, rfl⟩
end Go.Proofs.Ytdaffodmpoadgaa

set_option linter.unusedSimpArgs false
namespace Go.Proofs.Ytdaffodmpoadgaa
open Go.Tn
set_option maxHeartbeats 8000000
set_option maxRecDepth 100000
theorem ctM_app (l : List Int) (k : Int) : ctM (l ++ [k]) = mup (ctM l) k (mlk (ctM l) k + 1) := by simp [ctM]
theorem rev_ind {α : Type} {p : List α → Prop} (h0 : p []) (h1 : ∀ l k, p l → p (l ++ [k])) : ∀ l, p l := by
  have key : ∀ r : List α, p r.reverse := fun r => by
    induction r with
    | nil => exact h0
    | cons k r ih => rw [List.reverse_cons]; exact h1 _ _ ih
  intro l
  have := key l.reverse
  rwa [List.reverse_reverse] at this
theorem mup_keys (k v : Int) : ∀ m : List (Int × Int), (mup m k v).map (·.1) = if k ∈ m.map (·.1) then m.map (·.1) else m.map (·.1) ++ [k]
  | [] => by simp [mup]
  | x :: r => by
    have ih := mup_keys k v r
    simp only [mup]
    by_cases e : x.1 = k
    · subst e; simp
    · rw [if_neg e, List.map_cons, ih]
      by_cases h : k ∈ r.map (·.1)
      · rw [if_pos h, if_pos (by rw [List.map_cons]; exact List.mem_cons_of_mem _ h)]; rfl
      · rw [if_neg h, if_neg (by rw [List.map_cons, List.mem_cons]; exact fun h' => h'.elim (fun h' => e h'.symm) h)]; rfl
theorem ct_keys (l : List Int) : (∀ x, x ∈ (ctM l).map (·.1) ↔ x ∈ l) ∧ (ctM l).length ≤ l.length ∧ ((ctM l).length = l.length ↔ l.Nodup) := by
  refine rev_ind (p := fun l => (∀ x, x ∈ (ctM l).map (·.1) ↔ x ∈ l) ∧ (ctM l).length ≤ l.length ∧ ((ctM l).length = l.length ↔ l.Nodup)) ?_ ?_ l
  · simp [ctM]
  · rintro l k ⟨h1, h2, h3⟩
    rw [ctM_app]
    have hk := mup_keys k (mlk (ctM l) k + 1) (ctM l)
    have hlen : (mup (ctM l) k (mlk (ctM l) k + 1)).length = (ctM l).length + if k ∈ l then 0 else 1 := by
      have := congrArg List.length hk
      rw [List.length_map] at this
      rw [this]
      by_cases h : k ∈ l
      · rw [if_pos ((h1 k).2 h), if_pos h, List.length_map]; rfl
      · rw [if_neg (fun h' => h ((h1 k).1 h')), if_neg h, List.length_append, List.length_map]; rfl
    refine ⟨fun x => ?_, ?_, ?_⟩
    · rw [hk]
      by_cases h : k ∈ l
      · rw [if_pos ((h1 k).2 h), h1, List.mem_append, List.mem_singleton]
        exact ⟨.inl, fun h' => h'.elim id (fun e => e ▸ h)⟩
      · rw [if_neg (fun h' => h ((h1 k).1 h')), List.mem_append, List.mem_append, h1]
    · rw [hlen, List.length_append, List.length_singleton]; split <;> omega
    · rw [hlen, List.length_append, List.length_singleton, List.nodup_append]
      by_cases h : k ∈ l
      · rw [if_pos h]
        refine ⟨fun e => by omega, fun ⟨_, _, h'⟩ => absurd rfl (h' k h k (by simp))⟩
      · rw [if_neg h]
        refine ⟨fun e => ⟨h3.1 (by omega), by simp, fun a ha b hb => ?_⟩, fun ⟨h', _⟩ => by rw [h3.2 h']⟩
        obtain rfl : b = k := by simpa using hb
        exact fun e => h (e ▸ ha)
/-- what a good list of pairs is -/
structure Good (ps : List (Int × Int)) (na nb : Int) : Prop where
  a0 : 0 ≤ na
  b0 : 0 ≤ nb
  inn : ∀ p ∈ ps, inB na nb p
  na : (ps.map (·.1)).Nodup
  nb : (ps.map (·.2)).Nodup
  up : ps.Pairwise (fun p q => p.2 ≤ q.2)
theorem dnF_up : ∀ ps : List (Int × Int), dnF ps = false ↔ ps.Pairwise (fun p q => p.2 ≤ q.2)
  | [] => by simp [dnF]
  | [p] => by simp [dnF]
  | p :: q :: r => by
    have ih := dnF_up (q :: r)
    simp only [dnF, Bool.or_eq_false_iff, decide_eq_false_iff_not, ih]
    rw [List.pairwise_cons (a := p)]
    constructor
    · rintro ⟨h1, h2⟩
      refine ⟨fun x hx => ?_, h2⟩
      rcases List.mem_cons.1 hx with rfl | hx
      · omega
      · have := (List.pairwise_cons.1 h2).1 x hx; omega
    · rintro ⟨h1, h2⟩
      exact ⟨by have := h1 q (by simp); omega, h2⟩
theorem chk_zero (ps : List (Int × Int)) (na nb : Int) : chk ps na nb = 0 ↔ Good ps na nb := by
  have h1 := ct_keys (ps.map (·.1))
  have h2 := ct_keys (ps.map (·.2))
  rw [List.length_map] at h1 h2
  unfold chk
  constructor
  · intro h
    by_cases c1 : na < 0 ∨ nb < 0
    · rw [if_pos c1] at h; omega
    · rw [if_neg c1] at h
      by_cases c2 : ∃ p ∈ ps, ¬ inB na nb p
      · rw [if_pos c2] at h; omega
      · rw [if_neg c2] at h
        by_cases c3 : (ctM (ps.map (·.1))).length < ps.length ∨ (ctM (ps.map (·.2))).length < ps.length
        · rw [if_pos c3] at h; omega
        · rw [if_neg c3] at h
          cases c4 : dnF ps with
          | true => rw [if_pos c4] at h; omega
          | false =>
            exact ⟨by omega, by omega, fun p hp => Classical.byContradiction fun hn => c2 ⟨p, hp, hn⟩, h1.2.2.1 (by omega), h2.2.2.1 (by omega), (dnF_up ps).1 c4⟩
  · intro g
    have e1 := h1.2.2.2 g.na
    have e2 := h2.2.2.2 g.nb
    have e3 := (dnF_up ps).2 g.up
    have := g.a0
    have := g.b0
    rw [if_neg (by omega), if_neg (fun ⟨p, hp, hn⟩ => hn (g.inn p hp)), if_neg (by omega), if_neg (by rw [e3]; simp)]
theorem perm_turnP (l : List (Int × Int)) : (turnP l).Perm (l.map sw) := List.mergeSort_perm _ _
theorem mem_turnP {l : List (Int × Int)} {p : Int × Int} : p ∈ turnP l ↔ sw p ∈ l := by
  rw [(perm_turnP l).mem_iff, List.mem_map]
  constructor
  · rintro ⟨q, hq, rfl⟩; exact hq
  · intro h; exact ⟨_, h, rfl⟩
theorem turnP_fst (l : List (Int × Int)) : ((turnP l).map (·.1)).Perm (l.map (·.2)) := by
  have := (perm_turnP l).map (·.1)
  rw [List.map_map] at this; exact this
theorem turnP_snd (l : List (Int × Int)) : ((turnP l).map (·.2)).Perm (l.map (·.1)) := by
  have := (perm_turnP l).map (·.2)
  rw [List.map_map] at this; exact this
theorem Good.turn {l : List (Int × Int)} {na nb : Int} (g : Good l na nb) : Good (turnP l) nb na := by
  refine ⟨g.b0, g.a0, fun p hp => ?_, (turnP_fst l).nodup_iff.2 g.nb, (turnP_snd l).nodup_iff.2 g.na, ?_⟩
  · have := g.inn _ (mem_turnP.1 hp)
    exact ⟨this.2.2.1, this.2.2.2, this.1, this.2.1⟩
  · refine (Ps.srt_sorted pre_leB (l.map sw)).imp (fun h => ?_)
    exact of_decide_eq_true h
theorem inj_at {α β : Type} {f : α → β} {l : List α} (h : (l.map f).Nodup) {a b : α} (ha : a ∈ l) (hb : b ∈ l) (e : f a = f b) : a = b := by
  obtain ⟨i, hi, rfl⟩ := List.getElem_of_mem ha
  obtain ⟨j, hj, rfl⟩ := List.getElem_of_mem hb
  have h1 := List.pairwise_iff_getElem.1 (List.nodup_iff_pairwise_ne.1 h)
  rcases Nat.lt_trichotomy i j with h2 | h2 | h2
  · exact absurd (by rw [List.getElem_map, List.getElem_map]; exact e) (h1 i j (by simpa using hi) (by simpa using hj) h2)
  · subst h2; rfl
  · exact absurd (by rw [List.getElem_map, List.getElem_map]; exact e.symm) (h1 j i (by simpa using hj) (by simpa using hi) h2)
theorem Good.back {l : List (Int × Int)} {na nb : Int} (g : Good l na nb) : turnP (turnP l) = l := by
  have p : (turnP (turnP l)).Perm l := by
    refine (perm_turnP _).trans ?_
    have := (perm_turnP l).map sw
    rw [List.map_map] at this
    refine this.trans ?_
    have e : l.map (sw ∘ sw) = l := by
      rw [show (sw ∘ sw) = id from rfl]; exact List.map_id l
    rw [e]
  refine List.Perm.eq_of_pairwise (le := fun p q => p.2 ≤ q.2) (fun a b ha hb h1 h2 => ?_) g.turn.turn.up g.up p
  exact inj_at g.nb (p.mem_iff.1 ha) hb (by omega)
theorem rsL_congr {l k : List Int} (h : ∀ x, x ∈ l ↔ x ∈ k) (n : Nat) : rsL l n = rsL k n := by
  unfold rsL
  congr 1
  refine List.filter_congr fun i _ => ?_
  simp only [h]
/-- as many as are no rest -/
theorem rsL_cnt : ∀ {n : Nat} {l : List Int}, l.Nodup → (∀ x ∈ l, 0 ≤ x ∧ x < n) → (rsL l n).length + l.length = n
  | 0, l, _, h2 => by
    cases l with
    | nil => rfl
    | cons x l => have := h2 x (by simp); omega
  | n + 1, l, h1, h2 => by
    rw [rsL_succ, List.length_append]
    by_cases h : (n : Int) ∈ l
    · have h3 := h1.erase (n : Int)
      have ih := rsL_cnt (n := n) h3 (fun x hx => by
        have h4 := h2 x (List.mem_of_mem_erase hx)
        have h5 : x ≠ n := fun e => by
          rw [e] at hx
          exact (h1.not_mem_erase) hx
        omega)
      have e1 : rsL (l.erase (n : Int)) n = rsL l n := by
        unfold rsL
        congr 1
        refine List.filter_congr fun i hi => ?_
        have hi := List.mem_range.1 hi
        have : (i : Int) ≠ n := by omega
        simp only [List.mem_erase_of_ne this]
      have e2 : (l.erase (n : Int)).length + 1 = l.length := by
        have := List.length_erase_of_mem h
        have : 0 < l.length := List.length_pos_of_mem h
        omega
      rw [e1] at ih
      rw [if_neg (fun h' => h' h)]
      simp only [List.length_nil]; omega
    · have ih := rsL_cnt (n := n) h1 (fun x hx => by
        have h4 := h2 x hx
        have h5 : x ≠ n := fun e => h (e ▸ hx)
        omega)
      rw [if_pos h]
      simp only [List.length_cons, List.length_nil]; omega
theorem mem_rsL {l : List Int} {n : Nat} {x : Int} : x ∈ rsL l n ↔ (0 ≤ x ∧ x < n) ∧ x ∉ l := by
  unfold rsL
  rw [List.mem_map]
  constructor
  · rintro ⟨i, hi, rfl⟩
    obtain ⟨h1, h2⟩ := List.mem_filter.1 hi
    have := List.mem_range.1 h1
    exact ⟨by omega, by simpa using h2⟩
  · rintro ⟨⟨h1, h2⟩, h3⟩
    refine ⟨x.toNat, List.mem_filter.2 ⟨List.mem_range.2 (by omega), ?_⟩, by omega⟩
    rw [Int.toNat_of_nonneg h1]; simpa using h3
theorem rsL_nodup (l : List Int) (n : Nat) : (rsL l n).Nodup := by
  unfold rsL
  rw [List.nodup_iff_pairwise_ne, List.pairwise_map]
  refine List.Pairwise.imp (R := fun a b => a < b) (fun h => by omega) ?_
  exact (List.pairwise_lt_range).filter _
theorem mtF_len {α β : Type} {q : α → β → Bool} : ∀ {l : List α} {r : List β}, mtF q l r = true → l.length = r.length
  | [], [], _ => rfl
  | x :: l, y :: r, h => by
    simp only [mtF, Bool.and_eq_true] at h
    simp only [List.length_cons, mtF_len h.2]
theorem crF_len (a b : List Int) : (crF a b).length = a.length * b.length := by
  induction a with
  | nil => simp [crF]
  | cons x a ih =>
    unfold crF at ih ⊢
    rw [List.flatMap_cons, List.length_append, ih, List.length_map, List.length_cons, Nat.succ_mul]; omega
theorem nodup_sub {α : Type} [DecidableEq α] : ∀ {l k : List α}, l.Nodup → (∀ x ∈ l, x ∈ k) → l.length ≤ k.length
  | [], k, _, _ => Nat.zero_le _
  | x :: l, k, h1, h2 => by
    have hx := h2 x (by simp)
    obtain ⟨n1, n2⟩ := List.nodup_cons.1 h1
    have := nodup_sub (k := k.erase x) n2 (fun y hy => by
      have hne : y ≠ x := fun e => n1 (e ▸ hy)
      exact (List.mem_erase_of_ne hne).2 (h2 y (by simp [hy])))
    have e := List.length_erase_of_mem hx
    have : 0 < k.length := List.length_pos_of_mem hx
    simp only [List.length_cons]; omega
end Go.Proofs.Ytdaffodmpoadgaa
