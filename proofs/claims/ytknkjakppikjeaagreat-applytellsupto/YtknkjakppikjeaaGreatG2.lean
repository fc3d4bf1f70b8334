/-
  What the functions compute that the law of this claim reaches. By an AI agent.
-/
import Derived.Test.YtknkjakppikjeaaGreatG1
set_option linter.unusedSimpArgs false
set_option linter.unusedVariables false

set_option linter.unusedSimpArgs false
namespace Go.Proofs.YtknkjakppikjeaaGreat
open Go.Tn
set_option maxHeartbeats 8000000
set_option maxRecDepth 100000
def cm_sm1 (cm : St6 → St6 → Int) (le : St6 → St6 → Bool) (k : Nat) (i n : Nat) (a m b : Int) (g : Nat) (cs : List D) : Option LObj → MS
  | some (.vec e 6 rows 0) => .yes ((e = 47 ∧ rows = (rows.map d6).map eD6) ∧ (rows.length = n ∧ n < 1000000000) ∧ (0 ≤ a ∧ a < m ∧ m < b ∧ b ≤ n ∧ b - a < k) ∧ (cleanL [.fn g [] cs] = true ∧ CmpOn g cs cm (rows.map d6)) ∧ Ps.Sd le (rows.map d6) a.toNat m.toNat ∧ Ps.Sd le (rows.map d6) m.toNat b.toNat) [i] [(i, .vec e 6 ((Ps.seg (Ps.srt le) (rows.map d6) a.toNat b.toNat).map eD6) 0)] (.ret (.tup []))
  | _ => .bad
def cm_sm (cm : St6 → St6 → Int) (le : St6 → St6 → Bool) (k : Nat) (ds : List D) (H : Hp) : MS := match ds with | [.vec i n, .int .i64 a, .int .i64 m, .int .i64 b, .fn g [] cs] => cm_sm1 cm le k i n a m b g cs (H i) | _ => .bad
theorem fcm_sm (g : Nat) (cs : List D) (hcs : cleanL [.fn g [] cs] = true) (cm : St6 → St6 → Int) (le : St6 → St6 → Bool) (hcl : CmpLe cm le) (kk : Nat) (hst : StMC Tryz.prog 125 [0] (cm_sm cm le kk)) (l : List St6) (hc : CmpOn g cs cm l)
    (a m b : Nat) (n : Nat) (hn : l.length = n) (h1 : a < m) (h2 : m < b) (h4 : b ≤ n) (h3 : n < 1000000000) (hk : b - a ≤ kk) (hA : Ps.Sd le l a m) (hB : Ps.Sd le l m b) :
    FCM Tryz.prog 125 [(true, .vec 1000 n), (false, .int .i64 a), (false, .int .i64 m), (false, .int .i64 b), (false, .fn g [] cs)] [(1000, .vec 47 6 (l.map eD6) 0)] [(1000, .vec 47 6 ((Ps.seg (Ps.srt le) l a b).map eD6) 0)] (.ret (.tup [])) := by
  have cl := clrL_of (cl_fn hcs)
  have hsc := st_cl hc.2
  have ng := hc.1
  have hp := hcl.p
  have hle := hcl.e
  refine fcm_M (fn := Tryz.f125) (C := (tab [(g, c_cl cs cm l)] [(125, [0], cm_sm cm le kk), (131, [0], cm_ro)] [39, 41])) (rs := []) mixed (by kernel_rfl) (by kernel_rfl) rfl rfl (by kernel_rfl) ?_ ?_
  · simp +contextual (maxSteps := 5000000) only [go_sem, ↓reduceIte]
  have gd : ∀ {p : Nat} {x : St6}, l[p]? = some x → l.getD p default = x := fun {p x} h => by rw [List.getD_eq_getElem?_getD, h]; rfl
  have hmem : ∀ {p : Nat}, p < l.length → l.getD p default ∈ l := fun {p} h => by rw [List.getD_eq_getElem?_getD, List.getElem?_eq_getElem h]; exact List.getElem_mem h
  have gs : ∀ {p : Nat}, p < l.length → l[p]? = some (l.getD p default) := fun {p} h => by rw [List.getD_eq_getElem?_getD, List.getElem?_eq_getElem h]; rfl
  simp +contextual (maxSteps := 5000000) only [go_sem, ↓reduceIte, eD6_at, eD6_set, List.length_set, tn_add, tn_add1, tn_sub, tn_sub1, sh1, sh1b, half_cast]
  refine ⟨⟨by omega, by omega⟩, fun _ => ?_⟩
  split
  · rename_i e1
    have e1 : m = a + 1 := by omega
    subst e1
    refine M_loopI (fun s : Nat × Nat => ⟨[(0, .vec 1000 n), (1, .int .i64 a), (2, .int .i64 (a + 1 : Nat)), (3, .int .i64 b), (4, .fn g [] cs), (10, .int .i64 s.1), (11, .int .i64 s.2)], [(1000, .vec 47 6 (l.map eD6) 0)]⟩) (fun s => s.2 - s.1)
      (fun s => a + 1 ≤ s.1 ∧ s.1 ≤ s.2 ∧ s.2 ≤ b ∧ (∀ p, a + 1 ≤ p → p < s.1 → cm (l.getD p default) (l.getD a default) < 0) ∧ ∀ p, s.2 ≤ p → p < b → ¬ cm (l.getD p default) (l.getD a default) < 0) (a + 1, b) ?_ ?_
    · simp +contextual (maxSteps := 5000000) only [go_sem, ↓reduceIte, cl.cv6, cl.rf6, cl.nw6, cl.fz6, cl.cv5, cl.rf5, cl.nw5, cl.fz5, cl.wkL, cl.inOL]
      and_intros
      all_goals first | omega | (intros; omega)
    · intro ⟨i, j⟩ hi
      obtain ⟨i1, i2, i3, i4, i5⟩ := hi
      simp only at i1 i2 i3 i4 i5
      simp +contextual (maxSteps := 5000000) only [go_sem, ↓reduceIte, eD6_at, eD6_set, List.length_set, tn_add, tn_add1, tn_sub, tn_sub1, sh1, sh1b, half_cast, cl.cv6, cl.rf6, cl.nw6, cl.fz6, cl.cv5, cl.rf5, cl.nw5, cl.fz5, cl.wkL, cl.inOL, c_cl, hsc, ng]
      simp only [aa, inR_iff, inR_u64]
      split
      · rename_i hij
        have hh : i ≤ (i + j) / 2 ∧ (i + j) / 2 < j := by omega
        generalize (i + j) / 2 = h at hh ⊢
        and_intros
        all_goals first | omega | exact hmem (by omega) | skip
        split
        · rename_i hneg
          and_intros
          all_goals first | omega | skip
          refine ⟨(h + 1, j), ⟨by simp only; omega, rfl⟩, by simp only; omega, by simp only; omega, by simp only; omega, by simp only; omega, fun p p1 p2 => ?_, i5⟩
          simp only at p2
          by_cases e : p = h
          · rw [e]; exact hneg
          · have h5 := hB p h _ _ (by omega) (by omega) (by omega) (gs (by omega)) (gs (by omega))
            have h6 : le (l.getD a default) (l.getD h default) = false := hcl.f.2 hneg
            cases h7 : le (l.getD a default) (l.getD p default) with
            | true => rw [hp.tr _ _ _ h7 h5] at h6; cases h6
            | false => exact hcl.f.1 h7
        · rename_i hneg
          refine ⟨(i, h), ⟨rfl, rfl⟩, by simp only; omega, i1, by simp only; omega, by simp only; omega, i4, fun p p1 p2 => ?_⟩
          simp only at p1
          by_cases e : p = h
          · rw [e]; exact hneg
          · have h5 := hB h p _ _ (by omega) (by omega) (by omega) (gs (by omega)) (gs (by omega))
            have h6 : le (l.getD a default) (l.getD h default) = true := hcl.t.2 hneg
            have h7 := hp.tr _ _ _ h6 h5
            exact hcl.t.1 h7
      · rename_i hij
        have hij : i = j := by omega
        subst hij
        have fin : Ps.rot l a (a + 1) i = Ps.seg (Ps.srt le) l a b := Ps.front_seg hp i1 i3 (by omega) hB
          (fun p x y p1 p2 hx hy => by have := i4 p p1 p2; rw [gd hx, gd hy] at this; exact hcl.f.2 this)
          (fun p x y p1 p2 hx hy => by have := i5 p p1 p2; rw [gd hx, gd hy] at this; exact hcl.t.2 this)
        refine M_loopI (fun k : Nat => ⟨[(0, .vec 1000 n), (10, .int .i64 i), (13, .int .i64 k)], [(1000, .vec 47 6 ((Ps.rot l a (a + 1) (k + 1)).map eD6) 0)]⟩) (fun k => i - k) (fun k => a ≤ k ∧ k < i) a ?_ ?_
        · simp +contextual (maxSteps := 5000000) only [go_sem, ↓reduceIte, cl.cv6, cl.rf6, cl.nw6, cl.fz6, cl.cv5, cl.rf5, cl.nw5, cl.fz5, cl.wkL, cl.inOL]
          rw [Ps.rot_triv (by omega) (by omega) (by omega) (.inr rfl)]
          exact ⟨rfl, by omega⟩
        · intro k hk
          have hlen := Ps.rot_len (l := l) (a := a) (m := a + 1) (b := k + 1) (by omega) (by omega) (by omega)
          simp +contextual (maxSteps := 5000000) only [go_sem, ↓reduceIte, eD6_at, eD6_set, List.length_set, tn_add, tn_add1, tn_sub, tn_sub1, sh1, sh1b, half_cast, cl.cv6, cl.rf6, cl.nw6, cl.fz6, cl.cv5, cl.rf5, cl.nw5, cl.fz5, cl.wkL, cl.inOL]
          simp only [aa, inR_iff, inR_u64]
          and_intros
          · omega
          · omega
          split
          · rename_i hlt
            and_intros
            all_goals first | omega | skip
            refine ⟨k + 1, ⟨by omega, ?_⟩, by omega, by omega, by omega⟩
            rw [← Ps.rot_up default (by omega) (by omega)]
            rfl
          · rename_i hge
            have : k + 1 = i := by omega
            rw [this, fin]
  · rename_i e1
    refine ⟨⟨by omega, by omega⟩, fun _ => ?_⟩
    split
    · rename_i e2
      have e2 : b = m + 1 := by omega
      subst e2
      refine M_loopI (fun s : Nat × Nat => ⟨[(0, .vec 1000 n), (1, .int .i64 a), (2, .int .i64 m), (3, .int .i64 (m + 1 : Nat)), (4, .fn g [] cs), (14, .int .i64 s.1), (15, .int .i64 s.2)], [(1000, .vec 47 6 (l.map eD6) 0)]⟩) (fun s => s.2 - s.1)
        (fun s => a ≤ s.1 ∧ s.1 ≤ s.2 ∧ s.2 ≤ m ∧ (∀ p, a ≤ p → p < s.1 → ¬ cm (l.getD m default) (l.getD p default) < 0) ∧ ∀ p, s.2 ≤ p → p < m → cm (l.getD m default) (l.getD p default) < 0) (a, m) ?_ ?_
      · simp +contextual (maxSteps := 5000000) only [go_sem, ↓reduceIte, cl.cv6, cl.rf6, cl.nw6, cl.fz6, cl.cv5, cl.rf5, cl.nw5, cl.fz5, cl.wkL, cl.inOL]
        and_intros
        all_goals first | omega | (intros; omega)
      · intro ⟨i, j⟩ hi
        obtain ⟨i1, i2, i3, i4, i5⟩ := hi
        simp only at i1 i2 i3 i4 i5
        simp +contextual (maxSteps := 5000000) only [go_sem, ↓reduceIte, eD6_at, eD6_set, List.length_set, tn_add, tn_add1, tn_sub, tn_sub1, sh1, sh1b, half_cast, cl.cv6, cl.rf6, cl.nw6, cl.fz6, cl.cv5, cl.rf5, cl.nw5, cl.fz5, cl.wkL, cl.inOL, c_cl, hsc, ng]
        simp only [aa, inR_iff, inR_u64]
        split
        · rename_i hij
          have hh : i ≤ (i + j) / 2 ∧ (i + j) / 2 < j := by omega
          generalize (i + j) / 2 = h at hh ⊢
          and_intros
          all_goals first | omega | exact hmem (by omega) | skip
          split
          · rename_i hneg
            and_intros
            all_goals first | omega | skip
            refine ⟨(h + 1, j), ⟨by simp only; omega, rfl⟩, by simp only; omega, by simp only; omega, by simp only; omega, by simp only; omega, fun p p1 p2 => ?_, i5⟩
            simp only at p2
            by_cases e : p = h
            · rw [e]; exact hneg
            · have h5 := hA p h _ _ (by omega) (by omega) (by omega) (gs (by omega)) (gs (by omega))
              have h6 : le (l.getD h default) (l.getD m default) = true := hcl.t.2 hneg
              exact hcl.t.1 (hp.tr _ _ _ h5 h6)
          · rename_i hneg
            have hneg := Classical.not_not.1 hneg
            refine ⟨(i, h), ⟨rfl, rfl⟩, by simp only; omega, i1, by simp only; omega, by simp only; omega, i4, fun p p1 p2 => ?_⟩
            simp only at p1
            by_cases e : p = h
            · rw [e]; exact hneg
            · have h5 := hA h p _ _ (by omega) (by omega) (by omega) (gs (by omega)) (gs (by omega))
              have h6 : le (l.getD h default) (l.getD m default) = false := hcl.f.2 hneg
              cases h7 : le (l.getD p default) (l.getD m default) with
              | true => rw [hp.tr _ _ _ h5 h7] at h6; cases h6
              | false => exact hcl.f.1 h7
        · rename_i hij
          have hij : i = j := by omega
          subst hij
          have fin : Ps.rot l i m (m + 1) = Ps.seg (Ps.srt le) l a (m + 1) := Ps.back_seg hp i1 i3 (by omega) hA
            (fun p x y p1 p2 hx hy => by have := i4 p p1 p2; rw [gd hx, gd hy] at this; exact hcl.t.2 this)
            (fun p x y p1 p2 hx hy => by have := i5 p p1 p2; rw [gd hx, gd hy] at this; exact hcl.f.2 this)
          refine M_loopI (fun k : Nat => ⟨[(0, .vec 1000 n), (14, .int .i64 i), (17, .int .i64 k)], [(1000, .vec 47 6 ((Ps.rot l k m (m + 1)).map eD6) 0)]⟩) (fun k => k) (fun k => i ≤ k ∧ k ≤ m) m ?_ ?_
          · simp +contextual (maxSteps := 5000000) only [go_sem, ↓reduceIte, cl.cv6, cl.rf6, cl.nw6, cl.fz6, cl.cv5, cl.rf5, cl.nw5, cl.fz5, cl.wkL, cl.inOL]
            rw [Ps.rot_triv (by omega) (by omega) (by omega) (.inl rfl)]
            exact ⟨rfl, by omega⟩
          · intro k hk
            have hlen := Ps.rot_len (l := l) (a := k) (m := m) (b := m + 1) (by omega) (by omega) (by omega)
            simp +contextual (maxSteps := 5000000) only [go_sem, ↓reduceIte, eD6_at, eD6_set, List.length_set, tn_add, tn_add1, tn_sub, tn_sub1, sh1, sh1b, half_cast, cl.cv6, cl.rf6, cl.nw6, cl.fz6, cl.cv5, cl.rf5, cl.nw5, cl.fz5, cl.wkL, cl.inOL]
            simp only [aa, inR_iff, inR_u64]
            split
            · rename_i hlt
              and_intros
              all_goals first | omega | skip
              refine ⟨k - 1, ⟨by omega, ?_⟩, by omega, by omega, by omega⟩
              rw [← Ps.rot_down default (by omega) (by omega) (by omega)]
              rfl
            · rename_i hge
              have : k = i := by omega
              rw [this, fin]
    · rename_i e2
      obtain ⟨mid, hmid⟩ : ∃ mid, mid = (a + b) / 2 := ⟨_, rfl⟩
      obtain ⟨lo, hlo⟩ : ∃ lo, lo = if mid < m then mid + m - b else a := ⟨_, rfl⟩
      obtain ⟨hi, hhi⟩ : ∃ hi, hi = if mid < m then mid else m := ⟨_, rfl⟩
      rw [← hmid]
      have hmid2 : 2 * mid ≤ a + b ∧ a + b ≤ 2 * mid + 1 := by omega
      clear hmid
      simp only [aa, inR_iff, inR_u64]
      and_intros
      all_goals first | omega | skip
      split
      all_goals
        rename_i hmm
        first | rw [if_pos hmm] at hlo hhi | rw [if_neg hmm] at hlo hhi
        have hF : a ≤ lo ∧ lo ≤ hi ∧ hi ≤ m ∧ hi ≤ mid ∧ mid + m ≤ lo + b ∧ (lo = a ∨ lo + b = mid + m) ∧ (hi = mid ∨ hi = m) := by omega
        and_intros
        all_goals first | omega | skip
        refine M_loopI (fun s : Nat × Nat => ⟨[(0, .vec 1000 n), (1, .int .i64 a), (2, .int .i64 m), (3, .int .i64 b), (4, .fn g [] cs), (18, .int .i64 mid), (19, .int .i64 (mid + m : Nat)), (20, .int .i64 s.1), (21, .int .i64 s.2), (22, .int .i64 (mid + m - 1 : Nat))], [(1000, .vec 47 6 (l.map eD6) 0)]⟩) (fun s => s.2 - s.1)
          (fun s => lo ≤ s.1 ∧ s.1 ≤ s.2 ∧ s.2 ≤ hi ∧ (s.1 = lo ∨ ¬ cm (l.getD (mid + m - s.1) default) (l.getD (s.1 - 1) default) < 0) ∧ (s.2 = hi ∨ cm (l.getD (mid + m - 1 - s.2) default) (l.getD s.2 default) < 0)) (lo, hi) ?_ ?_
        · simp +contextual (maxSteps := 5000000) only [go_sem, ↓reduceIte, cl.cv6, cl.rf6, cl.nw6, cl.fz6, cl.cv5, cl.rf5, cl.nw5, cl.fz5, cl.wkL, cl.inOL]
          and_intros
          all_goals omega
        · intro ⟨i, j⟩ hi
          obtain ⟨i1, i2, i3, i4, i5⟩ := hi
          simp only at i1 i2 i3 i4 i5
          simp +contextual (maxSteps := 5000000) only [go_sem, ↓reduceIte, eD6_at, eD6_set, List.length_set, tn_add, tn_add1, tn_sub, tn_sub1, sh1, sh1b, half_cast, cl.cv6, cl.rf6, cl.nw6, cl.fz6, cl.cv5, cl.rf5, cl.nw5, cl.fz5, cl.wkL, cl.inOL, c_cl, hsc, ng, cm_sm, cm_sm1, hst, cm_ro, cm_ro1, stm_ro, d6_eD6]
          simp only [aa, inR_iff, inR_u64]
          split
          · rename_i hij
            have hh : i ≤ (i + j) / 2 ∧ (i + j) / 2 < j := by omega
            generalize (i + j) / 2 = h at hh ⊢
            and_intros
            all_goals first | omega | exact hmem (by omega) | skip
            split
            · rename_i hneg
              and_intros
              all_goals first | omega | skip
              refine ⟨(h + 1, j), ⟨by simp only; omega, rfl⟩, by simp only; omega, by simp only; omega, by simp only; omega, by simp only; omega, .inr ?_, i5⟩
              simp only
              rw [show mid + m - (h + 1) = mid + m - 1 - h from by omega, show h + 1 - 1 = h from rfl]
              exact hneg
            · rename_i hneg
              exact ⟨(i, h), ⟨rfl, rfl⟩, by simp only; omega, by simp only; omega, by simp only; omega, by simp only; omega, i4, .inr (Classical.not_not.1 hneg)⟩
          · rename_i hij
            have hij : i = j := by omega
            subst hij
            obtain ⟨e, he⟩ : ∃ e, e = mid + m - i := ⟨_, rfl⟩
            have hE : i + (e - m) = mid ∧ m ≤ e ∧ e ≤ b ∧ a ≤ i ∧ i ≤ m := by omega
            have c1 : i = a ∨ e = b ∨ ∀ x y, l[i - 1]? = some x → l[e]? = some y → le x y = true := by
              rcases i4 with h | h
              · omega
              · rw [← he] at h
                exact .inr (.inr fun x y hx hy => by rw [gd hx, gd hy] at h; exact hcl.t.2 h)
            have c2 : i = m ∨ e = m ∨ ∀ x y, l[i]? = some x → l[e - 1]? = some y → le x y = false := by
              rcases i5 with h | h
              · omega
              · rw [show mid + m - 1 - i = e - 1 from by omega] at h
                exact .inr (.inr fun x y hx hy => by rw [gd hx, gd hy] at h; exact hcl.f.2 h)
            have hj := Ps.sym_join hp hE.2.2.2.1 hE.2.2.2.2 hE.2.1 hE.2.2.1 (by omega) hA hB c1 c2
            rw [hE.1] at hj
            obtain ⟨d1, d2, d3, d4⟩ := Ps.sd_rot_l hE.2.2.2.1 hE.2.2.2.2 hE.2.1 hE.2.2.1 (by omega) hA hB
            rw [hE.1] at d2 d3
            have hl1 := Ps.rot_len hE.2.2.2.2 hE.2.1 (l := l) (by omega)
            have p1 := Ps.rot_perm hE.2.2.2.2 hE.2.1 (l := l) (by omega)
            have htr : i = m ∨ m = e → Ps.rot l i m e = l := fun h => Ps.rot_triv hE.2.2.2.2 hE.2.1 (by omega) h
            clear c1 c2 i4 i5 hF hlo hhi
            have e24 : ((mid + m : Nat) : Int) - (i : Int) = (e : Int) := by omega
            rw [e24]
            refine ⟨by omega, ?_⟩
            generalize hl1e : Ps.rot l i m e = l1 at hj d1 d2 d3 d4 hl1 p1 htr
            have hl2 : (Ps.seg (Ps.srt le) l1 a mid).length = n := by rw [Ps.seg_len Ps.srt_len (by omega) (by omega)]; omega
            have p2 : (Ps.seg (Ps.srt le) l1 a mid).Perm l1 := Ps.seg_perm (by omega)
            have d3' := Ps.sd_seg (f := Ps.srt le) Ps.srt_len (a := a) (b := mid) (by omega) (by omega) d3 (.inr (Nat.le_refl _))
            have d4' := Ps.sd_seg (f := Ps.srt le) Ps.srt_len (a := a) (b := mid) (by omega) (by omega) d4 (.inr (by omega))
            have s1 : ¬ (a < i ∧ i < mid) → Ps.seg (Ps.srt le) l1 a mid = l1 := fun h => Ps.seg_id (by omega) (by
              by_cases c : a < i
              · have : i = mid := by omega
                rw [← this]; exact d1
              · have : i = a := by omega
                rw [← this]; exact d2)
            have s2 : ¬ (mid < e ∧ e < b) → Ps.seg (Ps.srt le) (Ps.seg (Ps.srt le) l1 a mid) mid b = Ps.seg (Ps.srt le) l1 a mid := fun h => Ps.seg_id (by omega) (by
              by_cases c : mid < e
              · have : e = b := by omega
                rw [this] at d3'; exact d3'
              · have : e = mid := by omega
                rw [this] at d4'; exact d4')
            rw [← hj]
            generalize hl2e : Ps.seg (Ps.srt le) l1 a mid = l2 at hj hl2 p2 d3' d4' s1 s2
            refine M_join (fun _ : Unit => ⟨[(0, .vec 1000 n), (1, .int .i64 a), (3, .int .i64 b), (4, .fn g [] cs), (18, .int .i64 mid), (20, .int .i64 i), (24, .int .i64 e)], [(1000, .vec 47 6 (l1.map eD6) 0)]⟩) (fun _ => True) ?_ ?_
            · simp +contextual (maxSteps := 5000000) only [go_sem, ↓reduceIte, eD6_at, eD6_set, List.length_set, tn_add, tn_add1, tn_sub, tn_sub1, sh1, sh1b, half_cast, cl.cv6, cl.rf6, cl.nw6, cl.fz6, cl.cv5, cl.rf5, cl.nw5, cl.fz5, cl.wkL, cl.inOL, cm_ro, cm_ro1, stm_ro, d6_eD6]
              split
              · split
                · exact ⟨⟨⟨hn, h3⟩, by omega, hcs⟩, (), by rw [hl1e]⟩
                · rw [htr (by omega)]; exact ⟨(), rfl⟩
              · rw [htr (by omega)]; exact ⟨(), rfl⟩
            · intro _ _
              refine M_join (fun _ : Unit => ⟨[(0, .vec 1000 n), (3, .int .i64 b), (4, .fn g [] cs), (18, .int .i64 mid), (24, .int .i64 e)], [(1000, .vec 47 6 (l2.map eD6) 0)]⟩) (fun _ => True) ?_ ?_
              · simp +contextual (maxSteps := 5000000) only [go_sem, ↓reduceIte, eD6_at, eD6_set, List.length_set, tn_add, tn_add1, tn_sub, tn_sub1, sh1, sh1b, half_cast, cl.cv6, cl.rf6, cl.nw6, cl.fz6, cl.cv5, cl.rf5, cl.nw5, cl.fz5, cl.wkL, cl.inOL, cm_sm, cm_sm1, hst, d6_eD6]
                split
                · split
                  · exact ⟨⟨⟨by omega, h3⟩, by omega, ⟨hcs, hc.perm p1⟩, d1, d2⟩, (), by rw [hl2e]⟩
                  · rw [s1 (by omega)]; exact ⟨(), rfl⟩
                · rw [s1 (by omega)]; exact ⟨(), rfl⟩
              · intro _ _
                simp +contextual (maxSteps := 5000000) only [go_sem, ↓reduceIte, eD6_at, eD6_set, List.length_set, tn_add, tn_add1, tn_sub, tn_sub1, sh1, sh1b, half_cast, cl.cv6, cl.rf6, cl.nw6, cl.fz6, cl.cv5, cl.rf5, cl.nw5, cl.fz5, cl.wkL, cl.inOL, cm_sm, cm_sm1, hst, d6_eD6]
                split
                · split
                  · exact ⟨⟨hl2, h3⟩, by omega, ⟨hcs, hc.perm (p2.trans p1)⟩, d3', d4'⟩
                  · rw [s2 (by omega)]
                · rw [s2 (by omega)]
end Go.Proofs.YtknkjakppikjeaaGreat

set_option linter.unusedSimpArgs false
namespace Go.Proofs.YtknkjakppikjeaaGreat
open Go.Tn
set_option maxHeartbeats 8000000
set_option maxRecDepth 100000
theorem stm_sm {cm : St6 → St6 → Int} {le : St6 → St6 → Bool} (hcl : CmpLe cm le) : ∀ k, StMC Tryz.prog 125 [0] (cm_sm cm le k)
  | 0 => by
    intro ds H pre mu o1 out h hp
    unfold cm_sm at h
    split at h
    · unfold cm_sm1 at h
      split at h
      · cases h
        obtain ⟨_, _, ⟨ha, h1, h2, h4, hk⟩, _⟩ := hp
        omega
      · cases h
    · cases h
  | k + 1 => by
    intro ds H pre mu o1 out h hp
    unfold cm_sm at h
    split at h
    · rename_i i n a m b g cs
      unfold cm_sm1 at h
      split at h
      · rename_i e rows hi
        cases h
        obtain ⟨⟨rfl, hr⟩, ⟨rfl, h3⟩, ⟨ha, h1, h2, h4, hk⟩, ⟨hcs, hc⟩, hA, hB⟩ := hp
        rw [objs_one hi]
        have := (fcm_sm g cs hcs cm le hcl k (stm_sm hcl k) (rows.map d6) hc a.toNat m.toNat b.toNat rows.length (by simp) (by omega) (by omega) (by omega) h3 (by omega) hA hB).one i trivial (by simp [plainO])
        rw [← hr, Int.toNat_of_nonneg ha, Int.toNat_of_nonneg (by omega), Int.toNat_of_nonneg (by omega)] at this
        simp only [renF, ren1, renLO, renO, renM, ren, renL, sw_l] at this
        exact this
      · cases h
    · cases h
theorem fcm_stable (g : Nat) (cs : List D) (hcs : cleanL [.fn g [] cs] = true) (cm : St6 → St6 → Int) (le : St6 → St6 → Bool) (hcl : CmpLe cm le) (l : List St6) (hc : CmpOn g cs cm l)
    (n : Nat) (hn : l.length = n) (h3 : n < 1000000000) :
    FCM Tryz.prog 111 [(true, .vec 1000 n), (false, .int .i64 n), (false, .fn g [] cs)] [(1000, .vec 47 6 (l.map eD6) 0)] [(1000, .vec 47 6 ((Ps.srt le l).map eD6) 0)] (.ret (.tup [])) := by
  have cl := clrL_of (cl_fn hcs)
  have hp := hcl.p
  have hs1 := stm_is hcl
  have hs2 := stm_sm hcl (n + 1)
  refine fcm_M (fn := Tryz.f111) (C := (tab [] [(125, [0], cm_sm cm le (n + 1)), (124, [0], cm_is cm le)])) (rs := []) mixed (by kernel_rfl) (by kernel_rfl) rfl rfl (by kernel_rfl) ?_ ?_
  · simp +contextual (maxSteps := 5000000) only [go_sem, ↓reduceIte]
  simp +contextual (maxSteps := 5000000) only [go_sem, ↓reduceIte, eD6_at, eD6_set, List.length_set, tn_add, tn_add1, tn_sub, tn_sub1, sh1, sh1b, half_cast]
  refine M_loopI (fun s : List St6 × Nat => ⟨[(0, .vec 1000 n), (1, .int .i64 n), (2, .fn g [] cs), (6, .int .i64 20), (7, .int .i64 s.2), (8, .int .i64 (s.2 + 20 : Nat))], [(1000, .vec 47 6 (s.1.map eD6) 0)]⟩) (fun s => n - s.2)
    (fun s => s.1.length = n ∧ s.1.Perm l ∧ s.2 ≤ n ∧ Ps.Done le l s.1 20 s.2 ∧ ∀ p, s.2 ≤ p → s.1[p]? = l[p]?) (l, 0) ?_ ?_
  · simp +contextual (maxSteps := 5000000) only [go_sem, ↓reduceIte, cl.cv6, cl.rf6, cl.nw6, cl.fz6, cl.cv5, cl.rf5, cl.nw5, cl.fz5, cl.wkL, cl.inOL]
    and_intros
    all_goals first | omega | exact List.Perm.refl _ | exact Ps.Done.nil | (intros; rfl) | skip
  · intro ⟨k, a⟩ hi
    obtain ⟨i1, i2, i3, i4, i5⟩ := hi
    simp only at i1 i2 i3 i4 i5
    simp +contextual (maxSteps := 5000000) only [go_sem, ↓reduceIte, eD6_at, eD6_set, List.length_set, tn_add, tn_add1, tn_sub, tn_sub1, sh1, sh1b, half_cast, cl.cv6, cl.rf6, cl.nw6, cl.fz6, cl.cv5, cl.rf5, cl.nw5, cl.fz5, cl.wkL, cl.inOL, cm_is, cm_is1, hs1, d6_eD6]
    simp only [aa, inR_iff]
    subst hn
    split
    · rename_i hlt
      have hl := Ps.seg_len' (le := le) (l := k) (a := a) (b := a + 20) (by omega) (by omega)
      refine ⟨⟨⟨i1, h3⟩, by omega, hcs, hc.perm i2⟩, ⟨by omega, by omega⟩, ⟨(Ps.seg (Ps.srt le) k a (a + 20), a + 20), ⟨⟨rfl, by simp only; omega⟩, rfl⟩, by simp only; omega, by simp only; omega, (Ps.seg_perm (by omega)).trans i2, hlt, ?_, fun p hp' => ?_⟩⟩
      · exact (i4.out (by omega) (by omega) (Nat.le_refl _)).snoc (by omega) (Ps.W.new (by omega) (by omega) i5)
      · simp only at hp'
        rw [Ps.seg_out Ps.srt_len (by omega) (by omega) (.inr hp')]
        exact i5 p (by omega)
    · rename_i hge
      refine ⟨⟨⟨i1, h3⟩, ⟨i3, Nat.le_refl _⟩, hcs, hc.perm i2⟩, ?_⟩
      have hl := Ps.seg_len' (le := le) (l := k) (a := a) (b := l.length) (by omega) (by omega)
      have hr : Ps.Runs le l (Ps.seg (Ps.srt le) k a l.length) 20 0 := by
        refine (i4.out (by omega) (by omega) (Nat.le_refl _)).runs (by omega) ?_
        by_cases c : a = l.length
        · exact .nil (by omega)
        · refine .cons (by omega) ?_ (.nil (by omega))
          rw [hl, Nat.min_eq_right (by omega), i1]
          exact Ps.W.new (by omega) (by omega) i5
      have hpm : (Ps.seg (Ps.srt le) k a l.length).Perm l := (Ps.seg_perm (by omega)).trans i2
      generalize Ps.seg (Ps.srt le) k a l.length = k2 at hl hr hpm
      clear i1 i2 i3 i4 i5 hge
      refine M_loopI (fun s : List St6 × Nat => ⟨[(0, .vec 1000 l.length), (1, .int .i64 l.length), (2, .fn g [] cs), (6, .int .i64 s.2)], [(1000, .vec 47 6 (s.1.map eD6) 0)]⟩) (fun s => l.length - s.2)
        (fun s => s.1.Perm l ∧ 0 < s.2 ∧ s.2 < 4000000000 ∧ Ps.Runs le l s.1 s.2 0) (k2, 20) ?_ ?_
      · simp +contextual (maxSteps := 5000000) only [go_sem, ↓reduceIte, cl.cv6, cl.rf6, cl.nw6, cl.fz6, cl.cv5, cl.rf5, cl.nw5, cl.fz5, cl.wkL, cl.inOL]
        and_intros
        all_goals first | omega | assumption
      · intro ⟨k, bs⟩ hi
        obtain ⟨i2, i3, i4, i5⟩ := hi
        simp only at i2 i3 i4 i5
        have i1 := i2.length_eq
        simp +contextual (maxSteps := 5000000) only [go_sem, ↓reduceIte, eD6_at, eD6_set, List.length_set, tn_add, tn_add1, tn_sub, tn_sub1, sh1, sh1b, half_cast, cl.cv6, cl.rf6, cl.nw6, cl.fz6, cl.cv5, cl.rf5, cl.nw5, cl.fz5, cl.wkL, cl.inOL, cm_sm, cm_sm1, hs2, d6_eD6]
        simp only [aa, inR_iff]
        split
        · rename_i hbs
          refine ⟨⟨by omega, by omega⟩, ?_⟩
          refine M_loopI (fun s : List St6 × Nat => ⟨[(0, .vec 1000 l.length), (1, .int .i64 l.length), (2, .fn g [] cs), (6, .int .i64 bs), (7, .int .i64 s.2), (8, .int .i64 (s.2 + 2 * bs : Nat))], [(1000, .vec 47 6 (s.1.map eD6) 0)]⟩) (fun s => l.length - s.2)
            (fun s => s.1.Perm l ∧ s.2 ≤ l.length ∧ Ps.Done le l s.1 (2 * bs) s.2 ∧ Ps.Runs le l s.1 bs s.2) (k, 0) ?_ ?_
          · simp +contextual (maxSteps := 5000000) only [go_sem, ↓reduceIte, cl.cv6, cl.rf6, cl.nw6, cl.fz6, cl.cv5, cl.rf5, cl.nw5, cl.fz5, cl.wkL, cl.inOL]
            and_intros
            all_goals first | omega | assumption | exact Ps.Done.nil
          · intro ⟨k, a⟩ hi
            obtain ⟨j2, j3, j4, j5⟩ := hi
            simp only at j2 j3 j4 j5
            have j1 := j2.length_eq
            simp +contextual (maxSteps := 5000000) only [go_sem, ↓reduceIte, eD6_at, eD6_set, List.length_set, tn_add, tn_add1, tn_sub, tn_sub1, sh1, sh1b, half_cast, cl.cv6, cl.rf6, cl.nw6, cl.fz6, cl.cv5, cl.rf5, cl.nw5, cl.fz5, cl.wkL, cl.inOL, cm_sm, cm_sm1, hs2, d6_eD6]
            simp only [aa, inR_iff]
            split
            · rename_i hab
              obtain ⟨q1, q2, q3, q4⟩ := Ps.step_runs hcl.p i3 j4 j5 (by omega)
              refine ⟨⟨by omega, by omega⟩, ⟨⟨j1, h3⟩, ⟨by omega, by omega, by omega⟩, ⟨hcs, hc.perm j2⟩, q1, q2⟩, ⟨by omega, by omega⟩, ⟨by omega, by omega⟩, ⟨(Ps.seg (Ps.srt le) k a (a + 2 * bs), a + 2 * bs), ⟨⟨rfl, by simp only; omega⟩, rfl⟩, by simp only; omega, (Ps.seg_perm (by omega)).trans j2, hab, q3, q4⟩⟩
            · rename_i hab
              refine ⟨⟨by omega, by omega⟩, ?_⟩
              split
              · rename_i hm
                obtain ⟨q1, q2, q3⟩ := Ps.last_runs hcl.p i3 j4 j5 (by omega) (by omega)
                rw [j1] at q2 q3
                exact ⟨⟨⟨j1, h3⟩, ⟨by omega, by omega, by omega⟩, ⟨hcs, hc.perm j2⟩, q1, q2⟩, ⟨by omega, by omega⟩, ⟨(Ps.seg (Ps.srt le) k a l.length, 2 * bs), ⟨by simp only; omega, rfl⟩, by simp only; omega, (Ps.seg_perm (by omega)).trans j2, by simp only; omega, by simp only; omega, q3⟩⟩
              · rename_i hm
                exact ⟨⟨by omega, by omega⟩, ⟨(k, 2 * bs), ⟨by simp only; omega, rfl⟩, by simp only; omega, j2, by simp only; omega, by simp only; omega, Ps.less_runs i3 j4 j5 (show k.length ≤ a + bs by omega)⟩⟩
        · rename_i hbs
          rw [i5.fin i1 (by omega)]
def cm_sb1 (cm : St6 → St6 → Int) (le : St6 → St6 → Bool) (i n : Nat) (m : Int) (g : Nat) (cs : List D) : Option LObj → MS
  | some (.vec e 6 rows 0) => .yes ((e = 47 ∧ rows = (rows.map d6).map eD6) ∧ (rows.length = n ∧ m = n ∧ n < 1000000000) ∧ cleanL [.fn g [] cs] = true ∧ CmpOn g cs cm (rows.map d6)) [i] [(i, .vec e 6 ((Ps.srt le (rows.map d6)).map eD6) 0)] (.ret (.tup []))
  | _ => .bad
def cm_sb (cm : St6 → St6 → Int) (le : St6 → St6 → Bool) (ds : List D) (H : Hp) : MS := match ds with | [.vec i n, .int .i64 m, .fn g [] cs] => cm_sb1 cm le i n m g cs (H i) | _ => .bad
theorem stm_sb {cm : St6 → St6 → Int} {le : St6 → St6 → Bool} (hcl : CmpLe cm le) : StMC Tryz.prog 111 [0] (cm_sb cm le) := by
  intro ds H pre mu o1 out h hp
  unfold cm_sb at h
  split at h
  · rename_i i n m g cs
    unfold cm_sb1 at h
    split at h
    · rename_i e rows hi
      cases h
      obtain ⟨⟨rfl, hr⟩, ⟨rfl, rfl, h3⟩, hcs, hc⟩ := hp
      rw [objs_one hi]
      have := (fcm_stable g cs hcs cm le hcl (rows.map d6) hc rows.length (by simp) h3).one i trivial (by simp [plainO])
      rw [← hr] at this
      simp only [renF, ren1, renLO, renO, renM, ren, renL, sw_l] at this
      exact this
    · cases h
  · cases h
theorem fcm_sortStable (g : Nat) (cs : List D) (hcs : cleanL [.fn g [] cs] = true) (cm : St6 → St6 → Int) (le : St6 → St6 → Bool) (hcl : CmpLe cm le) (l : List St6) (hc : CmpOn g cs cm l)
    (n : Nat) (hn : l.length = n) (h3 : n < 1000000000) :
    FCM Tryz.prog 76 [(true, .vec 1000 n), (false, .fn g [] cs)] [(1000, .vec 47 6 (l.map eD6) 0)] [(1000, .vec 47 6 ((Ps.srt le l).map eD6) 0)] (.ret (.tup [])) := by
  have cl := clrL_of (cl_fn hcs)
  have hs := stm_sb hcl
  refine fcm_M (fn := Tryz.f76) (C := (tab [] [(111, [0], cm_sb cm le)])) (rs := []) mixed (by kernel_rfl) (by kernel_rfl) rfl rfl (by kernel_rfl) ?_ ?_
  · simp +contextual (maxSteps := 5000000) only [go_sem, ↓reduceIte]
  simp +contextual (maxSteps := 5000000) only [go_sem, ↓reduceIte, eD6_at, eD6_set, List.length_set, tn_add, tn_add1, tn_sub, tn_sub1, sh1, sh1b, half_cast, cl.cv6, cl.rf6, cl.nw6, cl.fz6, cl.cv5, cl.rf5, cl.nw5, cl.fz5, cl.wkL, cl.inOL, cm_sb, cm_sb1, hs, d6_eD6]
  exact ⟨hn, fun _ => ⟨h3, hcs, hc⟩⟩
def cm_ss1 (cm : St6 → St6 → Int) (le : St6 → St6 → Bool) (i n : Nat) (g : Nat) (cs : List D) : Option LObj → MS
  | some (.vec e 6 rows 0) => .yes ((e = 47 ∧ rows = (rows.map d6).map eD6) ∧ (rows.length = n ∧ n < 1000000000) ∧ cleanL [.fn g [] cs] = true ∧ CmpOn g cs cm (rows.map d6)) [i] [(i, .vec e 6 ((Ps.srt le (rows.map d6)).map eD6) 0)] (.ret (.tup []))
  | _ => .bad
def cm_ss (cm : St6 → St6 → Int) (le : St6 → St6 → Bool) (ds : List D) (H : Hp) : MS := match ds with | [.vec i n, .fn g [] cs] => cm_ss1 cm le i n g cs (H i) | _ => .bad
theorem stm_ss {cm : St6 → St6 → Int} {le : St6 → St6 → Bool} (hcl : CmpLe cm le) : StMC Tryz.prog 76 [0] (cm_ss cm le) := by
  intro ds H pre mu o1 out h hp
  unfold cm_ss at h
  split at h
  · rename_i i n g cs
    unfold cm_ss1 at h
    split at h
    · rename_i e rows hi
      cases h
      obtain ⟨⟨rfl, hr⟩, ⟨rfl, h3⟩, hcs, hc⟩ := hp
      rw [objs_one hi]
      have := (fcm_sortStable g cs hcs cm le hcl (rows.map d6) hc rows.length (by simp) h3).one i trivial (by simp [plainO])
      rw [← hr] at this
      simp only [renF, ren1, renLO, renO, renM, ren, renL, sw_l] at this
      exact this
    · cases h
  · cases h
end Go.Proofs.YtknkjakppikjeaaGreat

set_option linter.unusedSimpArgs false
namespace Go.Proofs.YtknkjakppikjeaaGreat
open Go.Tn
set_option maxHeartbeats 8000000
set_option maxRecDepth 100000
def turnS (s : St6) : St6 := ⟨s.j, s.i, s.q, s.p, s.n, s.o⟩
def leJ (x y : St6) : Bool := decide (0 ≤ ordF y x)
theorem ordF_lt (x y : St6) : ordF x y < 0 ↔ x.j < y.j ∨ (x.j = y.j ∧ x.q < y.q) := by
  simp only [ordF, orF, cmpI]
  (repeat' split) <;> simp_all <;> omega
theorem leJ_iff (x y : St6) : leJ x y = true ↔ x.j < y.j ∨ (x.j = y.j ∧ x.q ≤ y.q) := by
  have := ordF_lt y x
  simp only [leJ, decide_eq_true_eq]
  omega
theorem pre_leJ : Ps.Pre leJ := ⟨fun a b c => by simp only [leJ_iff]; omega, fun a b => by simp only [leJ_iff]; omega⟩
theorem cmpLe_ord : CmpLe ordF leJ := ⟨fun _ _ => rfl, pre_leJ⟩
def turnSs (l : List St6) : List St6 := Ps.srt leJ (l.map turnS)
theorem turnSs_len (l : List St6) : (turnSs l).length = l.length := by unfold turnSs; rw [Ps.srt_len, List.length_map]
def turnD (d : Dl) : Dl := ⟨d.B, d.A, turnP d.cols, d.nb, d.na, turnP d.rows, d.inss, d.dels, turnSs d.sets, d.gain, d.lost⟩
theorem cmpOn_ord (l : List St6) : CmpOn 77 [] ordF l := ⟨by decide, fun x _ y _ => fc_order x y⟩
def eT6 (s : St6) : List D := eD6 (turnS s)
theorem eT6_eq (l : List St6) : l.map eT6 = (l.map turnS).map eD6 := by rw [List.map_map]; rfl
def eZl : List D := [.nil, .nil, .nil, .int .i64 0, .int .i64 0, .nil, .nil, .nil, .nil, .nil, .nil]
theorem fc_DTurn (d : Dl) (h : okDl d) (hc : ∀ x ∈ d.dels ++ d.inss, x.2.length < 1000000000) : FC Tryz.prog 30 [] [.agg (eDl d)] (.ret (.agg (eDl (turnD d)))) := by
  have hh := h
  obtain ⟨hA, hB, hco, hro, hde, hin, hse, hlo, hga, hce⟩ := h
  have ty : tyOf Tryz.prog 31 = ⟨.struct, [(.slice none 0 0), (.slice none 0 0), (.slice none 0 0), (.int .i64 0), (.int .i64 0), (.slice none 0 0), (.slice none 0 0), (.slice none 0 0), (.slice none 0 0), (.slice none 0 0), (.slice none 0 0)], [(0, 1, false), (1, 1, false), (2, 1, false), (3, 1, false), (4, 1, false), (5, 1, false), (6, 1, false), (7, 1, false), (8, 1, false), (9, 1, false), (10, 1, false)], 0, 0, false, 0, 232⟩ := by kernel_rfl
  have hf := tyOf_fact (P := Tryz.prog) (t := 31) (by rw [ty]; intro h; cases h)
  rw [ty] at hf
  refine fcc_of (fn := Tryz.f30) (rt := 31) (r := 2) (i := 2) (C := tab [(23, c_Clone 9 1), (80, c_Clone 71 3), (78, c_pTurn), (79, c_lines)] [(76, [0], cm_ss ordF leJ)] [5007]) mixed (by kernel_rfl) (by kernel_rfl) rfl rfl hf (by kernel_rfl) (by intro ys h; cases h) ?_
  unfold eDl
  simp +contextual (maxSteps := 5000000) only [go_sem, ↓reduceIte]
  intro _
  have hs1 := stm_ss cmpLe_ord
  refine M_loopI (fun i : Nat => ⟨[(1, .loc 1 0), (2, .loc 2 0), (3, .vec 28 i), (7, .sl 6 (d.sets.map eD6)), (8, .int .i64 d.sets.length), (9, .int .i64 i)], [(1, .blk (eDl d) false), (2, .blk eZl false), (28, .vec 47 6 ((d.sets.take i).map eT6) 0)]⟩) (fun i => d.sets.length - i) (fun i => i ≤ d.sets.length) 0 ?_ ?_
  · simp +contextual (maxSteps := 5000000) only [go_sem, ↓reduceIte, eDl, eZl]
    rfl
  · intro i hi
    by_cases hlt : i < d.sets.length
    · have hat := eD6_at d.sets i hlt
      simp +contextual (maxSteps := 5000000) only [go_sem, ↓reduceIte, eI_at, eI_set, List.length_set, tn_add, tn_add1, tn_sub, tn_sub1, sh1, sh1b, half_cast, hlt, hat, eDl, eZl]
      exact ⟨⟨by omega, by omega⟩, fun _ => ⟨inR64 (by omega) (by omega), fun _ => ⟨i + 1, ⟨⟨rfl, by simp⟩, take_map_succ eT6 default d.sets i hlt⟩, by omega, by omega⟩⟩⟩
    · obtain rfl : i = d.sets.length := by omega
      simp +contextual (maxSteps := 5000000) only [go_sem, ↓reduceIte, hlt, Nat.lt_irrefl, List.take_length, eT6_eq, eDl, eZl]
      refine M_join (fun _ : Unit => ⟨[(1, .loc 1 0), (2, .loc 2 0), (3, .vec 28 d.sets.length)], [(1, .blk (eDl d) false), (2, .blk eZl false), (28, .vec 47 6 ((turnSs d.sets).map eD6) 0)]⟩) (fun _ => True) ?_ ?_
      · simp +contextual (maxSteps := 5000000) only [go_sem, ↓reduceIte, eDl, eZl, cm_ss, cm_ss1, hs1, d6_eD6]
        exact ⟨⟨by omega, rfl, cmpOn_ord _⟩, (), rfl⟩
      · intro _ _
        unfold turnD eDl
        simp +contextual (maxSteps := 5000000) only [go_sem, ↓reduceIte, eZl, c_Clone, c_pTurn, st_pTurn, st_CloneS, st_CloneP, c_lines, st_lines, dP_eP, dL_eL, finC, finCB, locR]
        refine ⟨by omega, by omega, by omega, by omega, ⟨hin, fun x hx => hc x (List.mem_append.2 (.inr hx))⟩, ⟨hde, fun x hx => hc x (List.mem_append.2 (.inl hx))⟩, by omega, by omega, turnSs_len _⟩
end Go.Proofs.YtknkjakppikjeaaGreat

set_option linter.unusedSimpArgs false
namespace Go.Proofs.YtknkjakppikjeaaGreat
open Go.Tn
set_option maxHeartbeats 8000000
set_option maxRecDepth 100000
theorem ctM_app (l : List Int) (k : Int) : ctM (l ++ [k]) = mup (ctM l) k (mlk (ctM l) k + 1) := by simp [ctM]
theorem rev_ind {α : Type} {p : List α → Prop} (h0 : p []) (h1 : ∀ l k, p l → p (l ++ [k])) : ∀ l, p l := by
  have key : ∀ r : List α, p r.reverse := fun r => by
    induction r with
    | nil => exact h0
    | cons k r ih => rw [List.reverse_cons]; exact h1 _ _ ih
  intro l
  have := key l.reverse
  rwa [List.reverse_reverse] at this
theorem mup_keys (k v : Int) : ∀ m : List (Int × Int), (mup m k v).map (·.1) = if k ∈ m.map (·.1) then m.map (·.1) else m.map (·.1) ++ [k]
  | [] => by simp [mup]
  | x :: r => by
    have ih := mup_keys k v r
    simp only [mup]
    by_cases e : x.1 = k
    · subst e; simp
    · rw [if_neg e, List.map_cons, ih]
      by_cases h : k ∈ r.map (·.1)
      · rw [if_pos h, if_pos (by rw [List.map_cons]; exact List.mem_cons_of_mem _ h)]; rfl
      · rw [if_neg h, if_neg (by rw [List.map_cons, List.mem_cons]; exact fun h' => h'.elim (fun h' => e h'.symm) h)]; rfl
theorem ct_keys (l : List Int) : (∀ x, x ∈ (ctM l).map (·.1) ↔ x ∈ l) ∧ (ctM l).length ≤ l.length ∧ ((ctM l).length = l.length ↔ l.Nodup) := by
  refine rev_ind (p := fun l => (∀ x, x ∈ (ctM l).map (·.1) ↔ x ∈ l) ∧ (ctM l).length ≤ l.length ∧ ((ctM l).length = l.length ↔ l.Nodup)) ?_ ?_ l
  · simp [ctM]
  · rintro l k ⟨h1, h2, h3⟩
    rw [ctM_app]
    have hk := mup_keys k (mlk (ctM l) k + 1) (ctM l)
    have hlen : (mup (ctM l) k (mlk (ctM l) k + 1)).length = (ctM l).length + if k ∈ l then 0 else 1 := by
      have := congrArg List.length hk
      rw [List.length_map] at this
      rw [this]
      by_cases h : k ∈ l
      · rw [if_pos ((h1 k).2 h), if_pos h, List.length_map]; rfl
      · rw [if_neg (fun h' => h ((h1 k).1 h')), if_neg h, List.length_append, List.length_map]; rfl
    refine ⟨fun x => ?_, ?_, ?_⟩
    · rw [hk]
      by_cases h : k ∈ l
      · rw [if_pos ((h1 k).2 h), h1, List.mem_append, List.mem_singleton]
        exact ⟨.inl, fun h' => h'.elim id (fun e => e ▸ h)⟩
      · rw [if_neg (fun h' => h ((h1 k).1 h')), List.mem_append, List.mem_append, h1]
    · rw [hlen, List.length_append, List.length_singleton]; split <;> omega
    · rw [hlen, List.length_append, List.length_singleton, List.nodup_append]
      by_cases h : k ∈ l
      · rw [if_pos h]
        refine ⟨fun e => by omega, fun ⟨_, _, h'⟩ => absurd rfl (h' k h k (by simp))⟩
      · rw [if_neg h]
        refine ⟨fun e => ⟨h3.1 (by omega), by simp, fun a ha b hb => ?_⟩, fun ⟨h', _⟩ => by rw [h3.2 h']⟩
        obtain rfl : b = k := by simpa using hb
        exact fun e => h (e ▸ ha)
/-- what a good list of pairs is -/
structure Good (ps : List (Int × Int)) (na nb : Int) : Prop where
  a0 : 0 ≤ na
  b0 : 0 ≤ nb
  inn : ∀ p ∈ ps, inB na nb p
  na : (ps.map (·.1)).Nodup
  nb : (ps.map (·.2)).Nodup
  up : ps.Pairwise (fun p q => p.2 ≤ q.2)
theorem dnF_up : ∀ ps : List (Int × Int), dnF ps = false ↔ ps.Pairwise (fun p q => p.2 ≤ q.2)
  | [] => by simp [dnF]
  | [p] => by simp [dnF]
  | p :: q :: r => by
    have ih := dnF_up (q :: r)
    simp only [dnF, Bool.or_eq_false_iff, decide_eq_false_iff_not, ih]
    rw [List.pairwise_cons (a := p)]
    constructor
    · rintro ⟨h1, h2⟩
      refine ⟨fun x hx => ?_, h2⟩
      rcases List.mem_cons.1 hx with rfl | hx
      · omega
      · have := (List.pairwise_cons.1 h2).1 x hx; omega
    · rintro ⟨h1, h2⟩
      exact ⟨by have := h1 q (by simp); omega, h2⟩
theorem chk_zero (ps : List (Int × Int)) (na nb : Int) : chk ps na nb = 0 ↔ Good ps na nb := by
  have h1 := ct_keys (ps.map (·.1))
  have h2 := ct_keys (ps.map (·.2))
  rw [List.length_map] at h1 h2
  unfold chk
  constructor
  · intro h
    by_cases c1 : na < 0 ∨ nb < 0
    · rw [if_pos c1] at h; omega
    · rw [if_neg c1] at h
      by_cases c2 : ∃ p ∈ ps, ¬ inB na nb p
      · rw [if_pos c2] at h; omega
      · rw [if_neg c2] at h
        by_cases c3 : (ctM (ps.map (·.1))).length < ps.length ∨ (ctM (ps.map (·.2))).length < ps.length
        · rw [if_pos c3] at h; omega
        · rw [if_neg c3] at h
          cases c4 : dnF ps with
          | true => rw [if_pos c4] at h; omega
          | false =>
            exact ⟨by omega, by omega, fun p hp => Classical.byContradiction fun hn => c2 ⟨p, hp, hn⟩, h1.2.2.1 (by omega), h2.2.2.1 (by omega), (dnF_up ps).1 c4⟩
  · intro g
    have e1 := h1.2.2.2 g.na
    have e2 := h2.2.2.2 g.nb
    have e3 := (dnF_up ps).2 g.up
    have := g.a0
    have := g.b0
    rw [if_neg (by omega), if_neg (fun ⟨p, hp, hn⟩ => hn (g.inn p hp)), if_neg (by omega), if_neg (by rw [e3]; simp)]
theorem perm_turnP (l : List (Int × Int)) : (turnP l).Perm (l.map sw) := List.mergeSort_perm _ _
theorem mem_turnP {l : List (Int × Int)} {p : Int × Int} : p ∈ turnP l ↔ sw p ∈ l := by
  rw [(perm_turnP l).mem_iff, List.mem_map]
  constructor
  · rintro ⟨q, hq, rfl⟩; exact hq
  · intro h; exact ⟨_, h, rfl⟩
theorem turnP_fst (l : List (Int × Int)) : ((turnP l).map (·.1)).Perm (l.map (·.2)) := by
  have := (perm_turnP l).map (·.1)
  rw [List.map_map] at this; exact this
theorem turnP_snd (l : List (Int × Int)) : ((turnP l).map (·.2)).Perm (l.map (·.1)) := by
  have := (perm_turnP l).map (·.2)
  rw [List.map_map] at this; exact this
theorem Good.turn {l : List (Int × Int)} {na nb : Int} (g : Good l na nb) : Good (turnP l) nb na := by
  refine ⟨g.b0, g.a0, fun p hp => ?_, (turnP_fst l).nodup_iff.2 g.nb, (turnP_snd l).nodup_iff.2 g.na, ?_⟩
  · have := g.inn _ (mem_turnP.1 hp)
    exact ⟨this.2.2.1, this.2.2.2, this.1, this.2.1⟩
  · refine (Ps.srt_sorted pre_leB (l.map sw)).imp (fun h => ?_)
    exact of_decide_eq_true h
theorem inj_at {α β : Type} {f : α → β} {l : List α} (h : (l.map f).Nodup) {a b : α} (ha : a ∈ l) (hb : b ∈ l) (e : f a = f b) : a = b := by
  obtain ⟨i, hi, rfl⟩ := List.getElem_of_mem ha
  obtain ⟨j, hj, rfl⟩ := List.getElem_of_mem hb
  have h1 := List.pairwise_iff_getElem.1 (List.nodup_iff_pairwise_ne.1 h)
  rcases Nat.lt_trichotomy i j with h2 | h2 | h2
  · exact absurd (by rw [List.getElem_map, List.getElem_map]; exact e) (h1 i j (by simpa using hi) (by simpa using hj) h2)
  · subst h2; rfl
  · exact absurd (by rw [List.getElem_map, List.getElem_map]; exact e.symm) (h1 j i (by simpa using hj) (by simpa using hi) h2)
theorem Good.back {l : List (Int × Int)} {na nb : Int} (g : Good l na nb) : turnP (turnP l) = l := by
  have p : (turnP (turnP l)).Perm l := by
    refine (perm_turnP _).trans ?_
    have := (perm_turnP l).map sw
    rw [List.map_map] at this
    refine this.trans ?_
    have e : l.map (sw ∘ sw) = l := by
      rw [show (sw ∘ sw) = id from rfl]; exact List.map_id l
    rw [e]
  refine List.Perm.eq_of_pairwise (le := fun p q => p.2 ≤ q.2) (fun a b ha hb h1 h2 => ?_) g.turn.turn.up g.up p
  exact inj_at g.nb (p.mem_iff.1 ha) hb (by omega)
theorem rsL_congr {l k : List Int} (h : ∀ x, x ∈ l ↔ x ∈ k) (n : Nat) : rsL l n = rsL k n := by
  unfold rsL
  congr 1
  refine List.filter_congr fun i _ => ?_
  simp only [h]
/-- as many as are no rest -/
theorem rsL_cnt : ∀ {n : Nat} {l : List Int}, l.Nodup → (∀ x ∈ l, 0 ≤ x ∧ x < n) → (rsL l n).length + l.length = n
  | 0, l, _, h2 => by
    cases l with
    | nil => rfl
    | cons x l => have := h2 x (by simp); omega
  | n + 1, l, h1, h2 => by
    rw [rsL_succ, List.length_append]
    by_cases h : (n : Int) ∈ l
    · have h3 := h1.erase (n : Int)
      have ih := rsL_cnt (n := n) h3 (fun x hx => by
        have h4 := h2 x (List.mem_of_mem_erase hx)
        have h5 : x ≠ n := fun e => by
          rw [e] at hx
          exact (h1.not_mem_erase) hx
        omega)
      have e1 : rsL (l.erase (n : Int)) n = rsL l n := by
        unfold rsL
        congr 1
        refine List.filter_congr fun i hi => ?_
        have hi := List.mem_range.1 hi
        have : (i : Int) ≠ n := by omega
        simp only [List.mem_erase_of_ne this]
      have e2 : (l.erase (n : Int)).length + 1 = l.length := by
        have := List.length_erase_of_mem h
        have : 0 < l.length := List.length_pos_of_mem h
        omega
      rw [e1] at ih
      rw [if_neg (fun h' => h' h)]
      simp only [List.length_nil]; omega
    · have ih := rsL_cnt (n := n) h1 (fun x hx => by
        have h4 := h2 x hx
        have h5 : x ≠ n := fun e => h (e ▸ hx)
        omega)
      rw [if_pos h]
      simp only [List.length_cons, List.length_nil]; omega
theorem mem_rsL {l : List Int} {n : Nat} {x : Int} : x ∈ rsL l n ↔ (0 ≤ x ∧ x < n) ∧ x ∉ l := by
  unfold rsL
  rw [List.mem_map]
  constructor
  · rintro ⟨i, hi, rfl⟩
    obtain ⟨h1, h2⟩ := List.mem_filter.1 hi
    have := List.mem_range.1 h1
    exact ⟨by omega, by simpa using h2⟩
  · rintro ⟨⟨h1, h2⟩, h3⟩
    refine ⟨x.toNat, List.mem_filter.2 ⟨List.mem_range.2 (by omega), ?_⟩, by omega⟩
    rw [Int.toNat_of_nonneg h1]; simpa using h3
theorem rsL_nodup (l : List Int) (n : Nat) : (rsL l n).Nodup := by
  unfold rsL
  rw [List.nodup_iff_pairwise_ne, List.pairwise_map]
  refine List.Pairwise.imp (R := fun a b => a < b) (fun h => by omega) ?_
  exact (List.pairwise_lt_range).filter _
theorem mtF_len {α β : Type} {q : α → β → Bool} : ∀ {l : List α} {r : List β}, mtF q l r = true → l.length = r.length
  | [], [], _ => rfl
  | x :: l, y :: r, h => by
    simp only [mtF, Bool.and_eq_true] at h
    simp only [List.length_cons, mtF_len h.2]
theorem crF_len (a b : List Int) : (crF a b).length = a.length * b.length := by
  induction a with
  | nil => simp [crF]
  | cons x a ih =>
    unfold crF at ih ⊢
    rw [List.flatMap_cons, List.length_append, ih, List.length_map, List.length_cons, Nat.succ_mul]; omega
theorem nodup_sub {α : Type} [DecidableEq α] : ∀ {l k : List α}, l.Nodup → (∀ x ∈ l, x ∈ k) → l.length ≤ k.length
  | [], k, _, _ => Nat.zero_le _
  | x :: l, k, h1, h2 => by
    have hx := h2 x (by simp)
    obtain ⟨n1, n2⟩ := List.nodup_cons.1 h1
    have := nodup_sub (k := k.erase x) n2 (fun y hy => by
      have hne : y ≠ x := fun e => n1 (e ▸ hy)
      exact (List.mem_erase_of_ne hne).2 (h2 y (by simp [hy])))
    have e := List.length_erase_of_mem hx
    have : 0 < k.length := List.length_pos_of_mem hx
    simp only [List.length_cons]; omega
end Go.Proofs.YtknkjakppikjeaaGreat

set_option linter.unusedSimpArgs false
namespace Go.Proofs.YtknkjakppikjeaaGreat
open Go.Tn
set_option maxHeartbeats 8000000
set_option maxRecDepth 100000
/- table.Check -/
def eTb (t : Tab) : List D := [.sl 1 (t.1.map eS), .sl 1 (t.2.map eR)]
theorem fc_unless (b : Bool) (e : Int) : FC Tryz.prog 57 [] [.bool b, .int .i64 e] (.ret (.int .i64 (if b = true then 0 else e))) := by
  refine fc_M (fn := Tryz.f57) (C := (tab [] [])) (rs := [4]) mixed (by kernel_rfl) (by kernel_rfl) rfl rfl (by kernel_rfl) (by intro ys h; cases h) ?_
  cases b
  · simp +contextual (maxSteps := 5000000) only [go_sem, ↓reduceIte]
  · simp +contextual (maxSteps := 5000000) only [go_sem, ↓reduceIte]
def c_unless (caps args : List D) : Prop × Out := match caps, args with | [], [.bool b, .int .i64 e] => (True, .ret (.int .i64 (if b = true then 0 else e))) | _, _ => (False, .ret .any)
theorem st_unless : StC Tryz.prog 57 c_unless := by
  intro caps args; unfold c_unless; split
  · exact fun _ => fc_unless _ _
  · exact fun h => h.elim
def tc1 (t : Tab) : Int := if 0 < t.1.length then 0 else 8
theorem fc_tc1 (t : Tab) : FC Tryz.prog 56 [.box (eTb t)] [] (.ret (.int .i64 (tc1 t))) := by
  refine fc_M (fn := Tryz.f56) (C := (tab [(57, c_unless)] [])) (rs := [1]) mixed (by kernel_rfl) (by kernel_rfl) rfl rfl (by kernel_rfl) (by intro ys h; cases h) ?_
  unfold eTb
  simp +contextual (maxSteps := 5000000) only [go_sem, ↓reduceIte, c_unless, st_unless]
  unfold tc1
  intro _
  congr 1
  exact propext (by omega)
theorem fc_odd (t : Tab) (r : List Str) : FC Tryz.prog 59 [.box (eTb t)] [.sl 1 (r.map eS)] (.ret (.bool (decide (r.length ≠ t.1.length)))) := by
  refine fc_M (fn := Tryz.f59) (C := (tab [] [])) (rs := [3]) mixed (by kernel_rfl) (by kernel_rfl) rfl rfl (by kernel_rfl) (by intro ys h; cases h) ?_
  unfold eTb
  simp +contextual (maxSteps := 5000000) only [go_sem, ↓reduceIte]
  intro _ _
  by_cases h : r.length = t.1.length <;> simp [h]
end Go.Proofs.YtknkjakppikjeaaGreat

set_option linter.unusedSimpArgs false
namespace Go.Proofs.YtknkjakppikjeaaGreat
open Go.Tn
set_option maxHeartbeats 8000000
set_option maxRecDepth 100000
/- the references: Find, names, long, In, inside, before -/
def fnd (s : Str) : List Str → Nat → Int
  | [], _ => -1
  | x :: r, k => if x = s then k else fnd s r (k + 1)
theorem drop_at {α : Type} {l : List α} {i : Nat} {d : α} (h : i < l.length) : l.drop i = l.getD i d :: l.drop (i + 1) := by
  rw [List.drop_eq_getElem_cons h, List.getD_eq_getElem?_getD, List.getElem?_eq_getElem h]; rfl
theorem fc_Find (t : Tab) (s : Str) : FC Tryz.prog 65 [] [.agg (eTb t), .str s] (.ret (.int .i64 (fnd s t.1 0))) := by
  unfold eTb
  refine fc_M (fn := Tryz.f65) (C := (tab [] [])) (rs := [4]) mixed (by kernel_rfl) (by kernel_rfl) rfl rfl (by kernel_rfl) (by intro ys h; cases h) ?_
  simp +contextual (maxSteps := 5000000) only [go_sem, ↓reduceIte]
  refine M_loopI (fun i : Nat => ⟨[(1, .str s), (2, .loc 2 0), (5, .int .i64 i)], [(2, .blk (eTb t) false)]⟩) (fun i => t.1.length - i) (fun i => i ≤ t.1.length ∧ fnd s (t.1.drop i) i = fnd s t.1 0) 0 ?_ ?_
  · simp +contextual (maxSteps := 5000000) only [go_sem, ↓reduceIte, eTb]
    rfl
  rintro i ⟨hi, hf⟩
  by_cases hlt : i < t.1.length
  · have hat := eS_at t.1 i hlt
    rw [drop_at (d := []) hlt] at hf
    simp only [fnd] at hf
    by_cases q : t.1.getD i [] = s
    · rw [if_pos q] at hf
      rw [← hf]
      simp +contextual (maxSteps := 5000000) only [go_sem, ↓reduceIte, hlt, hat, q, eTb]
    · rw [if_neg q] at hf
      simp +contextual (maxSteps := 5000000) only [go_sem, ↓reduceIte, hlt, hat, q, eTb]
      exact fun _ => ⟨inR64 (by omega) (by omega), fun _ => ⟨i + 1, by simp, by omega, by omega, hf⟩⟩
  · rw [List.drop_of_length_le (by omega)] at hf
    simp only [fnd] at hf
    rw [← hf]
    simp +contextual (maxSteps := 5000000) only [go_sem, ↓reduceIte, hlt, eTb]
theorem fnd_at (s : Str) : ∀ (l : List Str) (k i : Nat), i < l.length → l.getD i [] = s → ∃ j, j ≤ i ∧ fnd s l k = (k + j : Nat) ∧ l.getD j [] = s ∧ ∀ m, m < j → l.getD m [] ≠ s
  | x :: r, k, i, hi, he => by
    simp only [fnd]
    by_cases q : x = s
    · exact ⟨0, by omega, by rw [if_pos q]; rfl, by simpa using q, fun m hm => by omega⟩
    · rw [if_neg q]
      cases i with
      | zero => exact absurd (by simpa using he) q
      | succ i =>
        obtain ⟨j, h1, h2, h3, h4⟩ := fnd_at s r (k + 1) i (by simpa using hi) (by simpa using he)
        refine ⟨j + 1, by omega, by rw [h2]; congr 1; omega, by simpa using h3, fun m hm => ?_⟩
        cases m with
        | zero => simpa using q
        | succ m => simpa using h4 m (by omega)
theorem gup_keys {V : Type} (k : Str) (v : V) : ∀ m : List (Str × V), (gup m k v).map (·.1) = if k ∈ m.map (·.1) then m.map (·.1) else m.map (·.1) ++ [k]
  | [] => by simp [gup]
  | x :: r => by
    have ih := gup_keys k v r
    simp only [gup]
    by_cases e : x.1 = k
    · subst e; simp
    · rw [if_neg e, List.map_cons, ih]
      by_cases h : k ∈ r.map (·.1)
      · rw [if_pos h, if_pos (by rw [List.map_cons]; exact List.mem_cons_of_mem _ h)]; rfl
      · rw [if_neg h, if_neg (by rw [List.map_cons, List.mem_cons]; exact fun h' => h'.elim (fun h' => e h'.symm) h)]; rfl
theorem cntS_app (l : List Str) (k : Str) : cntS (l ++ [k]) = gup (cntS l) k (glk 0 (cntS l) k + 1) := by simp [cntS]
theorem cntS_keys (l : List Str) : (∀ x, x ∈ (cntS l).map (·.1) ↔ x ∈ l) ∧ (cntS l).length ≤ l.length ∧ ((cntS l).length = l.length ↔ l.Nodup) := by
  refine rev_ind (p := fun l => (∀ x, x ∈ (cntS l).map (·.1) ↔ x ∈ l) ∧ (cntS l).length ≤ l.length ∧ ((cntS l).length = l.length ↔ l.Nodup)) ?_ ?_ l
  · simp [cntS]
  · rintro l k ⟨h1, h2, h3⟩
    rw [cntS_app]
    have hk := gup_keys k (glk 0 (cntS l) k + 1) (cntS l)
    have hlen : (gup (cntS l) k (glk 0 (cntS l) k + 1)).length = (cntS l).length + if k ∈ l then 0 else 1 := by
      have := congrArg List.length hk
      rw [List.length_map] at this
      rw [this]
      by_cases h : k ∈ l
      · rw [if_pos ((h1 k).2 h), if_pos h, List.length_map]; rfl
      · rw [if_neg (fun h' => h ((h1 k).1 h')), if_neg h, List.length_append, List.length_map]; rfl
    refine ⟨fun x => ?_, ?_, ?_⟩
    · rw [hk]
      by_cases h : k ∈ l
      · rw [if_pos ((h1 k).2 h), h1, List.mem_append, List.mem_singleton]
        exact ⟨.inl, fun h' => h'.elim id (fun e => e ▸ h)⟩
      · rw [if_neg (fun h' => h ((h1 k).1 h')), List.mem_append, List.mem_append, h1]
    · rw [hlen, List.length_append, List.length_singleton]; split <;> omega
    · rw [hlen, List.length_append, List.length_singleton, List.nodup_append]
      by_cases h : k ∈ l
      · rw [if_pos h]
        refine ⟨fun e => by omega, fun ⟨_, _, h'⟩ => absurd rfl (h' k h k (by simp))⟩
      · rw [if_neg h]
        refine ⟨fun e => ⟨h3.1 (by omega), by simp, fun a ha b hb => ?_⟩, fun ⟨h', _⟩ => by rw [h3.2 h']⟩
        obtain rfl : b = k := by simpa using hb
        exact fun e => h (e ▸ ha)
theorem onceF_iff (l : List Str) : onceF l = true ↔ l.Nodup := by
  unfold onceF
  rw [decide_eq_true_eq]; exact (cntS_keys l).2.2
theorem nodup_fnd (l : List Str) : l.Nodup ↔ ∀ i, i < l.length → fnd (l.getD i []) l 0 = i := by
  have at_ : ∀ {i} (h : i < l.length), l.getD i [] = l[i] := fun {i} h => by rw [List.getD_eq_getElem?_getD, List.getElem?_eq_getElem h]; rfl
  constructor
  · intro h i hi
    obtain ⟨j, h1, h2, h3, h4⟩ := fnd_at (l.getD i []) l 0 i hi rfl
    rw [h2]
    have : j = i := by
      rw [at_ (by omega), at_ hi] at h3
      exact (List.getElem_inj h).1 h3
    omega
  · intro h
    refine List.pairwise_iff_getElem.2 fun i j hi hj hij e => ?_
    obtain ⟨k, h1, h2, h3, h4⟩ := fnd_at (l.getD j []) l 0 j hj rfl
    rw [h j hj] at h2
    exact h4 i (by omega) (by rw [at_ hi, at_ hj]; exact e)
def dTb1 (r : List D) : Tab := match r with | [.sl _ h, .sl _ l] => (h.map dS, l.map dR) | [.sl _ h, _] => (h.map dS, []) | _ => ([], [])
def c_Find (caps args : List D) : Prop × Out := match caps, args with | [], [.agg r, .str s] => (wkL r (eTb (dTb1 r)), .ret (.int .i64 (fnd s (dTb1 r).1 0))) | _, _ => (False, .ret .any)
theorem st_Find : StC Tryz.prog 65 c_Find := by
  intro caps args; unfold c_Find; split
  · exact fun h => fc_wk (wkL_self []) (by simp only [wkL, wk]; exact ⟨h, trivial, trivial⟩) (by intro ys h; cases h) (fc_Find _ _)
  · exact fun h => h.elim
theorem fc_names (l : List Str) : FC Tryz.prog 67 [] [.sl 1 (l.map eS)] (.ret (.bool (onceF l))) := by
  refine fc_M (fn := Tryz.f67) (C := (tab [(65, c_Find)] [])) (rs := [2]) mixed (by kernel_rfl) (by kernel_rfl) rfl rfl (by kernel_rfl) (by intro ys h; cases h) ?_
  simp +contextual (maxSteps := 5000000) only [go_sem, ↓reduceIte]
  refine M_loopI (fun i : Nat => ⟨[(0, .sl 1 (l.map eS)), (3, .int .i64 i)], []⟩) (fun i => l.length - i) (fun i => i ≤ l.length ∧ ∀ j, j < i → fnd (l.getD j []) l 0 = j) 0 ?_ ?_
  · simp +contextual (maxSteps := 5000000) only [go_sem, ↓reduceIte]
    rfl
  rintro i ⟨hi, hf⟩
  by_cases hlt : i < l.length
  · have hat := eS_at l i hlt
    by_cases q : fnd (l.getD i []) l 0 = i
    · have hd : dTb1 [.sl 1 (l.map eS), .nil] = (l, []) := by simp only [dTb1, dS_eS]
      have hw : wkL [.sl 1 (l.map eS), .nil] (eTb (l, [])) := by simp [wkL, wk, eTb]
      simp +contextual (maxSteps := 5000000) only [go_sem, ↓reduceIte, hlt, hat, c_Find, st_Find, hd, hw, q]
      refine fun _ => ⟨inR64 (by omega) (by omega), fun _ => ⟨i + 1, by simp, by omega, by omega, fun j hj => ?_⟩⟩
      rcases lt_cases hj with h | rfl
      · exact hf j h
      · exact q
    · have hd : dTb1 [.sl 1 (l.map eS), .nil] = (l, []) := by simp only [dTb1, dS_eS]
      have hw : wkL [.sl 1 (l.map eS), .nil] (eTb (l, [])) := by simp [wkL, wk, eTb]
      have hn : onceF l = false := by
        cases h : onceF l with
        | false => rfl
        | true => exact absurd ((nodup_fnd l).1 ((onceF_iff l).1 h) i hlt) q
      rw [hn]
      simp +contextual (maxSteps := 5000000) only [go_sem, ↓reduceIte, hlt, hat, c_Find, st_Find, hd, hw, q]
  · have hn : onceF l = true := (onceF_iff l).2 ((nodup_fnd l).2 fun j hj => hf j (by omega))
    rw [hn]
    simp +contextual (maxSteps := 5000000) only [go_sem, ↓reduceIte, hlt]
def lonF (l : List Str) : Bool := l.any fun s => decide (1000 < s.length)
theorem any_drop {α : Type} {p : α → Bool} {l : List α} {i : Nat} {d : α} (h : i < l.length) : (l.drop i).any p = (p (l.getD i d) || (l.drop (i + 1)).any p) := by
  rw [drop_at (d := d) h, List.any_cons]
theorem fc_long (l : List Str) : FC Tryz.prog 66 [] [.sl 1 (l.map eS)] (.ret (.bool (lonF l))) := by
  refine fc_M (fn := Tryz.f66) (C := (tab [] [])) (rs := [2]) mixed (by kernel_rfl) (by kernel_rfl) rfl rfl (by kernel_rfl) (by intro ys h; cases h) ?_
  simp +contextual (maxSteps := 5000000) only [go_sem, ↓reduceIte]
  refine M_loopI (fun i : Nat => ⟨[(0, .sl 1 (l.map eS)), (3, .int .i64 i)], []⟩) (fun i => l.length - i) (fun i => i ≤ l.length ∧ lonF (l.drop i) = lonF l) 0 ?_ ?_
  · simp +contextual (maxSteps := 5000000) only [go_sem, ↓reduceIte]
    rfl
  rintro i ⟨hi, hf⟩
  by_cases hlt : i < l.length
  · have hat := eS_at l i hlt
    unfold lonF at hf ⊢
    rw [any_drop (d := []) hlt] at hf
    by_cases q : 1000 < (l.getD i []).length
    · have q2 : (1000 : Int) < (l.getD i []).length := by omega
      rw [decide_eq_true q, Bool.true_or] at hf
      rw [← hf]
      simp +contextual (maxSteps := 5000000) only [go_sem, ↓reduceIte, hlt, hat, q2]
    · have q2 : ¬ (1000 : Int) < (l.getD i []).length := by omega
      rw [decide_eq_false q, Bool.false_or] at hf
      simp +contextual (maxSteps := 5000000) only [go_sem, ↓reduceIte, hlt, hat, q2]
      exact fun _ _ => ⟨inR64 (by omega) (by omega), fun _ => ⟨i + 1, by simp, by omega, by omega, hf⟩⟩
  · rw [List.drop_of_length_le (by omega)] at hf
    rw [← hf]
    simp +contextual (maxSteps := 5000000) only [go_sem, ↓reduceIte, hlt]
    exact fun _ => rfl
theorem mem_drop {α : Type} {l : List α} {i : Nat} {d x : α} (h : i < l.length) : x ∈ l.drop i ↔ x = l.getD i d ∨ x ∈ l.drop (i + 1) := by
  rw [drop_at (d := d) h, List.mem_cons]
theorem fc_In (l : List Int) (n : Int) : FC Tryz.prog 109 [] [.sl 1 (l.map eI), .int .i64 n] (.ret (.bool (decide (n ∈ l)))) := by
  refine fc_M (fn := Tryz.f109) (C := (tab [] [])) (rs := [4]) mixed (by kernel_rfl) (by kernel_rfl) rfl rfl (by kernel_rfl) (by intro ys h; cases h) ?_
  simp +contextual (maxSteps := 5000000) only [go_sem, ↓reduceIte]
  refine M_loopI (fun i : Nat => ⟨[(0, .sl 1 (l.map eI)), (1, .int .i64 n), (5, .int .i64 i)], []⟩) (fun i => l.length - i) (fun i => i ≤ l.length ∧ (n ∈ l.drop i ↔ n ∈ l)) 0 ?_ ?_
  · simp +contextual (maxSteps := 5000000) only [go_sem, ↓reduceIte]
    rfl
  rintro i ⟨hi, hf⟩
  by_cases hlt : i < l.length
  · have hat := eI_at l i hlt
    rw [mem_drop (d := 0) hlt] at hf
    by_cases q : l.getD i 0 = n
    · have hn : decide (n ∈ l) = true := decide_eq_true (hf.1 (.inl q.symm))
      rw [hn]
      simp +contextual (maxSteps := 5000000) only [go_sem, ↓reduceIte, hlt, hat, q]
    · simp +contextual (maxSteps := 5000000) only [go_sem, ↓reduceIte, hlt, hat, q]
      refine fun _ => ⟨inR64 (by omega) (by omega), fun _ => ⟨i + 1, by simp, by omega, by omega, ?_⟩⟩
      rw [← hf]
      exact ⟨.inr, fun h => h.resolve_left (fun h => q h.symm)⟩
  · rw [List.drop_of_length_le (by omega)] at hf
    have hn : decide (n ∈ l) = false := decide_eq_false (fun h => by simpa using hf.2 h)
    rw [hn]
    simp +contextual (maxSteps := 5000000) only [go_sem, ↓reduceIte, hlt]
theorem fc_inside (l : List (Int × Int)) (a b : Int) : FC Tryz.prog 110 [] [.sl 2 (l.map eP), .int .i64 a, .int .i64 b] (.ret (.bool (decide ((a, b) ∈ l)))) := by
  refine fc_M (fn := Tryz.f110) (C := (tab [] [])) (rs := [6]) mixed (by kernel_rfl) (by kernel_rfl) rfl rfl (by kernel_rfl) (by intro ys h; cases h) ?_
  simp +contextual (maxSteps := 5000000) only [go_sem, ↓reduceIte]
  refine M_loopI (fun i : Nat => ⟨[(0, .sl 2 (l.map eP)), (1, .int .i64 a), (2, .int .i64 b), (7, .int .i64 i)], []⟩) (fun i => l.length - i) (fun i => i ≤ l.length ∧ ((a, b) ∈ l.drop i ↔ (a, b) ∈ l)) 0 ?_ ?_
  · simp +contextual (maxSteps := 5000000) only [go_sem, ↓reduceIte]
    rfl
  rintro i ⟨hi, hf⟩
  by_cases hlt : i < l.length
  · have hat := eP_at l i hlt
    rw [mem_drop (d := (0, 0)) hlt] at hf
    by_cases q1 : (l.getD i (0, 0)).1 = a
    · by_cases q2 : (l.getD i (0, 0)).2 = b
      · have hn : decide ((a, b) ∈ l) = true := decide_eq_true (hf.1 (.inl (Prod.ext q1.symm q2.symm)))
        rw [hn]
        simp +contextual (maxSteps := 5000000) only [go_sem, ↓reduceIte, hlt, hat, q1, q2]
      · simp +contextual (maxSteps := 5000000) only [go_sem, ↓reduceIte, hlt, hat, q1, q2]
        refine fun _ => ⟨inR64 (by omega) (by omega), fun _ => ⟨i + 1, by simp, by omega, by omega, ?_⟩⟩
        rw [← hf]
        exact ⟨.inr, fun h => h.resolve_left (fun h => q2 (by rw [← h]))⟩
    · simp +contextual (maxSteps := 5000000) only [go_sem, ↓reduceIte, hlt, hat, q1]
      refine fun _ => ⟨inR64 (by omega) (by omega), fun _ => ⟨i + 1, by simp, by omega, by omega, ?_⟩⟩
      rw [← hf]
      exact ⟨.inr, fun h => h.resolve_left (fun h => q1 (by rw [← h]))⟩
  · rw [List.drop_of_length_le (by omega)] at hf
    have hn : decide ((a, b) ∈ l) = false := decide_eq_false (fun h => by simpa using hf.2 h)
    rw [hn]
    simp +contextual (maxSteps := 5000000) only [go_sem, ↓reduceIte, hlt]
end Go.Proofs.YtknkjakppikjeaaGreat

set_option linter.unusedSimpArgs false
namespace Go.Proofs.YtknkjakppikjeaaGreat
open Go.Tn
set_option maxHeartbeats 8000000
set_option maxRecDepth 100000
theorem take_mem {α : Type} {f : α → Int} {l : List α} {i : Nat} {d : α} {a : Int} (h : i < l.length) : a ∈ (l.take (i + 1)).map f ↔ a ∈ (l.take i).map f ∨ f (l.getD i d) = a := by
  have e : l.take (i + 1) = l.take i ++ [l.getD i d] := by
    rw [List.take_add_one, List.getElem?_eq_getElem h, List.getD_eq_getElem?_getD, List.getElem?_eq_getElem h]; rfl
  rw [e, List.map_append, List.mem_append]
  simp only [List.map_cons, List.map_nil, List.mem_singleton]
  exact or_congr_right eq_comm
theorem fc_rRestA (l : List (Int × Int)) (n : Int) (hn : n ≤ 1000000000) (hl : l.length < 1000000000) : FC Tryz.prog 69 [] [.sl 2 (l.map eP), .int .i64 n] (.ret (.sl 1 ((rsL (l.map (·.1)) n.toNat).map eI))) := by
  refine fc_M (fn := Tryz.f69) (C := (tab [] [])) (rs := [4]) mixed (by kernel_rfl) (by kernel_rfl) rfl rfl (by kernel_rfl) (by intro ys h; cases h) ?_
  simp +contextual (maxSteps := 5000000) only [go_sem, ↓reduceIte]
  refine M_loopI (fun a : Nat => ⟨[(0, .sl 2 (l.map eP)), (1, .int .i64 n), (5, .vec 35 (rsL (l.map (·.1)) a).length), (6, .int .i64 a)], [(35, .vec 3 1 ((rsL (l.map (·.1)) a).map eI) 0)]⟩) (fun i => n.toNat - i) (fun i => i ≤ n.toNat) 0 ?_ ?_
  · simp +contextual (maxSteps := 5000000) only [go_sem, ↓reduceIte, rsL, List.range_zero, List.filter_nil]
    rfl
  intro a ha
  have hlen := rsL_len (l.map (·.1)) a
  have hs := rsL_succ (l.map (·.1)) a
  by_cases hlt : (a : Int) < n
  · simp +contextual (maxSteps := 5000000) only [go_sem, ↓reduceIte, hlt]
    refine M_loopI (fun i : Nat => ⟨[(0, .sl 2 (l.map eP)), (1, .int .i64 n), (5, .vec 35 (rsL (l.map (·.1)) a).length), (6, .int .i64 a), (7, .bool (decide ((a : Int) ∈ (l.take i).map (·.1)))), (8, .int .i64 i)], [(35, .vec 3 1 ((rsL (l.map (·.1)) a).map eI) 0)]⟩) (fun i => l.length - i) (fun i => i ≤ l.length) 0 ?_ ?_
    · simp +contextual (maxSteps := 5000000) only [go_sem, ↓reduceIte]
      simp
    intro i hi
    by_cases hlt2 : i < l.length
    · have hat := eP_at l i hlt2
      have hm := take_mem (f := (·.1)) (d := ((0 : Int), (0 : Int))) (a := (a : Int)) hlt2
      by_cases q0 : (a : Int) ∈ (l.take i).map (·.1)
      · have q2 := decide_eq_true (hm.2 (.inl q0))
        have q1 := decide_eq_true q0
        simp +contextual (maxSteps := 5000000) only [go_sem, ↓reduceIte, hlt, hlt2, hat, q1]
        exact fun _ => ⟨inR64 (by omega) (by omega), fun _ => ⟨i + 1, ⟨q2.symm, by simp⟩, by omega, by omega⟩⟩
      · have q1 := decide_eq_false q0
        by_cases q3 : (l.getD i (0, 0)).1 = a
        · have q2 := decide_eq_true (hm.2 (.inr q3))
          simp +contextual (maxSteps := 5000000) only [go_sem, ↓reduceIte, hlt, hlt2, hat, q1, q3]
          exact fun _ => ⟨inR64 (by omega) (by omega), fun _ => ⟨i + 1, ⟨q2.symm, by simp⟩, by omega, by omega⟩⟩
        · have q2 := decide_eq_false (fun h => (hm.1 h).elim q0 q3)
          simp +contextual (maxSteps := 5000000) only [go_sem, ↓reduceIte, hlt, hlt2, hat, q1, q3]
          exact fun _ => ⟨inR64 (by omega) (by omega), fun _ => ⟨i + 1, ⟨q2.symm, by simp⟩, by omega, by omega⟩⟩
    · obtain rfl : i = l.length := by omega
      by_cases h0 : (a : Int) ∈ l.map (·.1)
      · have q1 := decide_eq_true h0
        rw [if_neg (by simpa using h0), List.append_nil] at hs
        simp +contextual (maxSteps := 5000000) only [go_sem, ↓reduceIte, hlt, hlt2, Nat.lt_irrefl, List.take_length, q1]
        refine fun _ => ⟨inR64 (by omega) (by omega), fun _ => ⟨a + 1, ⟨⟨by rw [hs], by simp⟩, by rw [hs]⟩, by omega, by omega⟩⟩
      · have q1 := decide_eq_false h0
        rw [if_pos h0] at hs
        simp +contextual (maxSteps := 5000000) only [go_sem, ↓reduceIte, hlt, hlt2, Nat.lt_irrefl, List.take_length, q1]
        refine fun _ => ⟨by omega, fun _ => ⟨inR64 (by omega) (by omega), fun _ => ⟨a + 1, ⟨⟨by rw [hs]; simp, by simp⟩, by rw [hs]; simp [eI]⟩, by omega, by omega⟩⟩⟩
  · simp +contextual (maxSteps := 5000000) only [go_sem, ↓reduceIte, hlt]
    rw [show a = n.toNat by omega]
theorem fc_rRestB (l : List (Int × Int)) (n : Int) (hn : n ≤ 1000000000) (hl : l.length < 1000000000) : FC Tryz.prog 70 [] [.sl 2 (l.map eP), .int .i64 n] (.ret (.sl 1 ((rsL (l.map (·.2)) n.toNat).map eI))) := by
  refine fc_M (fn := Tryz.f70) (C := (tab [] [])) (rs := [4]) mixed (by kernel_rfl) (by kernel_rfl) rfl rfl (by kernel_rfl) (by intro ys h; cases h) ?_
  simp +contextual (maxSteps := 5000000) only [go_sem, ↓reduceIte]
  refine M_loopI (fun a : Nat => ⟨[(0, .sl 2 (l.map eP)), (1, .int .i64 n), (5, .vec 35 (rsL (l.map (·.2)) a).length), (6, .int .i64 a)], [(35, .vec 3 1 ((rsL (l.map (·.2)) a).map eI) 0)]⟩) (fun i => n.toNat - i) (fun i => i ≤ n.toNat) 0 ?_ ?_
  · simp +contextual (maxSteps := 5000000) only [go_sem, ↓reduceIte, rsL, List.range_zero, List.filter_nil]
    rfl
  intro a ha
  have hlen := rsL_len (l.map (·.2)) a
  have hs := rsL_succ (l.map (·.2)) a
  by_cases hlt : (a : Int) < n
  · simp +contextual (maxSteps := 5000000) only [go_sem, ↓reduceIte, hlt]
    refine M_loopI (fun i : Nat => ⟨[(0, .sl 2 (l.map eP)), (1, .int .i64 n), (5, .vec 35 (rsL (l.map (·.2)) a).length), (6, .int .i64 a), (7, .bool (decide ((a : Int) ∈ (l.take i).map (·.2)))), (8, .int .i64 i)], [(35, .vec 3 1 ((rsL (l.map (·.2)) a).map eI) 0)]⟩) (fun i => l.length - i) (fun i => i ≤ l.length) 0 ?_ ?_
    · simp +contextual (maxSteps := 5000000) only [go_sem, ↓reduceIte]
      simp
    intro i hi
    by_cases hlt2 : i < l.length
    · have hat := eP_at l i hlt2
      have hm := take_mem (f := (·.2)) (d := ((0 : Int), (0 : Int))) (a := (a : Int)) hlt2
      by_cases q0 : (a : Int) ∈ (l.take i).map (·.2)
      · have q2 := decide_eq_true (hm.2 (.inl q0))
        have q1 := decide_eq_true q0
        simp +contextual (maxSteps := 5000000) only [go_sem, ↓reduceIte, hlt, hlt2, hat, q1]
        exact fun _ => ⟨inR64 (by omega) (by omega), fun _ => ⟨i + 1, ⟨q2.symm, by simp⟩, by omega, by omega⟩⟩
      · have q1 := decide_eq_false q0
        by_cases q3 : (l.getD i (0, 0)).2 = a
        · have q2 := decide_eq_true (hm.2 (.inr q3))
          simp +contextual (maxSteps := 5000000) only [go_sem, ↓reduceIte, hlt, hlt2, hat, q1, q3]
          exact fun _ => ⟨inR64 (by omega) (by omega), fun _ => ⟨i + 1, ⟨q2.symm, by simp⟩, by omega, by omega⟩⟩
        · have q2 := decide_eq_false (fun h => (hm.1 h).elim q0 q3)
          simp +contextual (maxSteps := 5000000) only [go_sem, ↓reduceIte, hlt, hlt2, hat, q1, q3]
          exact fun _ => ⟨inR64 (by omega) (by omega), fun _ => ⟨i + 1, ⟨q2.symm, by simp⟩, by omega, by omega⟩⟩
    · obtain rfl : i = l.length := by omega
      by_cases h0 : (a : Int) ∈ l.map (·.2)
      · have q1 := decide_eq_true h0
        rw [if_neg (by simpa using h0), List.append_nil] at hs
        simp +contextual (maxSteps := 5000000) only [go_sem, ↓reduceIte, hlt, hlt2, Nat.lt_irrefl, List.take_length, q1]
        refine fun _ => ⟨inR64 (by omega) (by omega), fun _ => ⟨a + 1, ⟨⟨by rw [hs], by simp⟩, by rw [hs]⟩, by omega, by omega⟩⟩
      · have q1 := decide_eq_false h0
        rw [if_pos h0] at hs
        simp +contextual (maxSteps := 5000000) only [go_sem, ↓reduceIte, hlt, hlt2, Nat.lt_irrefl, List.take_length, q1]
        refine fun _ => ⟨by omega, fun _ => ⟨inR64 (by omega) (by omega), fun _ => ⟨a + 1, ⟨⟨by rw [hs]; simp, by simp⟩, by rw [hs]; simp [eI]⟩, by omega, by omega⟩⟩⟩
  · simp +contextual (maxSteps := 5000000) only [go_sem, ↓reduceIte, hlt]
    rw [show a = n.toNat by omega]
def c_In (caps args : List D) : Prop × Out := match caps, args with | [], [.sl 1 rows, .int .i64 n] => (rows = (rows.map dI).map eI, .ret (.bool (decide (n ∈ rows.map dI)))) | _, _ => (False, .ret .any)
theorem st_In : StC Tryz.prog 109 c_In := by
  intro caps args; unfold c_In; split
  · rename_i rows n
    intro h
    have := fc_In (rows.map dI) n
    rwa [← h] at this
  · exact fun h => h.elim
theorem fc_not (l : List Int) (n : Int) (hn : n ≤ 1000000000) : FC Tryz.prog 73 [] [.sl 1 (l.map eI), .int .i64 n] (.ret (.sl 1 ((wiF l n.toNat).map eI))) := by
  unfold wiF
  refine fc_M (fn := Tryz.f73) (C := (tab [(109, c_In)] [])) (rs := [4]) mixed (by kernel_rfl) (by kernel_rfl) rfl rfl (by kernel_rfl) (by intro ys h; cases h) ?_
  simp +contextual (maxSteps := 5000000) only [go_sem, ↓reduceIte]
  refine M_loopI (fun s : Nat => ⟨[(0, .sl 1 (l.map eI)), (1, .int .i64 n), (5, .vec 21 (rsL l s).length), (6, .int .i64 s)], [(21, .vec 3 1 ((rsL l s).map eI) 0)]⟩) (fun i => n.toNat - i) (fun i => i ≤ n.toNat) 0 ?_ ?_
  · simp +contextual (maxSteps := 5000000) only [go_sem, ↓reduceIte, rsL, List.range_zero, List.filter_nil]
    rfl
  · intro i hi
    have hlen := rsL_len l i
    have hs := rsL_succ l i
    by_cases hlt : (i : Int) < n
    · by_cases h0 : (i : Int) ∈ l
      · rw [if_neg (by simpa using h0), List.append_nil] at hs
        simp +contextual (maxSteps := 5000000) only [go_sem, ↓reduceIte, hlt, h0, c_In, st_In, dI_eI]
        refine ⟨inR64 (by omega) (by omega), fun _ => ⟨i + 1, ⟨⟨by rw [hs], by simp⟩, by rw [hs]⟩, by omega, by omega⟩⟩
      · rw [if_pos h0] at hs
        simp +contextual (maxSteps := 5000000) only [go_sem, ↓reduceIte, hlt, h0, c_In, st_In, dI_eI]
        refine ⟨by omega, fun _ => ⟨inR64 (by omega) (by omega), fun _ => ⟨i + 1, ⟨⟨by rw [hs]; simp, by simp⟩, by rw [hs]; simp [eI]⟩, by omega, by omega⟩⟩⟩
    · simp +contextual (maxSteps := 5000000) only [go_sem, ↓reduceIte, hlt]
      rw [show i = n.toNat by omega]
theorem mtF_drop {α β : Type} {q : α → β → Bool} {l : List α} {r : List β} {i : Nat} {d : α} {e : β} (h1 : i < l.length) (h2 : i < r.length) : mtF q (l.drop i) (r.drop i) = (q (l.getD i d) (r.getD i e) && mtF q (l.drop (i + 1)) (r.drop (i + 1))) := by
  rw [drop_at (d := d) h1, drop_at (d := e) h2]; rfl
theorem fc_whole (l : List Ln) (pl : List Int) (w : Int) (hl : l.length < 1000000000) : FC Tryz.prog 71 [] [.sl 2 (l.map eL), .sl 1 (pl.map eI), .int .i64 w] (.ret (.bool (mtF (isL w) l pl))) := by
  refine fc_M (fn := Tryz.f71) (C := (tab [] [])) (rs := [6]) mixed (by kernel_rfl) (by kernel_rfl) rfl rfl (by kernel_rfl) (by intro ys h; cases h) ?_
  simp +contextual (maxSteps := 5000000) only [go_sem, ↓reduceIte]
  by_cases hlen : l.length = pl.length
  · simp +contextual (maxSteps := 5000000) only [go_sem, ↓reduceIte, hlen]
    refine fun _ => M_loopI (fun i : Nat => ⟨[(0, .sl 2 (l.map eL)), (1, .sl 1 (pl.map eI)), (2, .int .i64 w), (7, .int .i64 i)], []⟩) (fun i => l.length - i) (fun i => i ≤ l.length ∧ mtF (isL w) (l.drop i) (pl.drop i) = mtF (isL w) l pl) 0 ?_ ?_
    · simp +contextual (maxSteps := 5000000) only [go_sem, ↓reduceIte]
      rfl
    rintro i ⟨hi, hf⟩
    by_cases hlt : i < l.length
    · have hat := eL_at l i hlt
      have hlt2 : i < pl.length := by omega
      have hat2 := eI_at pl i hlt2
      rw [mtF_drop (d := ((0 : Int), ([] : List Str))) (e := (0 : Int)) hlt hlt2] at hf
      generalize l.getD i (0, []) = x at hat hf
      rw [show isL w x (pl.getD i 0) = decide (x.1 = pl.getD i 0 ∧ (x.2.length : Int) = w) from rfl] at hf
      by_cases q1 : x.1 = pl.getD i 0
      · by_cases q2 : (x.2.length : Int) = w
        · rw [decide_eq_true ⟨q1, q2⟩, Bool.true_and] at hf
          simp +contextual (maxSteps := 5000000) only [go_sem, ↓reduceIte, hlt, hlt2, hat, hat2, q1, q2]
          exact fun _ => ⟨inR64 (by omega) (by omega), fun _ => ⟨i + 1, by simp, by omega, by omega, hf⟩⟩
        · rw [decide_eq_false (fun h => q2 h.2), Bool.false_and] at hf
          rw [← hf]
          simp +contextual (maxSteps := 5000000) only [go_sem, ↓reduceIte, hlt, hlt2, hat, hat2, q1, q2]
      · rw [decide_eq_false (fun h => q1 h.1), Bool.false_and] at hf
        rw [← hf]
        simp +contextual (maxSteps := 5000000) only [go_sem, ↓reduceIte, hlt, hlt2, hat, hat2, q1]
    · rw [List.drop_of_length_le (by omega), List.drop_of_length_le (by omega)] at hf
      rw [← hf]
      simp +contextual (maxSteps := 5000000) only [go_sem, ↓reduceIte, hlt]
      exact fun _ => rfl
  · have hf : mtF (isL w) l pl = false := by
      cases h : mtF (isL w) l pl with
      | false => rfl
      | true => exact absurd (mtF_len h) hlen
    rw [hf]
    simp +contextual (maxSteps := 5000000) only [go_sem, ↓reduceIte, hlen]
theorem crF_at (b : List Int) : ∀ (a : List Int) (i : Nat), i < a.length * b.length → (crF a b).getD i (0, 0) = (a.getD (i / b.length) 0, b.getD (i % b.length) 0) ∧ i / b.length < a.length ∧ i % b.length < b.length
  | [], i, h => by simp at h
  | x :: a, i, h => by
    have hb : 0 < b.length := by
      rcases Nat.eq_zero_or_pos b.length with e | e
      · rw [e, Nat.mul_zero] at h; omega
      · exact e
    have e : crF (x :: a) b = (b.map fun p => (x, p)) ++ crF a b := rfl
    rw [e]
    by_cases q : i < b.length
    · rw [Nat.div_eq_of_lt q, Nat.mod_eq_of_lt q]
      refine ⟨?_, by simp, q⟩
      rw [List.getD_eq_getElem?_getD, List.getElem?_append_left (by simpa using q), List.getElem?_map, List.getElem?_eq_getElem q, List.getD_eq_getElem?_getD, List.getD_eq_getElem?_getD, List.getElem?_eq_getElem q]; rfl
    · have h2 : i - b.length < a.length * b.length := by rw [List.length_cons, Nat.succ_mul] at h; omega
      obtain ⟨h3, h4, h5⟩ := crF_at b a (i - b.length) h2
      have hi : i = i - b.length + b.length := by omega
      have hd : i / b.length = (i - b.length) / b.length + 1 := by
        conv => lhs; rw [hi]
        exact Nat.add_div_right _ hb
      have hm : i % b.length = (i - b.length) % b.length := by
        conv => lhs; rw [hi]
        exact Nat.add_mod_right _ _
      rw [hd, hm]
      refine ⟨?_, by simpa using h4, h5⟩
      rw [List.getD_eq_getElem?_getD, List.getElem?_append_right (by simpa using Nat.le_of_not_lt q), List.length_map, ← List.getD_eq_getElem?_getD, h3]; rfl
theorem fc_each (l : List Sp) (a b : List Int) (hl : l.length < 1000000000) (ha : a.length < 1000000000) (hb : b.length < 1000000000) : FC Tryz.prog 72 [] [.sl 3 (l.map eSp), .sl 1 (a.map eI), .sl 1 (b.map eI)] (.ret (.bool (mtF isS l (crF a b)))) := by
  refine fc_M (fn := Tryz.f72) (C := (tab [] [])) (rs := [6]) mixed (by kernel_rfl) (by kernel_rfl) rfl rfl (by kernel_rfl) (by intro ys h; cases h) ?_
  have hmul : (a.length : Int) * b.length ≤ 1000000000000000000 := by
    have := Nat.mul_le_mul (Nat.le_of_lt ha) (Nat.le_of_lt hb)
    have h2 : ((a.length * b.length : Nat) : Int) = (a.length : Int) * b.length := Int.natCast_mul _ _
    omega
  have hmul0 : (0 : Int) ≤ (a.length : Int) * b.length := by
    have h2 : ((a.length * b.length : Nat) : Int) = (a.length : Int) * b.length := Int.natCast_mul _ _
    omega
  by_cases hlen : l.length = a.length * b.length
  · have hlen' : (l.length : Int) = (a.length : Int) * b.length := by rw [hlen, Int.natCast_mul]
    simp +contextual (maxSteps := 5000000) only [go_sem, ↓reduceIte, hlen']
    refine fun _ _ _ => ⟨inR64 (by omega) (by omega), fun _ => ?_⟩
    refine M_loopI (fun i : Nat => ⟨[(0, .sl 3 (l.map eSp)), (1, .sl 1 (a.map eI)), (2, .sl 1 (b.map eI)), (7, .int .i64 i)], []⟩) (fun i => l.length - i) (fun i => i ≤ l.length ∧ mtF isS (l.drop i) ((crF a b).drop i) = mtF isS l (crF a b)) 0 ?_ ?_
    · simp +contextual (maxSteps := 5000000) only [go_sem, ↓reduceIte]
      rfl
    rintro i ⟨hi, hf⟩
    by_cases hlt : i < l.length
    · have hat := eSp_at l i hlt
      obtain ⟨c1, c2, c3⟩ := crF_at b a i (by omega)
      have hat2 := eI_at a _ c2
      have hat3 := eI_at b _ c3
      have hcl : (crF a b).length = l.length := by rw [crF_len, hlen]
      rw [mtF_drop (d := ((0 : Int), (0 : Int), ([] : Str))) (e := ((0 : Int), (0 : Int))) hlt (by omega), c1] at hf
      generalize l.getD i (0, 0, []) = x at hat hf
      rw [show isS x (a.getD (i / b.length) 0, b.getD (i % b.length) 0) = decide (x.1 = a.getD (i / b.length) 0 ∧ x.2.1 = b.getD (i % b.length) 0) from rfl] at hf
      have hb0 : (0 : Int) < b.length := by omega
      have e1 : (i : Int) / b.length = ((i / b.length : Nat) : Int) := rfl
      have e2 : (i : Int) % b.length = ((i % b.length : Nat) : Int) := rfl
      by_cases q1 : x.1 = a.getD (i / b.length) 0
      · by_cases q2 : x.2.1 = b.getD (i % b.length) 0
        · rw [decide_eq_true ⟨q1, q2⟩, Bool.true_and] at hf
          simp +contextual (maxSteps := 5000000) only [go_sem, ↓reduceIte, hlt, hat, hat2, hat3, q1, q2, e1, e2, c2, c3, hb0]
          exact fun _ => ⟨inR64 (by omega) (by omega), fun _ => ⟨inR64 (by omega) (by omega), fun _ => ⟨i + 1, by simp, by omega, by omega, hf⟩⟩⟩
        · rw [decide_eq_false (fun h => q2 h.2), Bool.false_and] at hf
          rw [← hf]
          simp +contextual (maxSteps := 5000000) only [go_sem, ↓reduceIte, hlt, hat, hat2, hat3, q1, q2, e1, e2, c2, c3, hb0]
          exact fun _ => inR64 (by omega) (by omega)
      · rw [decide_eq_false (fun h => q1 h.1), Bool.false_and] at hf
        rw [← hf]
        simp +contextual (maxSteps := 5000000) only [go_sem, ↓reduceIte, hlt, hat, hat2, hat3, q1, e1, e2, c2, c3, hb0]
        exact fun _ => inR64 (by omega) (by omega)
    · rw [List.drop_of_length_le (by omega), List.drop_of_length_le (by rw [crF_len]; omega)] at hf
      rw [← hf]
      simp +contextual (maxSteps := 5000000) only [go_sem, ↓reduceIte, hlt]
      exact fun _ => rfl
  · have hf : mtF isS l (crF a b) = false := by
      cases h : mtF isS l (crF a b) with
      | false => rfl
      | true => exact absurd ((mtF_len h).trans (crF_len a b)) hlen
    have hlen' : ¬ (l.length : Int) = (a.length : Int) * b.length := by rw [← Int.natCast_mul]; omega
    rw [hf]
    simp +contextual (maxSteps := 5000000) only [go_sem, ↓reduceIte, hlen']
    exact fun _ _ _ => inR64 (by omega) (by omega)
end Go.Proofs.YtknkjakppikjeaaGreat

set_option linter.unusedSimpArgs false
namespace Go.Proofs.YtknkjakppikjeaaGreat
open Go.Tn
set_option maxHeartbeats 8000000
set_option maxRecDepth 100000
theorem nodup_at {α : Type} {f : α → Int} {l : List α} (d : α) : (l.map f).Nodup ↔ ∀ i, i < l.length → ∀ k, k < i → f (l.getD k d) ≠ f (l.getD i d) := by
  have at_ : ∀ {i} (h : i < l.length), l.getD i d = l[i] := fun {i} h => by rw [List.getD_eq_getElem?_getD, List.getElem?_eq_getElem h]; rfl
  constructor
  · intro h i hi k hk e
    rw [at_ hi, at_ (by omega)] at e
    have := List.pairwise_iff_getElem.1 h k i (by simpa using (by omega : k < l.length)) (by simpa using hi) hk
    simp only [List.getElem_map] at this
    exact this e
  · intro h
    refine List.pairwise_iff_getElem.2 fun i j hi hj hij e => ?_
    simp only [List.length_map] at hi hj
    simp only [List.getElem_map] at e
    exact h j hj i hij (by rw [at_ hi, at_ hj]; exact e)
theorem chk1 {ps : List (Int × Int)} {na nb : Int} (h : na < 0 ∨ nb < 0) : chk ps na nb = 1 := by unfold chk; rw [if_pos h]
theorem chk2 {ps : List (Int × Int)} {na nb : Int} (h : ¬ (na < 0 ∨ nb < 0)) {i : Nat} (hi : i < ps.length) (h2 : ¬ inB na nb (ps.getD i (0, 0))) : chk ps na nb = 11 := by
  unfold chk; rw [if_neg h, if_pos ⟨_, getD_mem hi, h2⟩]
theorem chk3 {ps : List (Int × Int)} {na nb : Int} (h : ¬ (na < 0 ∨ nb < 0)) (h2 : ∀ i, i < ps.length → inB na nb (ps.getD i (0, 0))) : chk ps na nb = if ¬ ((ps.map (·.1)).Nodup ∧ (ps.map (·.2)).Nodup) then 10 else if dnF ps = true then 12 else 0 := by
  have h3 : ¬ ∃ p ∈ ps, ¬ inB na nb p := by
    rintro ⟨p, hp, hn⟩
    obtain ⟨k, hk, e⟩ := List.getElem_of_mem hp
    have := h2 k hk
    rw [List.getD_eq_getElem?_getD, List.getElem?_eq_getElem hk, Option.getD_some, e] at this
    exact hn this
  have k1 := (ct_keys (ps.map (·.1))).2
  have k2 := (ct_keys (ps.map (·.2))).2
  rw [List.length_map] at k1 k2
  unfold chk
  rw [if_neg h, if_neg h3]
  by_cases q : (ps.map (·.1)).Nodup ∧ (ps.map (·.2)).Nodup
  · have e1 := k1.2.2 q.1
    have e2 := k2.2.2 q.2
    have hA : ¬ ((ctM (ps.map (·.1))).length < ps.length ∨ (ctM (ps.map (·.2))).length < ps.length) := by omega
    rw [if_neg hA, if_neg (not_not_intro q)]
  · rw [if_pos q, if_pos]
    by_cases q1 : (ps.map (·.1)).Nodup
    · have : ¬ (ctM (ps.map (·.2))).length = ps.length := fun e => q ⟨q1, k2.2.1 e⟩
      right; omega
    · have : ¬ (ctM (ps.map (·.1))).length = ps.length := fun e => q1 (k1.2.1 e)
      left; omega
theorem fc_rCheck (ps : List (Int × Int)) (na nb : Int) (hl : ps.length < 1000000000) : FC Tryz.prog 68 [] [.sl 2 (ps.map eP), .int .i64 na, .int .i64 nb] (.ret (.int .i64 (chk ps na nb))) := by
  refine fc_M (fn := Tryz.f68) (C := (tab [] [])) (rs := [6]) mixed (by kernel_rfl) (by kernel_rfl) rfl rfl (by kernel_rfl) (by intro ys h; cases h) ?_
  by_cases c1 : na < 0
  · rw [chk1 (.inl c1)]
    simp +contextual (maxSteps := 5000000) only [go_sem, ↓reduceIte, c1]
  by_cases c2 : nb < 0
  · rw [chk1 (.inr c2)]
    simp +contextual (maxSteps := 5000000) only [go_sem, ↓reduceIte, c1, c2]
  have c0 : ¬ (na < 0 ∨ nb < 0) := by omega
  simp +contextual (maxSteps := 5000000) only [go_sem, ↓reduceIte, c1, c2]
  refine M_loopI (fun i : Nat => ⟨[(0, .sl 2 (ps.map eP)), (1, .int .i64 na), (2, .int .i64 nb), (7, .int .i64 i)], []⟩) (fun i => ps.length - i) (fun i => i ≤ ps.length ∧ ∀ j, j < i → inB na nb (ps.getD j (0, 0))) 0 ?_ ?_
  · simp +contextual (maxSteps := 5000000) only [go_sem, ↓reduceIte]
    rfl
  rintro i ⟨hi, hf⟩
  by_cases hlt : i < ps.length
  · have hat := eP_at ps i hlt
    have hx := @chk2 ps na nb c0 i hlt
    generalize hp : ps.getD i (0, 0) = p at hat hx
    by_cases q1 : p.1 < 0
    · rw [hx (by unfold inB; omega)]
      simp +contextual (maxSteps := 5000000) only [go_sem, ↓reduceIte, hlt, hat, q1]
    by_cases q2 : na ≤ p.1
    · rw [hx (by unfold inB; omega)]
      simp +contextual (maxSteps := 5000000) only [go_sem, ↓reduceIte, hlt, hat, q1, q2]
    by_cases q3 : p.2 < 0
    · rw [hx (by unfold inB; omega)]
      simp +contextual (maxSteps := 5000000) only [go_sem, ↓reduceIte, hlt, hat, q1, q2, q3]
    by_cases q4 : nb ≤ p.2
    · rw [hx (by unfold inB; omega)]
      simp +contextual (maxSteps := 5000000) only [go_sem, ↓reduceIte, hlt, hat, q1, q2, q3, q4]
    simp +contextual (maxSteps := 5000000) only [go_sem, ↓reduceIte, hlt, hat, q1, q2, q3, q4]
    refine fun _ => ⟨inR64 (by omega) (by omega), fun _ => ⟨i + 1, by simp, by omega, by omega, fun j hj => ?_⟩⟩
    rcases lt_cases hj with h | rfl
    · exact hf j h
    · rw [hp]; unfold inB; omega
  have hin : ∀ j, j < ps.length → inB na nb (ps.getD j (0, 0)) := fun j hj => hf j (by omega)
  rw [chk3 c0 hin]
  simp +contextual (maxSteps := 5000000) only [go_sem, ↓reduceIte, hlt]
  clear hlt hf hi
  refine fun _ => M_loopI (fun i : Nat => ⟨[(0, .sl 2 (ps.map eP)), (8, .int .i64 i)], []⟩) (fun i => ps.length - i) (fun i => i ≤ ps.length ∧ ∀ j, j < i → ∀ k, k < j → (ps.getD k (0, 0)).1 ≠ (ps.getD j (0, 0)).1 ∧ (ps.getD k (0, 0)).2 ≠ (ps.getD j (0, 0)).2) 0 ?_ ?_
  · simp +contextual (maxSteps := 5000000) only [go_sem, ↓reduceIte]
    rfl
  rintro i ⟨hi, hf⟩
  by_cases hlt : i < ps.length
  · have hat := eP_at ps i hlt
    simp +contextual (maxSteps := 5000000) only [go_sem, ↓reduceIte, hlt]
    refine fun _ => M_loopI (fun k : Nat => ⟨[(0, .sl 2 (ps.map eP)), (8, .int .i64 i), (9, .int .i64 k)], []⟩) (fun k => i - k) (fun k => k ≤ i ∧ ∀ m, m < k → (ps.getD m (0, 0)).1 ≠ (ps.getD i (0, 0)).1 ∧ (ps.getD m (0, 0)).2 ≠ (ps.getD i (0, 0)).2) 0 ?_ ?_
    · simp +contextual (maxSteps := 5000000) only [go_sem, ↓reduceIte]
      rfl
    rintro k ⟨hk, hg⟩
    by_cases hlt2 : k < i
    · have hkl : k < ps.length := by omega
      have hat2 := eP_at ps k hkl
      by_cases q1 : (ps.getD k (0, 0)).1 = (ps.getD i (0, 0)).1
      · rw [if_pos (fun h => (nodup_at (f := (·.1)) ((0 : Int), (0 : Int))).1 h.1 i hlt k hlt2 q1)]
        simp +contextual (maxSteps := 5000000) only [go_sem, ↓reduceIte, hlt, hlt2, hkl, hat, hat2, q1]
      · by_cases q2 : (ps.getD k (0, 0)).2 = (ps.getD i (0, 0)).2
        · rw [if_pos (fun h => (nodup_at (f := (·.2)) ((0 : Int), (0 : Int))).1 h.2 i hlt k hlt2 q2)]
          simp +contextual (maxSteps := 5000000) only [go_sem, ↓reduceIte, hlt, hlt2, hkl, hat, hat2, q1, q2]
        · simp +contextual (maxSteps := 5000000) only [go_sem, ↓reduceIte, hlt, hlt2, hkl, hat, hat2, q1, q2]
          refine ⟨inR64 (by omega) (by omega), fun _ => ⟨k + 1, by simp, by omega, by omega, fun m hm => ?_⟩⟩
          rcases lt_cases hm with h | rfl
          · exact hg m h
          · exact ⟨q1, q2⟩
    · simp +contextual (maxSteps := 5000000) only [go_sem, ↓reduceIte, hlt, hlt2]
      refine ⟨inR64 (by omega) (by omega), fun _ => ⟨i + 1, by simp, by omega, by omega, fun j hj m hm => ?_⟩⟩
      rcases lt_cases hj with h | rfl
      · exact hf j h m hm
      · exact hg m (by omega)
  have hnd : (ps.map (·.1)).Nodup ∧ (ps.map (·.2)).Nodup := ⟨(nodup_at (f := (·.1)) ((0 : Int), (0 : Int))).2 fun j hj k hk => (hf j (by omega) k hk).1, (nodup_at (f := (·.2)) ((0 : Int), (0 : Int))).2 fun j hj k hk => (hf j (by omega) k hk).2⟩
  rw [if_neg (fun h => h hnd)]
  simp +contextual (maxSteps := 5000000) only [go_sem, ↓reduceIte, hlt]
  clear hlt hf hi
  have hdn := dnF_iff ps
  refine fun _ => M_loopI (fun n : Nat => ⟨[(0, .sl 2 (ps.map eP)), (10, .int .i64 n)], []⟩) (fun n => ps.length - n) (fun n => 1 ≤ n ∧ ∀ j, j + 1 < n → j + 1 < ps.length → ¬ (ps.getD (j + 1) (0, 0)).2 < (ps.getD j (0, 0)).2) 1 ?_ ?_
  · simp +contextual (maxSteps := 5000000) only [go_sem, ↓reduceIte]
    exact ⟨rfl, fun j hj => by omega⟩
  rintro n ⟨hn, hf⟩
  obtain ⟨i, rfl⟩ : ∃ i, n = i + 1 := ⟨n - 1, by omega⟩
  have he : ((i + 1 : Nat) : Int) - 1 = (i : Nat) := by omega
  by_cases hlt : i + 1 < ps.length
  · have hil : i < ps.length := by omega
    have hat := eP_at ps (i + 1) hlt
    have hat2 := eP_at ps i hil
    by_cases q : (ps.getD (i + 1) (0, 0)).2 < (ps.getD i (0, 0)).2
    · rw [if_pos (hdn.2 ⟨i, hlt, q⟩)]
      simp +contextual (maxSteps := 5000000) only [go_sem, ↓reduceIte, hlt, hil, hat, hat2, he, q]
      exact fun _ => inR64 (by omega) (by omega)
    · simp +contextual (maxSteps := 5000000) only [go_sem, ↓reduceIte, hlt, hil, hat, hat2, he, q]
      refine fun _ => ⟨inR64 (by omega) (by omega), fun _ => ⟨inR64 (by omega) (by omega), fun _ => ⟨i + 2, by simp; omega, by omega, by omega, fun j hj hj2 => ?_⟩⟩⟩
      rcases lt_cases (show j < i + 1 by omega) with h | rfl
      · exact hf j (by omega) hj2
      · exact q
  · have h0 : ¬ dnF ps = true := fun h => by
      obtain ⟨j, hj, hq⟩ := hdn.1 h
      exact hf j (by omega) hj hq
    rw [if_neg h0]
    simp +contextual (maxSteps := 5000000) only [go_sem, ↓reduceIte, hlt]
end Go.Proofs.YtknkjakppikjeaaGreat

set_option linter.unusedSimpArgs false
namespace Go.Proofs.YtknkjakppikjeaaGreat
open Go.Tn
set_option maxHeartbeats 8000000
set_option maxRecDepth 100000
/- one more into a sorted list, behind those alike -/
section
variable {α : Type} {le : α → α → Bool} {S : List α} {x d : α}
def insA (le : α → α → Bool) (d : α) (S : List α) (x : α) : Nat → Nat
  | 0 => 0
  | j + 1 => if le (S.getD j d) x = true then j + 1 else insA le d S x j
theorem insA_le : ∀ j, insA le d S x j ≤ j
  | 0 => Nat.le_refl _
  | j + 1 => by
    have := insA_le j
    simp only [insA]; split <;> omega
theorem insA_no : ∀ j i, insA le d S x j ≤ i → i < j → le (S.getD i d) x = false
  | 0, i, _, h => by omega
  | j + 1, i, h1, h2 => by
    simp only [insA] at h1
    split at h1
    · omega
    · rename_i hn
      by_cases e : i = j
      · subst e; simpa using hn
      · exact insA_no j i h1 (by omega)
theorem insA_yes : ∀ j, 0 < insA le d S x j → le (S.getD (insA le d S x j - 1) d) x = true
  | 0, h => by simp [insA] at h
  | j + 1, h => by
    simp only [insA] at h ⊢
    split at h
    · rename_i hy
      rw [if_pos hy]; exact hy
    · rename_i hn
      rw [if_neg hn]; exact insA_yes j h
def insG (le : α → α → Bool) (d : α) (S : List α) (x : α) : List α := S.take (insA le d S x S.length) ++ x :: S.drop (insA le d S x S.length)
theorem srt_snoc (h : Ps.Pre le) (d : α) (X : List α) (x : α) : Ps.srt le (X ++ [x]) = insG le d (Ps.srt le X) x := by
  have hx : Ps.srt le [x] = [x] := Ps.srt_id (by simp)
  rw [← Ps.srt_app h X [x], hx]
  have hS := Ps.srt_sorted h X
  generalize Ps.srt le X = S at *
  unfold insG
  have hle := insA_le (le := le) (d := d) (S := S) (x := x) S.length
  have hno := insA_no (le := le) (d := d) (S := S) (x := x) S.length
  have hys := insA_yes (le := le) (d := d) (S := S) (x := x) S.length
  generalize insA le d S x S.length = kk at *
  have hget := List.pairwise_iff_getElem.1 hS
  have mt : ∀ y ∈ S.take kk, ∃ i, ∃ hi : i < S.length, i < kk ∧ y = S[i] := fun y hy => by
    obtain ⟨i, hi, rfl⟩ := List.getElem_of_mem hy
    have hi' : i < kk ∧ i < S.length := by simp at hi; omega
    exact ⟨i, hi'.2, hi'.1, by simp⟩
  have md : ∀ y ∈ S.drop kk, ∃ i, ∃ hi : i < S.length, kk ≤ i ∧ y = S[i] := fun y hy => by
    obtain ⟨i, hi, rfl⟩ := List.getElem_of_mem hy
    have hi' : kk + i < S.length := by simp at hi; omega
    exact ⟨kk + i, hi', by omega, by simp⟩
  have hxle : ∀ y ∈ S.take kk, le y x = true := fun y hy => by
    obtain ⟨i, hi, hk, rfl⟩ := mt y hy
    have h1 := hys (by omega)
    rw [List.getD_eq_getElem?_getD, List.getElem?_eq_getElem (show kk - 1 < S.length by omega)] at h1
    simp only [Option.getD_some] at h1
    by_cases e : i = kk - 1
    · subst e; exact h1
    · exact h.tr _ _ _ (hget i (kk - 1) hi (by omega) (by omega)) h1
  have hsp := Ps.srt_split h (S.take kk) (S.drop kk) [x] [] (fun a ha b hb => by
      obtain ⟨i, hi, hk, rfl⟩ := mt a ha
      obtain ⟨j, hj, hk', rfl⟩ := md b hb
      exact hget i j hi hj (by omega)) (by simp) (fun a ha b hb => by
      obtain rfl : a = x := by simpa using ha
      obtain ⟨j, hj, hk', rfl⟩ := md b hb
      have := hno j hk' hj
      rwa [List.getD_eq_getElem?_getD, List.getElem?_eq_getElem hj] at this) (by simp)
  rw [List.take_append_drop, List.append_nil, List.append_nil] at hsp
  rw [hsp, Ps.srt_id, Ps.srt_id]
  · simp
  · exact hS.sublist (List.drop_sublist _ _)
  · refine List.pairwise_append.2 ⟨hS.sublist (List.take_sublist _ _), by simp, fun a ha b hb => ?_⟩
    obtain rfl : b = x := by simpa using hb
    exact hxle a ha
end
theorem kAt_eq (l : List St6) (x : St6) : ∀ i, kAt l x i = insA leJ default l x i
  | 0 => rfl
  | i + 1 => by
    have h1 := kAt_eq l x i
    have hb : (befF x (l.getD i default) = true) ↔ ¬ leJ (l.getD i default) x = true := by
      rw [leJ_iff]; simp only [befF, Bool.or_eq_true, Bool.and_eq_true, decide_eq_true_eq]; omega
    simp only [kAt, insA, h1]
    by_cases q : leJ (l.getD i default) x = true
    · rw [if_neg (fun h => hb.1 h q), if_pos q]
    · rw [if_pos (hb.2 q), if_neg q]
theorem putF_eq (l : List St6) (x : St6) : putF l x = insG leJ default l x := by unfold putF insG; rw [kAt_eq]
def c_rPut (caps args : List D) : Prop × Out := match caps, args with
  | [], [.sl 2 rows, .agg [.int .i64 a, .int .i64 b]] => (rows = (rows.map dP).map eP ∧ rows.length < 1000000000, .own 45 2 ((insG leB (0, 0) (rows.map dP) (a, b)).map eP))
  | _, _ => (False, .ret .any)
theorem fc_rPut (l : List (Int × Int)) (a b : Int) (hl : l.length < 1000000000) : FC Tryz.prog 82 [] [.sl 2 (l.map eP), .agg [.int .i64 a, .int .i64 b]] (.own 45 2 ((insG leB (0, 0) l (a, b)).map eP)) := by
  unfold insG
  refine fc_M (fn := Tryz.f82) (C := (tab [] [])) (rs := [4]) mixed (by kernel_rfl) (by kernel_rfl) rfl rfl (by kernel_rfl) (by intro ys h; cases h) ?_
  simp +contextual (maxSteps := 5000000) only [go_sem, ↓reduceIte]
  refine M_loopI (fun i : Nat => ⟨[(0, .sl 2 (l.map eP)), (3, .loc 3 0), (5, .int .i64 (insA leB (0, 0) l (a, b) i)), (6, .int .i64 i)], [(3, .blk [.int .i64 a, .int .i64 b] false)]⟩) (fun i => l.length - i) (fun i => i ≤ l.length) 0 ?_ ?_
  · simp +contextual (maxSteps := 5000000) only [go_sem, ↓reduceIte, insA]
    rfl
  · intro i hi
    have hk := insA_le (le := leB) (d := (0, 0)) (S := l) (x := (a, b)) i
    by_cases hlt : i < l.length
    · have hat := eP_at l i hlt
      have hs : insA leB (0, 0) l (a, b) (i + 1) = if leB (l.getD i (0, 0)) (a, b) = true then i + 1 else insA leB (0, 0) l (a, b) i := rfl
      by_cases q : (l.getD i (0, 0)).2 ≤ b
      · have q2 : leB (l.getD i (0, 0)) (a, b) = true := decide_eq_true q
        rw [if_pos q2] at hs
        simp +contextual (maxSteps := 5000000) only [go_sem, ↓reduceIte, eI_at, eI_set, List.length_set, tn_add, tn_add1, tn_sub, tn_sub1, sh1, sh1b, half_cast, hlt, hat, q]
        refine fun _ => ⟨inR64 (by omega) (by omega), fun _ => ⟨i + 1, ⟨by rw [hs]; simp, by simp⟩, by omega, by omega⟩⟩
      · have q2 : ¬ leB (l.getD i (0, 0)) (a, b) = true := fun h => q (of_decide_eq_true h)
        rw [if_neg q2] at hs
        simp +contextual (maxSteps := 5000000) only [go_sem, ↓reduceIte, eI_at, eI_set, List.length_set, tn_add, tn_add1, tn_sub, tn_sub1, sh1, sh1b, half_cast, hlt, hat, q]
        refine fun _ => ⟨inR64 (by omega) (by omega), fun _ => ⟨i + 1, ⟨by rw [hs], by simp⟩, by omega, by omega⟩⟩
    · obtain rfl : i = l.length := by omega
      simp +contextual (maxSteps := 5000000) only [go_sem, ↓reduceIte, eI_at, eI_set, List.length_set, tn_add, tn_add1, tn_sub, tn_sub1, sh1, sh1b, half_cast, hlt, Nat.lt_irrefl, Int.toNat_zero, Int.reduceToNat, Nat.sub_zero, Nat.le_refl, List.length_drop]
      generalize insA leB (0, 0) l (a, b) l.length = k at hk
      refine fun _ => ⟨⟨by omega, hk⟩, fun _ => ⟨by omega, fun _ => ⟨by omega, fun _ => ⟨by omega, fun _ => ?_⟩⟩⟩⟩
      have h1 : (l.map eP).drop k = (l.drop k).map eP := by rw [List.map_drop]
      have h2 : (l.map eP).take k = (l.take k).map eP := by rw [List.map_take]
      have h3 : ((l.map eP).drop k).take (l.length - k) = (l.drop k).map eP := by rw [h1]; exact List.take_of_length_le (by simp)
      rw [h2, h3]
      simp [eP]
theorem st_rPut : StC Tryz.prog 82 c_rPut := by
  intro caps args; unfold c_rPut; split
  · rename_i rows a b
    rintro ⟨h1, h2⟩
    have := fc_rPut (rows.map dP) a b (by simpa using h2)
    rw [← h1] at this
    exact this
  · exact fun h => h.elim
end Go.Proofs.YtknkjakppikjeaaGreat

set_option linter.unusedSimpArgs false
namespace Go.Proofs.YtknkjakppikjeaaGreat
open Go.Tn
set_option maxHeartbeats 8000000
set_option maxRecDepth 100000
theorem turnP_succ {l : List (Int × Int)} {n : Nat} (h : n < l.length) : turnP (l.take (n + 1)) = insG leB (0, 0) (turnP (l.take n)) ((l.getD n (0, 0)).2, (l.getD n (0, 0)).1) := by
  unfold turnP
  rw [← srt_snoc pre_leB, List.take_add_one, List.getElem?_eq_getElem h, List.getD_eq_getElem?_getD, List.getElem?_eq_getElem h, List.map_append]; rfl
theorem fc_rTurnP (l : List (Int × Int)) (hl : l.length < 1000000000) : FC Tryz.prog 32 [] [.sl 2 (l.map eP)] (.ret (.sl 2 ((turnP l).map eP))) := by
  refine fc_M (fn := Tryz.f32) (C := (tab [(82, c_rPut)] [])) (rs := [2]) mixed (by kernel_rfl) (by kernel_rfl) rfl rfl (by kernel_rfl) (by intro ys h; cases h) ?_
  simp +contextual (maxSteps := 5000000) only [go_sem, ↓reduceIte]
  have sn : turnP (l.take 0) = [] := by simp [turnP, Ps.srt]
  refine M_loopI (fun n : Nat => ⟨[(0, .sl 2 (l.map eP)), (3, .sl 2 ((turnP (l.take n)).map eP)), (4, .int .i64 n)], []⟩) (fun n => l.length - n) (fun n => n ≤ l.length) 0 ?_ ?_
  · simp +contextual (maxSteps := 5000000) only [go_sem, ↓reduceIte]
    exact ⟨by rw [show turnP [] = [] from sn]; rfl, rfl⟩
  · intro n hn
    by_cases hlt : n < l.length
    · have hat := eP_at l n hlt
      have hs := turnP_succ hlt
      have e1 := turnP_len (l.take n)
      simp +contextual (maxSteps := 5000000) only [go_sem, ↓reduceIte, eI_at, eI_set, List.length_set, tn_add, tn_add1, tn_sub, tn_sub1, sh1, sh1b, half_cast, hlt, hat, c_rPut, st_rPut, dP_eP]
      exact fun _ => ⟨by rw [e1, List.length_take]; omega, inR64 (by omega) (by omega), fun _ => ⟨n + 1, ⟨by rw [hs], by simp⟩, by omega, by omega⟩⟩
    · obtain rfl : n = l.length := by omega
      simp +contextual (maxSteps := 5000000) only [go_sem, ↓reduceIte, Nat.lt_irrefl, List.take_length]
def c_rTurnP (caps args : List D) : Prop × Out := match caps, args with
  | [], [.sl 2 rows] => (rows = (rows.map dP).map eP ∧ rows.length < 1000000000, .ret (.sl 2 ((turnP (rows.map dP)).map eP)))
  | _, _ => (False, .ret .any)
theorem st_rTurnP : StC Tryz.prog 32 c_rTurnP := by
  intro caps args; unfold c_rTurnP; split
  · rename_i rows
    rintro ⟨h1, h2⟩
    have := fc_rTurnP (rows.map dP) (by simpa using h2)
    rw [← h1] at this
    exact this
  · exact fun h => h.elim
theorem turnSs_succ {l : List St6} {n : Nat} (h : n < l.length) : turnSs (l.take (n + 1)) = putF (turnSs (l.take n)) (turnS (l.getD n default)) := by
  rw [putF_eq]
  unfold turnSs
  rw [← srt_snoc pre_leJ, List.take_add_one, List.getElem?_eq_getElem h, List.getD_eq_getElem?_getD, List.getElem?_eq_getElem h, List.map_append]; rfl
theorem fc_putR (l : List St6) (x : St6) (hl : l.length < 1000000000) : FC Tryz.prog 31 [] [.sl 6 (l.map eD6), .agg (eD6 x)] (.ret (.sl 6 ((putF l x).map eD6))) := by
  unfold putF
  have ex : eD6 x = [.int .i64 x.i, .int .i64 x.j, .int .i64 x.p, .int .i64 x.q, .str x.o, .str x.n] := rfl
  refine fc_M (fn := Tryz.f31) (C := (tab [(81, c_bef)] [])) (rs := [4]) mixed (by kernel_rfl) (by kernel_rfl) rfl rfl (by kernel_rfl) (by intro ys h; cases h) ?_
  simp +contextual (maxSteps := 5000000) only [go_sem, ↓reduceIte, ex]
  refine M_loopI (fun i : Nat => ⟨[(0, .sl 6 (l.map eD6)), (3, .loc 3 0), (5, .int .i64 (kAt l x i)), (6, .int .i64 i)], [(3, .blk [.int .i64 x.i, .int .i64 x.j, .int .i64 x.p, .int .i64 x.q, .str x.o, .str x.n] false)]⟩) (fun i => l.length - i) (fun i => i ≤ l.length) 0 ?_ ?_
  · simp +contextual (maxSteps := 5000000) only [go_sem, ↓reduceIte, kAt]
    rfl
  · intro i hi
    have hk := kAt_le l x i
    by_cases hlt : i < l.length
    · have hat := eD6_at l i hlt
      have hb : befF ⟨x.i, x.j, x.p, x.q, x.o, x.n⟩ ⟨(l.getD i default).i, (l.getD i default).j, (l.getD i default).p, (l.getD i default).q, (l.getD i default).o, (l.getD i default).n⟩ = befF x (l.getD i default) := rfl
      have hs : kAt l x (i + 1) = if befF x (l.getD i default) = true then kAt l x i else i + 1 := rfl
      cases q : befF x (l.getD i default)
      · rw [q] at hs
        simp +contextual (maxSteps := 5000000) only [go_sem, ↓reduceIte, eI_at, eI_set, List.length_set, tn_add, tn_add1, tn_sub, tn_sub1, sh1, sh1b, half_cast, hlt, hat, c_bef, st_bef, hb, q]
        refine fun _ => ⟨inR64 (by omega) (by omega), fun _ => ⟨i + 1, ⟨by rw [hs]; simp, by simp⟩, by omega, by omega⟩⟩
      · rw [q] at hs
        simp +contextual (maxSteps := 5000000) only [go_sem, ↓reduceIte, eI_at, eI_set, List.length_set, tn_add, tn_add1, tn_sub, tn_sub1, sh1, sh1b, half_cast, hlt, hat, c_bef, st_bef, hb, q]
        refine fun _ => ⟨inR64 (by omega) (by omega), fun _ => ⟨i + 1, ⟨by rw [hs]; simp, by simp⟩, by omega, by omega⟩⟩
    · obtain rfl : i = l.length := by omega
      simp +contextual (maxSteps := 5000000) only [go_sem, ↓reduceIte, eI_at, eI_set, List.length_set, tn_add, tn_add1, tn_sub, tn_sub1, sh1, sh1b, half_cast, hlt, Nat.lt_irrefl, Int.toNat_zero, Int.reduceToNat, Nat.sub_zero, Nat.le_refl, List.length_drop]
      refine fun _ => ⟨⟨by omega, hk⟩, fun _ => ⟨by omega, fun _ => ⟨by omega, fun _ => ⟨by omega, fun _ => ?_⟩⟩⟩⟩
      have h1 : (l.map eD6).drop (kAt l x l.length) = (l.drop (kAt l x l.length)).map eD6 := by rw [List.map_drop]
      have h2 : (l.map eD6).take (kAt l x l.length) = (l.take (kAt l x l.length)).map eD6 := by rw [List.map_take]
      have h3 : ((l.map eD6).drop (kAt l x l.length)).take (l.length - kAt l x l.length) = (l.drop (kAt l x l.length)).map eD6 := by rw [h1]; exact List.take_of_length_le (by simp)
      rw [h2, h3]
      simp [eD6]
def c_putR (caps args : List D) : Prop × Out := match caps, args with
  | [], [.sl 6 rows, .agg [.int .i64 a, .int .i64 b, .int .i64 c, .int .i64 d, .str e, .str f]] => (rows = (rows.map d6).map eD6 ∧ rows.length < 1000000000, .ret (.sl 6 ((putF (rows.map d6) ⟨a, b, c, d, e, f⟩).map eD6)))
  | _, _ => (False, .ret .any)
theorem st_putR : StC Tryz.prog 31 c_putR := by
  intro caps args; unfold c_putR; split
  · rename_i rows a b c d e f
    rintro ⟨h1, h2⟩
    have := fc_putR (rows.map d6) ⟨a, b, c, d, e, f⟩ (by simpa using h2)
    rw [← h1] at this
    exact this
  · exact fun h => h.elim
theorem g6 (l : List St6) : gndL (l.map eD6).flatten = true := gndR_of eD6 (fun _ => rfl) l
theorem fc_rTurn (d : Dl) (h : okDl d) : FC Tryz.prog 11 [] [.agg (eDl d)] (.ret (.agg (eDl (turnD d)))) := by
  obtain ⟨hA, hB, hco, hro, hde, hin, hse, hlo, hga, hce⟩ := h
  have ty : tyOf Tryz.prog 31 = ⟨.struct, [(.slice none 0 0), (.slice none 0 0), (.slice none 0 0), (.int .i64 0), (.int .i64 0), (.slice none 0 0), (.slice none 0 0), (.slice none 0 0), (.slice none 0 0), (.slice none 0 0), (.slice none 0 0)], [(0, 1, false), (1, 1, false), (2, 1, false), (3, 1, false), (4, 1, false), (5, 1, false), (6, 1, false), (7, 1, false), (8, 1, false), (9, 1, false), (10, 1, false)], 0, 0, false, 0, 232⟩ := by kernel_rfl
  have hf := tyOf_fact (P := Tryz.prog) (t := 31) (by rw [ty]; intro h; cases h)
  rw [ty] at hf
  refine fcc_of (fn := Tryz.f11) (rt := 31) (r := 2) (i := 2) (C := tab [(31, c_putR), (32, c_rTurnP)] []) mixed (by kernel_rfl) (by kernel_rfl) rfl rfl hf (by kernel_rfl) (by intro ys h; cases h) ?_
  unfold eDl
  simp +contextual (maxSteps := 5000000) only [go_sem, ↓reduceIte]
  have sn : turnSs (d.sets.take 0) = [] := by simp [turnSs, Ps.srt]
  refine M_loopI (fun n : Nat => ⟨[(1, .loc 1 0), (2, .loc 2 0), (3, .sl 6 ((turnSs (d.sets.take n)).map eD6)), (4, .int .i64 n)], [(1, .blk (eDl d) false), (2, .blk eZl false)]⟩) (fun n => d.sets.length - n) (fun n => n ≤ d.sets.length) 0 ?_ ?_
  · simp +contextual (maxSteps := 5000000) only [go_sem, ↓reduceIte, eDl, eZl, List.map_nil]
    exact ⟨by rw [show turnSs [] = [] from sn]; rfl, rfl⟩
  · intro n hn
    by_cases hlt : n < d.sets.length
    · have hat := eD6_at d.sets n hlt
      have hs := turnSs_succ hlt
      have e1 := turnSs_len (d.sets.take n)
      simp +contextual (maxSteps := 5000000) only [go_sem, ↓reduceIte, eI_at, eI_set, List.length_set, tn_add, tn_add1, tn_sub, tn_sub1, sh1, sh1b, half_cast, hlt, hat, eDl, eZl, c_putR, st_putR, d6_eD6, g6]
      have e2 : (⟨(d.sets.getD n default).j, (d.sets.getD n default).i, (d.sets.getD n default).q, (d.sets.getD n default).p, (d.sets.getD n default).n, (d.sets.getD n default).o⟩ : St6) = turnS (d.sets.getD n default) := rfl
      exact fun _ => ⟨by rw [e1, List.length_take]; omega, inR64 (by omega) (by omega), fun _ => ⟨n + 1, ⟨by rw [e2, hs], by simp⟩, by omega, by omega⟩⟩
    · obtain rfl : n = d.sets.length := by omega
      unfold turnD eDl
      simp +contextual (maxSteps := 5000000) only [go_sem, ↓reduceIte, Nat.lt_irrefl, List.take_length, eZl, c_rTurnP, st_rTurnP, dP_eP, finC, finCB, locR]
      exact fun _ => ⟨by omega, by omega⟩
end Go.Proofs.YtknkjakppikjeaaGreat
