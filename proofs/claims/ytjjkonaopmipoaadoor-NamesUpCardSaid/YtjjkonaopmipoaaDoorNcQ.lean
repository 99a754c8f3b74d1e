/- Names, in plain Lean: what is above what; patterns, within and meeting. -/
import Derived.Test.YtjjkonaopmipoaaDoorNcP
namespace Go.Proofs.YtjjkonaopmipoaaDoor
namespace Nam
/-- All that is above, nearest first. -/
def aboveQ (l : Str) : List Str := above (l.length + 1) l
theorem belowB_mem {s o : Str} : belowB s o = true ↔ o ∈ aboveQ s := by
  unfold belowB aboveQ; rw [List.contains_eq_mem, decide_eq_true_eq]
theorem aboveQ_step {s : Str} (h : up s ≠ []) : aboveQ s = up s :: aboveQ (up s) := above_step s h
theorem aboveQ_end {s : Str} (h : up s = []) : aboveQ s = [] := above_end s h
theorem aboveQ_len : ∀ (n : Nat) (s a : Str), s.length < n → a ∈ aboveQ s → a.length < s.length ∧ a ≠ []
  | 0, _, _, h, _ => absurd h (Nat.not_lt_zero _)
  | n + 1, s, a, h, ha => by
    by_cases hu : up s = []
    · rw [aboveQ_end hu] at ha; cases ha
    · rw [aboveQ_step hu] at ha
      have hl := up_lt s hu
      rcases List.mem_cons.1 ha with rfl | ha
      · exact ⟨hl, hu⟩
      · have := aboveQ_len n (up s) a (by omega) ha
        exact ⟨by omega, this.2⟩
theorem below_len {s a : Str} (h : belowB s a = true) : a.length < s.length ∧ a ≠ [] := aboveQ_len _ s a (Nat.lt_succ_self _) (belowB_mem.1 h)
/-- What is above something above it is above it; of two above it one is above the other. -/
theorem aboveQ_trans : ∀ (n : Nat) (s a b : Str), s.length < n → a ∈ aboveQ s → b ∈ aboveQ a → b ∈ aboveQ s
  | 0, _, _, _, h, _, _ => absurd h (Nat.not_lt_zero _)
  | n + 1, s, a, b, h, ha, hb => by
    by_cases hu : up s = []
    · rw [aboveQ_end hu] at ha; cases ha
    · rw [aboveQ_step hu] at ha ⊢
      have hl := up_lt s hu
      rcases List.mem_cons.1 ha with rfl | ha
      · exact List.mem_cons_of_mem _ hb
      · exact List.mem_cons_of_mem _ (aboveQ_trans n (up s) a b (by omega) ha hb)
theorem below_trans {s a b : Str} (h1 : belowB s a = true) (h2 : belowB a b = true) : belowB s b = true :=
  belowB_mem.2 (aboveQ_trans _ s a b (Nat.lt_succ_self _) (belowB_mem.1 h1) (belowB_mem.1 h2))
theorem aboveQ_chain : ∀ (n : Nat) (s a b : Str), s.length < n → a ∈ aboveQ s → b ∈ aboveQ s → a = b ∨ b ∈ aboveQ a ∨ a ∈ aboveQ b
  | 0, _, _, _, h, _, _ => absurd h (Nat.not_lt_zero _)
  | n + 1, s, a, b, h, ha, hb => by
    by_cases hu : up s = []
    · rw [aboveQ_end hu] at ha; cases ha
    · rw [aboveQ_step hu] at ha hb
      have hl := up_lt s hu
      rcases List.mem_cons.1 ha with rfl | ha
      · rcases List.mem_cons.1 hb with rfl | hb
        · exact .inl rfl
        · exact .inr (.inl hb)
      · rcases List.mem_cons.1 hb with rfl | hb
        · exact .inr (.inr ha)
        · exact aboveQ_chain n (up s) a b (by omega) ha hb
theorem below_chain {s a b : Str} (h1 : belowB s a = true) (h2 : belowB s b = true) : a = b ∨ belowB a b = true ∨ belowB b a = true := by
  rcases aboveQ_chain _ s a b (Nat.lt_succ_self _) (belowB_mem.1 h1) (belowB_mem.1 h2) with h | h | h
  · exact .inl h
  · exact .inr (.inl (belowB_mem.2 h))
  · exact .inr (.inr (belowB_mem.2 h))
theorem below_up {s b : Str} (hu : up s ≠ []) : belowB s b = true ↔ b = up s ∨ belowB (up s) b = true := by
  rw [belowB_mem, belowB_mem, aboveQ_step hu, List.mem_cons]
theorem cut_cons {t : Str} {x : Str} (hx : ∀ c ∈ x, c ≠ (46 : UInt8)) : cut (x ++ 46 :: t) = x :: cut t := by
  induction x with
  | nil => simp [cut]
  | cons c x ih =>
    have hc : c ≠ 46 := hx c (by simp)
    have := ih (fun d hd => hx d (by simp [hd]))
    rw [List.cons_append, cut, if_neg hc, this]
theorem afterDot_cons {t : Str} {x : Str} (hx : ∀ c ∈ x, c ≠ (46 : UInt8)) : afterDot (x ++ 46 :: t) = t := by
  induction x with
  | nil => simp [afterDot]
  | cons c x ih =>
    have hc : c ≠ 46 := hx c (by simp)
    rw [List.cons_append, afterDot, if_neg hc]
    exact ih (fun d hd => hx d (by simp [hd]))
/-- A label more ahead of a name. -/
theorem isB_cons {x t : Str} (hx : ∀ c ∈ x, c ≠ (46 : UInt8)) : isB (x ++ 46 :: t) = true ↔ labelB x = true ∧ isB t = true ∧ (x ++ 46 :: t).length ≤ 64 ∧ (cut t).length < 8 := by
  rw [isB_iff, cut_cons hx, isB_iff]
  simp only [List.length_cons, List.mem_cons, List.length_append]
  constructor
  · rintro ⟨h1, h2, h3⟩
    exact ⟨h3 x (.inl rfl), ⟨by omega, by omega, fun y hy => h3 y (.inr hy)⟩, h1, by omega⟩
  · rintro ⟨h1, ⟨h2, h3, h4⟩, h5, h6⟩
    exact ⟨h5, by omega, fun y hy => hy.elim (fun e => e ▸ h1) (h4 y)⟩
theorem up_cons {x t : Str} (hx : ∀ c ∈ x, c ≠ (46 : UInt8)) (h : isB (x ++ 46 :: t) = true) : up (x ++ 46 :: t) = t := by
  unfold up; rw [if_pos h, afterDot_cons hx]
/-- A star matches the names of one letter ahead of what it is of. -/
theorem star_one {a : Str} {c : UInt8} (hc : labelB [c] = true) (hd : c ≠ 46) (h : starB (42 :: 46 :: a) = true) :
    isB (c :: 46 :: a) = true ∧ up (c :: 46 :: a) = a := by
  obtain ⟨t, ht, hn⟩ := (starB_iff _).1 h
  simp at ht; subst ht
  obtain ⟨h1, h2, h3⟩ := nameB_iff.1 hn
  have hx : ∀ d ∈ [c], d ≠ (46 : UInt8) := by intro d hd'; simp at hd'; rw [hd']; exact hd
  have hB : isB ([c] ++ 46 :: a) = true := (isB_cons hx).2 ⟨hc, isB_iff.2 ⟨by omega, by omega, h3⟩, by simp; omega, by omega⟩
  exact ⟨hB, up_cons hx hB⟩
theorem star_form {p : Str} (h : starB p = true) : ∃ a, p = 42 :: 46 :: a ∧ starOf p = a := by
  obtain ⟨t, rfl, _⟩ := (starB_iff p).1 h
  exact ⟨t, rfl, by rw [starOf_eq h]; rfl⟩
theorem rpat_cases {p : Str} (h : rpatB p = true) : isB p = true ∨ starB p = true := by
  unfold rpatB at h; rcases Bool.or_eq_true _ _ ▸ h with h | h
  · exact .inr h
  · exact .inl h
theorem rmatch_name {p s : Str} (hp : isB p = true) : rmatchB p s = (isB s && p == s) := by
  unfold rmatchB; rw [star_false_of_name hp]; cases isB s <;> simp
theorem rmatch_star {p s : Str} (hp : starB p = true) : rmatchB p s = (isB s && belowB s (starOf p)) := by
  unfold rmatchB; rw [hp]; cases isB s <;> simp
theorem rwithin_name {p q : Str} (hp : isB p = true) (hq : rpatB q = true) : rwithinB p q = rmatchB q p := by
  unfold rwithinB; rw [star_false_of_name hp, hq]; unfold rpatB; rw [hp]; simp
theorem rwithin_star {p q : Str} (hp : starB p = true) (hq : rpatB q = true) : rwithinB p q = (starB q && (starOf p == starOf q || belowB (starOf p) (starOf q))) := by
  unfold rwithinB; rw [hp, hq]; unfold rpatB; rw [hp]; simp
theorem rwithin_pats {p q : Str} (h : rwithinB p q = true) : rpatB p = true ∧ rpatB q = true := by
  unfold rwithinB at h
  cases hp : rpatB p
  · rw [hp] at h; simp at h
  · cases hq : rpatB q
    · rw [hq] at h; simp at h
    · exact ⟨rfl, rfl⟩
theorem within_match {p q s : Str} (h : rwithinB p q = true) (hm : rmatchB p s = true) : rmatchB q s = true := by
  obtain ⟨hp, hq⟩ := rwithin_pats h
  rcases rpat_cases hp with hp | hp
  · rw [rmatch_name hp] at hm
    obtain ⟨_, e⟩ := Bool.and_eq_true _ _ ▸ hm
    rw [← beq_iff_eq.1 e, ← rwithin_name hp hq]; exact h
  · rw [rmatch_star hp] at hm
    obtain ⟨hs, hb⟩ := Bool.and_eq_true _ _ ▸ hm
    rw [rwithin_star hp hq] at h
    obtain ⟨hsq, hu⟩ := Bool.and_eq_true _ _ ▸ h
    rw [rmatch_star hsq, hs, Bool.true_and]
    rcases Bool.or_eq_true _ _ ▸ hu with hu | hu
    · rw [← beq_iff_eq.1 hu]; exact hb
    · exact below_trans hb hu
theorem label_x : labelB [120] = true ∧ labelB [121] = true := by decide
/-- Where a star is not within another pattern, the names of x or y ahead show it. -/
theorem within_shown {p q : Str} (hp : starB p = true) (hq : rpatB q = true) (h : rwithinB p q = false) :
    rmatchB p (120 :: p.drop 1) = true ∧ rmatchB p (121 :: p.drop 1) = true ∧ (rmatchB q (120 :: p.drop 1) = false ∨ rmatchB q (121 :: p.drop 1) = false) := by
  obtain ⟨a, rfl, ha⟩ := star_form hp
  have hne := (starOf_name hp).2
  rw [ha] at hne
  obtain ⟨x1, x2⟩ := star_one (c := 120) label_x.1 (by decide) hp
  obtain ⟨y1, y2⟩ := star_one (c := 121) label_x.2 (by decide) hp
  show rmatchB (42 :: 46 :: a) (120 :: 46 :: a) = true ∧ rmatchB (42 :: 46 :: a) (121 :: 46 :: a) = true ∧ (rmatchB q (120 :: 46 :: a) = false ∨ rmatchB q (121 :: 46 :: a) = false)
  refine ⟨?_, ?_, ?_⟩
  · rw [rmatch_star hp, x1, ha, Bool.true_and, below_up (by rw [x2]; exact hne), x2]; exact .inl rfl
  · rw [rmatch_star hp, y1, ha, Bool.true_and, below_up (by rw [y2]; exact hne), y2]; exact .inl rfl
  · rcases rpat_cases hq with hnq | hsq
    · rw [rmatch_name hnq, rmatch_name hnq]
      by_cases e : q = 120 :: 46 :: a
      · right; rw [e]; simp
      · left; rw [show (q == 120 :: 46 :: a) = false from by rw [beq_eq_false_iff_ne]; exact e, Bool.and_false]
    · left
      rw [rwithin_star hp hq, hsq, ha, Bool.true_and] at h
      rw [rmatch_star hsq, x1, Bool.true_and, Bool.eq_false_iff]
      intro hb
      rw [below_up (by rw [x2]; exact hne), x2] at hb
      rcases hb with hb | hb
      · rw [hb] at h; simp at h
      · rw [hb] at h; simp at h
theorem star_len {p : Str} (h : starB p = true) : 3 ≤ p.length := by
  unfold starB at h; simp only [Bool.and_eq_true, decide_eq_true_eq] at h; exact h.1.1.1.1.1
theorem match_pat {p s : Str} (h : rmatchB p s = true) : rpatB p = true := by
  unfold rpatB
  cases hp : starB p
  · unfold rmatchB at h; rw [hp] at h
    cases hs : isB s
    · rw [hs] at h; simp at h
    · rw [hs] at h; simp at h; rw [h, hs]; rfl
  · rfl
theorem match_meets {p q s : Str} (h1 : rmatchB p s = true) (h2 : rmatchB q s = true) : rwithinB p q = true ∨ rwithinB q p = true := by
  have hp := match_pat h1
  have hq := match_pat h2
  rcases rpat_cases hp with hnp | hsp
  · rw [rmatch_name hnp] at h1
    obtain ⟨_, e⟩ := Bool.and_eq_true _ _ ▸ h1
    left; rw [rwithin_name hnp hq, beq_iff_eq.1 e]; exact h2
  · rcases rpat_cases hq with hnq | hsq
    · rw [rmatch_name hnq] at h2
      obtain ⟨_, e⟩ := Bool.and_eq_true _ _ ▸ h2
      right; rw [rwithin_name hnq hp, beq_iff_eq.1 e]; exact h1
    · rw [rmatch_star hsp] at h1
      rw [rmatch_star hsq] at h2
      obtain ⟨_, b1⟩ := Bool.and_eq_true _ _ ▸ h1
      obtain ⟨_, b2⟩ := Bool.and_eq_true _ _ ▸ h2
      rcases below_chain b1 b2 with e | e | e
      · left; rw [rwithin_star hsp hq, hsq, e]; simp
      · left; rw [rwithin_star hsp hq, hsq, e]; simp
      · right; rw [rwithin_star hsq hp, hsp, e]; simp
/-- Where one is within the other there is a name that both match: itself, or x ahead of what it is a star of. -/
theorem within_name {p q : Str} (h : rwithinB p q = true) : (isB p = true ∧ rmatchB p p = true ∧ rmatchB q p = true) ∨
    (isB p = false ∧ 2 < p.length ∧ rmatchB p (120 :: p.drop 1) = true ∧ rmatchB q (120 :: p.drop 1) = true) := by
  obtain ⟨hp, hq⟩ := rwithin_pats h
  rcases rpat_cases hp with hnp | hsp
  · left; exact ⟨hnp, by rw [rmatch_name hnp, hnp]; simp, by rw [← rwithin_name hnp hq]; exact h⟩
  · right
    have hl := star_len hsp
    have hm : rmatchB p (120 :: p.drop 1) = true := by
      obtain ⟨a, rfl, ha⟩ := star_form hsp
      have hne := (starOf_name hsp).2
      rw [ha] at hne
      obtain ⟨x1, x2⟩ := star_one (c := 120) label_x.1 (by decide) hsp
      show rmatchB (42 :: 46 :: a) (120 :: 46 :: a) = true
      rw [rmatch_star hsp, x1, ha, Bool.true_and, below_up (by rw [x2]; exact hne), x2]; exact .inl rfl
    exact ⟨star_not_name hsp, by omega, hm, within_match h hm⟩
theorem within_refl (p : Str) : rwithinB p p = rpatB p := by
  cases hp : rpatB p
  · rw [Bool.eq_false_iff]; intro h; rw [(rwithin_pats h).1] at hp; cases hp
  · rcases rpat_cases hp with hnp | hsp
    · rw [rwithin_name hnp hp, rmatch_name hnp, hnp]; simp
    · rw [rwithin_star hsp hp, hsp]; simp
theorem within_trans {p q o : Str} (h1 : rwithinB p q = true) (h2 : rwithinB q o = true) : rwithinB p o = true := by
  obtain ⟨hp, hq⟩ := rwithin_pats h1
  obtain ⟨_, ho⟩ := rwithin_pats h2
  rcases rpat_cases hp with hnp | hsp
  · rw [rwithin_name hnp hq] at h1
    rw [rwithin_name hnp ho]
    exact within_match h2 h1
  · rw [rwithin_star hsp hq] at h1
    obtain ⟨hsq, u1⟩ := Bool.and_eq_true _ _ ▸ h1
    rw [rwithin_star hsq ho] at h2
    obtain ⟨hso, u2⟩ := Bool.and_eq_true _ _ ▸ h2
    rw [rwithin_star hsp ho, hso, Bool.true_and]
    rcases Bool.or_eq_true _ _ ▸ u1 with u1 | u1
    · rw [beq_iff_eq.1 u1]; exact u2
    · rcases Bool.or_eq_true _ _ ▸ u2 with u2 | u2
      · rw [← beq_iff_eq.1 u2, u1]; simp
      · rw [below_trans u1 u2]; simp
theorem within_anti {p q : Str} (h1 : rwithinB p q = true) (h2 : rwithinB q p = true) : p = q := by
  obtain ⟨hp, hq⟩ := rwithin_pats h1
  rcases rpat_cases hp with hnp | hsp
  · rcases rpat_cases hq with hnq | hsq
    · rw [rwithin_name hnp hq, rmatch_name hnq] at h1
      obtain ⟨_, e⟩ := Bool.and_eq_true _ _ ▸ h1
      exact (beq_iff_eq.1 e).symm
    · rw [rwithin_star hsq hp, star_false_of_name hnp] at h2; cases h2
  · rcases rpat_cases hq with hnq | hsq
    · rw [rwithin_star hsp hq, star_false_of_name hnq] at h1; cases h1
    · rw [rwithin_star hsp hq, hsq, Bool.true_and] at h1
      rw [rwithin_star hsq hp, hsp, Bool.true_and] at h2
      have e : starOf p = starOf q := by
        rcases Bool.or_eq_true _ _ ▸ h1 with u1 | u1
        · exact beq_iff_eq.1 u1
        · rcases Bool.or_eq_true _ _ ▸ h2 with u2 | u2
          · exact (beq_iff_eq.1 u2).symm
          · have a1 := (below_len u1).1; have a2 := (below_len u2).1; omega
      obtain ⟨a, rfl, ha⟩ := star_form hsp
      obtain ⟨b, rfl, hb⟩ := star_form hsq
      rw [ha, hb] at e; rw [e]
end Nam
end Go.Proofs.YtjjkonaopmipoaaDoor
