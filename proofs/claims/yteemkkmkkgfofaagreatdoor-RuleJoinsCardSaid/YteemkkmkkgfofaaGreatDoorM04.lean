/- Rules' texts, in plain Lean: what is read is of form, and what is wrong stands there. No program in sight. Rules' texts, in plain Lean: what the laws ask: texts read again, with more blanks, one behind the other, cut off. No program in sight. Rules' texts, in plain Lean: texts one behind the other, texts cut off. No program in sight. -/
import Derived.Test.YteemkkmkkgfofaaGreatDoorM03
namespace Go.Proofs.YteemkkmkkgfofaaGreatDoor
namespace Pol
open Nam
/-- If it is read, that holds; else what is wrong is a token of those. -/
def Snd {α : Type} (X : PR α) (T : List Tok) (P : α → Prop) : Prop := match X with
  | .ok a => P a
  | .error x => (∃ t ∈ T, t.2 = x.1) ∧ x.2 = 71
theorem Snd.bind {α β : Type} {X : PR α} {f : α → PR β} {T : List Tok} {P : α → Prop} {Q : β → Prop} (h : Snd X T P) (hf : ∀ a, P a → Snd (f a) T Q) : Snd (X >>= f) T Q := by
  cases X with
  | ok a => exact hf a h
  | error x => exact h
theorem Snd.mono {α : Type} {X : PR α} {T : List Tok} {P Q : α → Prop} (h : Snd X T P) (hf : ∀ a, P a → Q a) : Snd X T Q := by
  cases X with
  | ok a => exact hf a h
  | error x => exact h
theorem Snd.base {α : Type} {X : PR α} {A T : List Tok} {P : α → Prop} (hA : ∀ t ∈ A, t ∈ T) (h : Snd X A P) : Snd X T P := by
  cases X with
  | ok a => exact h
  | error x => obtain ⟨⟨t, h1, h2⟩, h3⟩ := h; exact ⟨⟨t, hA t h1, h2⟩, h3⟩
def SufT (M T : List Tok) : Prop := Toks M ∧ ∃ Q, T = Q ++ M
theorem SufT.tl {M T : List Tok} (h : SufT M T) : SufT (tlT M) T := by
  obtain ⟨h1, Q, rfl⟩ := h
  refine ⟨h1.tl, ?_⟩
  cases M with
  | nil => exact ⟨Q, rfl⟩
  | cons a M =>
    cases M with
    | nil => exact ⟨Q, rfl⟩
    | cons b M => exact ⟨Q ++ [a], by simp [tlT]⟩
theorem SufT.hd {M T : List Tok} (h : SufT M T) : ∃ t ∈ T, t = (hdT M, hdP M) := by
  obtain ⟨h1, Q, rfl⟩ := h
  cases M with
  | nil => exact absurd rfl h1.ne
  | cons a M => exact ⟨a, by simp, rfl⟩
theorem SufT.trans {A B C : List Tok} (h : SufT A B) (h' : SufT B C) : SufT A C := by
  obtain ⟨h1, Q, rfl⟩ := h
  obtain ⟨_, R, rfl⟩ := h'
  exact ⟨h1, R ++ Q, by simp⟩
theorem snd_wrong {α : Type} {M T : List Tok} {P : α → Prop} (h : SufT M T) : Snd (wrong M : PR α) T P := by
  obtain ⟨t, h1, h2⟩ := h.hd
  exact ⟨⟨t, h1, by rw [h2]⟩, rfl⟩
theorem want_snd {s : ByteArray} {M T : List Tok} (h : SufT M T) : Snd (wantP s M) T (fun M' => SufT M' T ∧ ∃ t ∈ T, t.1 = s) := by
  unfold wantP
  split
  · next e =>
    obtain ⟨t, h1, h2⟩ := h.hd
    exact ⟨h.tl, t, h1, by rw [h2]; exact e⟩
  · exact snd_wrong h
theorem take_snd {f : ByteArray → Bool} {M T : List Tok} (h : SufT M T) : Snd (takeP f M) T (fun a => f a.1 = true ∧ SufT a.2 T) := by
  unfold takeP
  split
  · next e => exact ⟨e, h.tl⟩
  · exact snd_wrong h
theorem parse_ge (M : Nat) : ∀ (l : Str) (acc n : Nat), Lib.parseUintM M acc l = .ok n → acc ≤ n
  | [], acc, n, h => by cases h; exact Nat.le_refl _
  | c :: l, acc, n, h => by
    rw [Lib.parseUintM] at h
    split at h
    · split at h
      · cases h
      · split at h
        · cases h
        · have := parse_ge M l _ n h; omega
    · cases h
theorem num_of {most n : Nat} {s : ByteArray} (h : numOf most s = some n) : 1 ≤ n ∧ n ≤ most := by
  unfold numOf at h
  split at h
  · next k hk =>
    split at h
    · next hc =>
      cases h
      refine ⟨?_, hc.2.2⟩
      unfold Lib.parseUintB at hk
      split at hk
      · cases hk
      · next hn =>
        cases hs : s.data.toList with
        | nil => exact absurd hs hn
        | cons c l =>
          have h0 := hc.1
          rw [hs] at hk h0
          rw [Lib.parseUintM] at hk
          split at hk
          · next hd =>
            split at hk
            · cases hk
            · split at hk
              · cases hk
              · have := parse_ge _ _ _ _ hk
                have hne : c.toNat ≠ 48 := fun e => h0 (by simp; exact UInt8.toNat_inj.1 e)
                omega
          · cases hk
    · cases h
  · cases h
theorem num_snd {most : Nat} {M T : List Tok} (h : SufT M T) : Snd (numP most M) T (fun a => (1 ≤ a.1 ∧ a.1 ≤ most) ∧ SufT a.2 T) := by
  unfold numP
  split
  · next n hn => exact ⟨num_of hn, h.tl⟩
  · exact snd_wrong h
theorem pats_snd : ∀ (k : Nat) (acc : List ByteArray) (M T : List Tok), SufT M T → Snd (patsP k acc M) T (fun a => (∃ ys, a.1 = acc ++ ys ∧ ys ≠ [] ∧ ys.length ≤ k ∧ patsOk acc ys = true) ∧ SufT a.2 T)
  | 0, acc, M, T, h => snd_wrong h
  | k + 1, acc, M, T, h => by
    unfold patsP
    split
    · next hp =>
      split
      · refine (pats_snd k (acc ++ [hdT M]) _ T h.tl.tl).mono ?_
        rintro ⟨ps, M'⟩ ⟨⟨ys, h1, h2, h3, h4⟩, h5⟩
        exact ⟨⟨hdT M :: ys, by rw [h1]; simp, by simp, by simpa using h3, by unfold patsOk; rw [hp, h4]; rfl⟩, h5⟩
      · exact ⟨⟨[hdT M], rfl, by simp, by simp, by unfold patsOk; rw [hp]; rfl⟩, h.tl⟩
    · exact snd_wrong h
theorem key_snd {M T : List Tok} (h : SufT M T) : Snd (keyP M) T (fun a => a.1 ≤ 2305843009213691579 ∧ SufT a.2 T) := by
  unfold keyP
  split
  · refine (num_snd h.tl).bind ?_
    rintro ⟨n, M1⟩ ⟨h1, h2⟩
    refine (want_snd h2).bind ?_
    rintro M2 ⟨h3, _⟩
    exact ⟨h1.2, h3⟩
  · exact ⟨Nat.zero_le _, h⟩
theorem life_snd {M T : List Tok} (h : SufT M T) : Snd (lifeP M) T (fun a => (1 ≤ a.1 ∧ a.1 ≤ 1000) ∧ SufT a.2 T) := by
  unfold lifeP
  refine (want_snd h).bind ?_
  rintro M1 ⟨h1, _⟩
  refine (num_snd h1).bind ?_
  rintro ⟨n, M2⟩ ⟨h2, h3⟩
  refine (want_snd h3).bind ?_
  rintro M3 ⟨h4, _⟩
  exact ⟨h2, h4⟩
theorem most_snd {M T : List Tok} (h : SufT M T) : Snd (mostP M) T (fun a => (a.1 = (0, 0) ∨ ((1 ≤ a.1.1 ∧ a.1.1 ≤ 1000) ∧ 1 ≤ a.1.2 ∧ a.1.2 ≤ 1099511627776)) ∧ SufT a.2 T) := by
  unfold mostP
  split
  · refine (num_snd h.tl).bind ?_
    rintro ⟨n, M1⟩ ⟨h1, h2⟩
    refine (want_snd h2).bind ?_
    rintro M2 ⟨h3, _⟩
    refine (num_snd h3).bind ?_
    rintro ⟨m, M3⟩ ⟨h4, h5⟩
    refine (want_snd h5).bind ?_
    rintro M4 ⟨h6, _⟩
    exact ⟨.inr ⟨h1, h4⟩, h6⟩
  · exact ⟨.inl rfl, h⟩
theorem lim_snd {al : Bool} {M T : List Tok} (h : SufT M T) : Snd (limP al M) T (fun a => (∀ nm ps, limitsB ⟨nm, al, ps, (a.1.1 : Int), (a.1.2.1 : Int), (a.1.2.2.1 : Int), (a.1.2.2.2 : Int)⟩ = true) ∧ SufT a.2 T) := by
  unfold limP
  cases al
  · exact ⟨fun _ _ => by simp [limitsB], h⟩
  · refine (key_snd h).bind ?_
    rintro ⟨k, M1⟩ ⟨h1, h2⟩
    refine (life_snd h2).bind ?_
    rintro ⟨l, M2⟩ ⟨h3, h4⟩
    refine (most_snd h4).bind ?_
    rintro ⟨⟨m, p⟩, M3⟩ ⟨h5, h6⟩
    refine ⟨fun nm ps => ?_, h6⟩
    dsimp only at h1 h3 h5 ⊢
    unfold limitsB
    simp only [if_true]
    rcases h5 with h5 | ⟨h5, h7⟩
    · cases h5
      simp; omega
    · rw [if_pos (by omega)]
      simp; omega
/-- A rule that is read is of form, its name is new, and its end is among the tokens. -/
def RuleGood (ahead : List Rul) (T : List Tok) (a : Rul × List Tok) : Prop :=
  formB a.1 = true ∧ 0 ≤ a.1.keyMin ∧ memB (ahead.map (·.name)) a.1.name = false ∧ Behind a.2 T ∧ ∃ t ∈ T, t.1 = tShut
theorem rule_snd {ahead : List Rul} {T : List Tok} (h : Toks T) :
    (∃ x, ruleP ahead T = .error x ∧ (∃ t ∈ T, t.2 = x.1) ∧ (x.2 = 71 ∨ (x.2 = 2 ∧ ahead.length = 32))) ∨ (∃ a, ruleP ahead T = .ok a ∧ ahead.length ≠ 32 ∧ RuleGood ahead T a) := by
  have hs : SufT T T := ⟨h, [], rfl⟩
  have key : ahead.length ≠ 32 → Snd (ruleP ahead T) T (RuleGood ahead T) := fun hl => by
    unfold ruleP
    by_cases ht : hdT T = tAllow ∨ hdT T = tRefuse
    · have hb : Behind (tlT T) T := behind_tl h (by rcases ht with h | h <;> rw [h] <;> decide)
      have hs1 : SufT (tlT T) (tlT T) := ⟨hs.tl.1, [], rfl⟩
      rw [if_pos ht, if_neg hl]
      refine Snd.base (A := tlT T) (P := RuleGood ahead T) (by obtain ⟨_, _, Q, h3⟩ := hb; exact fun t ht => by rw [h3]; simp [ht]) ?_
      refine (take_snd hs1).bind ?_
      rintro ⟨nm, M1⟩ ⟨h1, h2⟩
      refine (want_snd h2).bind ?_
      rintro M2 ⟨h3, _⟩
      refine (pats_snd 8 [] _ _ h3).bind ?_
      rintro ⟨ps, M3⟩ ⟨⟨ys, h4, h5, h6, h7⟩, h8⟩
      refine (want_snd h8).bind ?_
      rintro M4 ⟨h9, _⟩
      refine (lim_snd h9).bind ?_
      rintro ⟨⟨k, l, m, p⟩, M5⟩ ⟨h10, h11⟩
      refine (want_snd h11).bind ?_
      rintro M6 ⟨h12, t, h13, h14⟩
      dsimp only at h1 h4 h10
      rw [List.nil_append] at h4
      subst h4
      unfold nameFits at h1
      rw [Bool.and_eq_true] at h1
      obtain ⟨_, hb2, Q, hQ⟩ := hb
      obtain ⟨g1, R, hR⟩ := h12
      refine ⟨?_, Int.natCast_nonneg _, by simpa using h1.2, ⟨g1, ?_, Q ++ R, ?_⟩, t, by rw [hQ]; simp [h13], h14⟩
      · unfold formB
        dsimp only
        rw [h1.1, h7, h10]
        have : 1 ≤ ps.length := List.length_pos_iff.2 h5
        simp [this, h6]
      · have : (tlT T).length = R.length + M6.length := by rw [hR]; simp
        show M6.length < T.length
        omega
      · show T = Q ++ R ++ M6
        rw [hQ, List.append_assoc]; congr 1
    · rw [if_neg ht]; exact snd_wrong hs
  by_cases hl : ahead.length = 32
  · left
    unfold ruleP
    by_cases ht : hdT T = tAllow ∨ hdT T = tRefuse
    · rw [if_pos ht, if_pos hl]
      obtain ⟨t, h1, h2⟩ := hs.hd
      exact ⟨_, rfl, ⟨t, h1, by rw [h2]⟩, .inr ⟨rfl, hl⟩⟩
    · rw [if_neg ht]
      obtain ⟨h1, h2⟩ := snd_wrong (P := fun _ : Rul × List Tok => True) hs
      exact ⟨_, rfl, h1, .inl h2⟩
  · have hk := key hl
    cases hX : ruleP ahead T with
    | ok a => rw [hX] at hk; exact .inr ⟨a, rfl, hl, hk⟩
    | error x => rw [hX] at hk; exact .inl ⟨x, rfl, hk.1, .inl hk.2⟩
theorem hd_end {T : List Tok} (h : Toks T) (he : hdT T = bA []) : ∃ e, T = [(bA [], e)] := by
  obtain ⟨Q, e, rfl, hq⟩ := h
  cases Q with
  | nil => exact ⟨e, rfl⟩
  | cons a Q => exact absurd he (hq a (by simp))
theorem toks_tlen {T : List Tok} (h : Toks T) : 1 ≤ T.length := List.length_pos_iff.2 h.ne
/-- Rules that are read are of form; what is wrong is a token. -/
theorem rules_snd : ∀ (n : Nat) (l : List Rul) (T : List Tok), Toks T → T.length ≤ n → rulesOk [] l = true → l.length ≤ 32 → (∀ r ∈ l, 0 ≤ r.keyMin) →
    (∃ x, rulesP n l T = .error x ∧ (∃ t ∈ T, t.2 = x.1) ∧ (x.2 = 71 ∨ x.2 = 2)) ∨
    (∃ l', rulesP n l T = .ok l' ∧ rulesOk [] l' = true ∧ l'.length ≤ 32 ∧ (∀ r ∈ l', 0 ≤ r.keyMin))
  | 0, l, T, h, hn, _, _, _ => by have := toks_tlen h; omega
  | n + 1, l, T, h, hn, h1, h2, h3 => by
    unfold rulesP
    by_cases he : hdT T = bA []
    · rw [if_pos he]; exact .inr ⟨l, rfl, h1, h2, h3⟩
    · rw [if_neg he]
      rcases rule_snd (ahead := l) h with ⟨x, hx, ht, hc⟩ | ⟨⟨r, M⟩, ha, hl, g1, g2, g3, ⟨g4, g5, Q, g6⟩, _⟩
      · left
        rw [hx]
        exact ⟨x, rfl, ht, hc.imp id (·.1)⟩
      · rw [ha, bind_ok]
        dsimp only at g1 g2 g3 g4 g5 g6 ⊢
        rcases rules_snd n (l ++ [r]) M g4 (by omega) (by rw [rulesOk_snoc, h1, g1, List.nil_append, g3]; rfl) (by simp; omega)
          (fun x hx => by rcases List.mem_append.1 hx with hx | hx; · exact h3 x hx
                          · rw [List.mem_singleton] at hx; subst hx; exact g2) with ⟨x, hx, ⟨t, ht, ht2⟩, hc⟩ | h
        · exact .inl ⟨x, hx, ⟨t, by rw [g6]; simp [ht], ht2⟩, hc⟩
        · exact .inr h
theorem rulesOk_app : ∀ {m l : List Rul} {a : List ByteArray}, rulesOk a (l ++ m) = true → rulesOk a l = true
  | m, [], a, _ => rfl
  | m, x :: l, a, h => by
    rw [List.cons_append, rulesOk, Bool.and_eq_true] at h
    rw [rulesOk, Bool.and_eq_true]
    exact ⟨h.1, rulesOk_app h.2⟩
/-- Tokens of rules of form are read as those rules. -/
theorem rules_ok : ∀ (m l : List Rul) (T T' : List Tok) (n : Nat), Toks T → T.length ≤ n → Starts (rulesTok m) T T' → Toks T' → rulesOk [] (l ++ m) = true → (l ++ m).length ≤ 32 → (∀ r ∈ m, 0 ≤ r.keyMin) →
    ∃ n', T'.length ≤ n' ∧ rulesP n l T = rulesP n' (l ++ m) T'
  | [], l, T, T', n, h, hn, hS, _, _, _, _ => by
    obtain rfl := Starts.nil hS
    exact ⟨n, hn, by simp⟩
  | r :: m, l, T, T', 0, h, hn, _, _, _, _, _ => by have := toks_tlen h; omega
  | r :: m, l, T, T', n + 1, h, hn, hS, hT', h1, h2, h3 => by
    have hS' : Starts (ruleTok r ++ rulesTok m) T T' := hS
    obtain ⟨M, m1, m2⟩ := hS'.split
    have hr1 : rulesOk [] (l ++ [r]) = true := rulesOk_app (m := m) (by simpa using h1)
    have hr2 := hr1
    rw [rulesOk_snoc, Bool.and_eq_true, Bool.and_eq_true, List.nil_append] at hr2
    obtain ⟨_, hf, hm⟩ := hr2
    have hlen : l.length ≠ 32 := by simp at h2; omega
    have hrule := rule_ok (h3 r (by simp)) hf (by simpa using hm) hlen m1
    have hne : hdT T ≠ bA [] := by
      have hS2 : Starts ((if r.allow then tAllow else tRefuse) :: r.name :: tOpen :: (patTok r.pats ++ ([tSemi] ++ (keyTok r ++ (lifeTok r ++ mostTok r)) ++ [tShut]))) T M := by
        simpa [ruleTok, bodyTok, headTok] using m1
      rw [hS2.hd]; cases r.allow <;> decide
    have hb : Behind M T := by
      rcases rule_snd (ahead := l) h with ⟨x, hx, _⟩ | ⟨a, ha, _, hg⟩
      · rw [hrule] at hx; cases hx
      · rw [hrule] at ha; cases ha; exact hg.2.2.2.1
    obtain ⟨n', e1, e2⟩ := rules_ok m (l ++ [r]) M T' n hb.1 (by have := hb.2.1; omega) m2 hT' (by simpa using h1) (by simpa using h2) (fun x hx => h3 x (List.mem_cons_of_mem _ hx))
    refine ⟨n', e1, ?_⟩
    rw [rulesP, if_neg hne, hrule, bind_ok]
    dsimp only
    rw [e2]; simp
end Pol
end Go.Proofs.YteemkkmkkgfofaaGreatDoor
namespace Go.Proofs.YteemkkmkkgfofaaGreatDoor
namespace Pol
open Nam
/-- What reading bytes gives. -/
def readT (T : List Tok) : PR (List Rul) := rulesP T.length [] T
theorem Lex.toks {s : Str} {i : Nat} {T : List Tok} (h : Lex s i T) : Toks T := h.last
theorem rulesOk_forms : ∀ {l : List Rul} {a : List ByteArray}, rulesOk a l = true → ∀ r ∈ l, formB r = true
  | [], _, _, r, hr => by cases hr
  | x :: l, a, h, r, hr => by
    rw [rulesOk, Bool.and_eq_true, Bool.and_eq_true] at h
    rcases List.mem_cons.1 hr with rfl | hr
    · exact h.1.1
    · exact rulesOk_forms h.2 r hr
/-- Rules of form that stand ahead are read. -/
theorem read_ahead {l : List Rul} (h1 : rulesOk [] l = true) (h2 : l.length ≤ 32) (h3 : ∀ r ∈ l, 0 ≤ r.keyMin) {rest : Str} {T' : List Tok} (hL : Lex rest (textL l).length T') :
    ∃ T n, Lex (textL l ++ rest) 0 T ∧ T'.length ≤ n ∧ readT T = rulesP n l T' := by
  obtain ⟨Q, hq, hL2⟩ := seg_rules (rulesOk_forms h1) rest 0 T' (by simpa using hL)
  obtain ⟨n, e1, e2⟩ := rules_ok l [] (Q ++ T') T' (Q ++ T').length hL2.toks (Nat.le_refl _) ⟨hL.toks.ne, Q, rfl, hq⟩ hL.toks (by simpa using h1) (by simpa using h2) h3
  exact ⟨_, n, hL2, e1, by simpa [readT] using e2⟩
theorem rulesP_end {n : Nat} {l : List Rul} {e : Nat} : rulesP n l [(bA [], e)] = .ok l := by
  cases n with
  | zero => rfl
  | succ n => unfold rulesP; exact if_pos rfl
/-- THE STAGE's THEOREM. -/
theorem read_back {l : List Rul} (h1 : rulesOk [] l = true) (h2 : l.length ≤ 32) (h3 : ∀ r ∈ l, 0 ≤ r.keyMin) : ∃ T, Lex (textL l) 0 T ∧ readT T = .ok l := by
  obtain ⟨T, n, hL, hn, he⟩ := read_ahead h1 h2 h3 (Lex.done _)
  exact ⟨T, by simpa using hL, by rw [he, rulesP_end]⟩
/-- What is read may be; what is not is wrong within the bytes. -/
theorem read_snd {s : Str} {T : List Tok} (h : Lex s 0 T) :
    (∃ p e, readT T = .error (p, e) ∧ p ≤ s.length ∧ (e = 71 ∨ e = 2)) ∨ (∃ l, readT T = .ok l ∧ rulesOk [] l = true ∧ l.length ≤ 32 ∧ ∀ r ∈ l, 0 ≤ r.keyMin) := by
  rcases rules_snd T.length [] T h.toks (Nat.le_refl _) rfl (by simp) (by simp) with ⟨⟨p, e⟩, hx, ⟨t, ht, ht2⟩, hc⟩ | hr
  · exact .inl ⟨p, e, hx, by have := (h.range t ht).2; dsimp only at ht2; omega, hc⟩
  · exact .inr hr
/-! ### More blanks -/
def blankAt (k i : Nat) (c : UInt8) : Str := if c ≠ 32 ∧ c ≠ 10 then [c] else
  if (i + k) % 3 = 0 then [32, 10, 32] else if (i + k) % 3 = 1 then [35, 32, 119, 104, 97, 116, 59, 32, 105, 115, 32, 125, 32, 116, 104, 105, 115, 10] else [10]
def blankOut (k : Nat) : Nat → Str → Str
  | _, [] => []
  | i, c :: s => blankAt k i c ++ blankOut k (i + 1) s
theorem blankOut_word {k : Nat} : ∀ {u : Str} {i : Nat} {t : Str}, (∀ c ∈ u, c ≠ 32 ∧ c ≠ 10) → blankOut k i (u ++ t) = u ++ blankOut k (i + u.length) t
  | [], i, t, _ => by simp
  | c :: u, i, t, h => by
    rw [List.cons_append, blankOut, blankOut_word fun x hx => h x (List.mem_cons_of_mem _ hx)]
    unfold blankAt
    rw [if_pos (h c (by simp))]
    simp [Nat.add_assoc, Nat.add_comm 1]
theorem lex_blank {k i j : Nat} {c : UInt8} {s : Str} {T : List Tok} (hc : c = 32 ∨ c = 10) (h : ∀ j, ∃ T', T'.map (·.1) = T.map (·.1) ∧ Lex s j T') : ∃ T', T'.map (·.1) = T.map (·.1) ∧ Lex (blankAt k i c ++ s) j T' := by
  unfold blankAt
  rw [if_neg (by rcases hc with rfl | rfl <;> simp)]
  split
  · obtain ⟨T', h1, h2⟩ := h (j + 1 + 1 + 1)
    exact ⟨T', h1, .blank (.inl rfl) (.blank (.inr rfl) (.blank (.inl rfl) h2))⟩
  · split
    · obtain ⟨T', h1, h2⟩ := h (j + 1 + 16 + 1)
      exact ⟨T', h1, .note (u := [32, 119, 104, 97, 116, 59, 32, 105, 115, 32, 125, 32, 116, 104, 105, 115]) (t := 10 :: s) (by decide) (.inr rfl) (.blank (.inr rfl) h2)⟩
    · obtain ⟨T', h1, h2⟩ := h (j + 1)
      exact ⟨T', h1, .blank (.inr rfl) h2⟩
theorem blankOut_head {k i : Nat} {t : Str} (h : ∀ c, t.head? = some c → wordyB c = false) : ∀ c, (blankOut k i t).head? = some c → wordyB c = false := by
  cases t with
  | nil => intro c hc; simp [blankOut] at hc
  | cons x t =>
    intro c hc
    unfold blankOut blankAt at hc
    split at hc
    · simp at hc; subst hc; exact h _ rfl
    · split at hc
      · simp at hc; subst hc; decide
      · split at hc <;> (simp at hc; subst hc; decide)
theorem lex_blanks {k : Nat} {s : Str} {i0 : Nat} {T : List Tok} (h : Lex s i0 T) : (35 : UInt8) ∉ s → ∀ i j, ∃ T', T'.map (·.1) = T.map (·.1) ∧ Lex (blankOut k i s) j T' := by
  induction h with
  | done => exact fun _ i j => ⟨[(bA [], j)], rfl, .done j⟩
  | blank hc _ ih => exact fun hn i j => lex_blank hc (ih (fun h => hn (List.mem_cons_of_mem _ h)) (i + 1))
  | note => exact fun hn => absurd List.mem_cons_self hn
  | @word u t i' T hu hw hd _ ih =>
    intro hn i j
    rw [blankOut_word fun c hc => ⟨(wordy_no (hw c hc)).1, (wordy_no (hw c hc)).2.1⟩]
    obtain ⟨T', h1, h2⟩ := ih (fun h => hn (List.mem_append_right _ h)) (i + u.length) (j + u.length)
    exact ⟨(bA u, j) :: T', by simp [h1], .word hu hw (blankOut_head hd) h2⟩
  | @sign c t i' T hw h1 h2 h3 _ ih =>
    intro hn i j
    obtain ⟨T', g1, g2⟩ := ih (fun h => hn (List.mem_cons_of_mem _ h)) (i + 1) (j + 1)
    refine ⟨(bA [c], j) :: T', by simp [g1], ?_⟩
    unfold blankOut blankAt
    rw [if_pos ⟨h1, h2⟩]
    exact .sign hw h1 h2 h3 g2
/-! ### What bytes a rule's text is made of -/
def Fine (s : Str) : Prop := ∀ c ∈ s, c ≠ 125 ∧ c ≠ 35 ∧ c ≠ 10
theorem Fine.app {s t : Str} (h : Fine s) (h' : Fine t) : Fine (s ++ t) := fun c hc => by
  rcases List.mem_append.1 hc with hc | hc
  · exact h c hc
  · exact h' c hc
theorem fine_wordy {u : Str} (h : Wordy u) : Fine u := fun c hc => ⟨(wordy_no (h.2 c hc)).2.2.2, (wordy_no (h.2 c hc)).2.2.1, (wordy_no (h.2 c hc)).2.1⟩
theorem fine_lit {u : Str} (h : (u.all fun c => c != 125 && (c != 35 && c != 10)) = true) : Fine u := fun c hc => by
  have := List.all_eq_true.1 h c hc
  simpa using this
theorem fine_join : ∀ {ps : List ByteArray}, (∀ p ∈ ps, Wordy p.data.toList) → Fine (joinP ps)
  | [], _ => by intro c hc; cases hc
  | [p], h => fine_wordy (h p (by simp))
  | p :: q :: l, h => (fine_wordy (h p (by simp))).app ((fine_lit (by decide)).app (fine_join fun x hx => h x (List.mem_cons_of_mem _ hx)))
theorem fine_body {r : Rul} (h : formB r = true) : Fine (bodyR r) := by
  obtain ⟨h1, _, _, h4, _⟩ := form_parts h
  refine Fine.app (Fine.app ?_ ((fine_wordy (name_wordy h1)).app ((fine_lit (by decide)).app ((fine_join fun p hp => pat_wordy (pats_all h4 p hp)).app (fine_lit (by decide)))))) (Fine.app ?_ (Fine.app ?_ ?_))
  · split <;> exact fine_lit (by decide)
  · unfold keyR; split
    · exact (fine_lit (by decide)).app ((fine_wordy (dec_wordy _)).app (fine_lit (by decide)))
    · exact fine_lit (by decide)
  · unfold lifeR; split
    · exact (fine_lit (by decide)).app ((fine_wordy (dec_wordy _)).app (fine_lit (by decide)))
    · exact fine_lit (by decide)
  · unfold mostR; split
    · exact (fine_lit (by decide)).app ((fine_wordy (dec_wordy _)).app ((fine_lit (by decide)).app ((fine_wordy (dec_wordy _)).app (fine_lit (by decide)))))
    · exact fine_lit (by decide)
theorem text_hash {l : List Rul} (h : ∀ r ∈ l, formB r = true) : (35 : UInt8) ∉ textL l := by
  intro hm
  obtain ⟨r, hr, hc⟩ := List.mem_flatMap.1 hm
  rcases List.mem_append.1 hc with hc | hc
  · exact (fine_body (h r hr) _ hc).2.1 rfl
  · revert hc; decide
theorem read_blanks {l : List Rul} {k : Nat} (h1 : rulesOk [] l = true) (h2 : l.length ≤ 32) (h3 : ∀ r ∈ l, 0 ≤ r.keyMin) : ∃ T, Lex (blankOut k 0 (textL l)) 0 T ∧ readT T = .ok l := by
  have hf := rulesOk_forms h1
  obtain ⟨Q, hq, hL⟩ := seg_rules hf [] 0 _ (Lex.done _)
  rw [List.append_nil] at hL
  obtain ⟨T', e1, e2⟩ := lex_blanks hL (text_hash hf) (k := k) 0 0
  rw [List.map_append] at e1
  obtain ⟨A, B, rfl, hA, hB⟩ := List.map_eq_append_iff.1 e1
  obtain ⟨b, rfl⟩ : ∃ b, B = [b] := by
    cases B with
    | nil => cases hB
    | cons b B => cases B with
      | nil => exact ⟨b, rfl⟩
      | cons => simp at hB
  obtain ⟨b1, b2⟩ := b
  obtain rfl : b1 = bA [] := by simpa using hB
  obtain ⟨n, n1, n2⟩ := rules_ok l [] (A ++ [(bA [], b2)]) [(bA [], b2)] _ e2.toks (Nat.le_refl _) ⟨by simp, A, rfl, by rw [hA, hq]⟩ ⟨[], b2, rfl, by simp⟩ (by simpa using h1) (by simpa using h2) h3
  refine ⟨_, e2, ?_⟩
  unfold readT
  rw [n2, rulesP_end]; rfl
end Pol
end Go.Proofs.YteemkkmkkgfofaaGreatDoor
namespace Go.Proofs.YteemkkmkkgfofaaGreatDoor
namespace Pol
open Nam
theorem rule_first {r : Rul} {T T' : List Tok} (h : Starts (ruleTok r) T T') : (hdT T = tAllow ∨ hdT T = tRefuse) ∧ hdT (tlT T) = r.name := by
  have hS : Starts ((if r.allow then tAllow else tRefuse) :: r.name :: tOpen :: (patTok r.pats ++ ([tSemi] ++ (keyTok r ++ (lifeTok r ++ mostTok r)) ++ [tShut]))) T T' := by
    simpa [ruleTok, bodyTok, headTok] using h
  refine ⟨?_, hS.tl.hd⟩
  rw [hS.hd]; cases r.allow <;> simp
theorem hd_mem {T : List Tok} (h : Toks T) : ∃ t ∈ T, t.2 = hdP T := by
  obtain ⟨t, h1, h2⟩ := SufT.hd (M := T) (T := T) ⟨h, [], rfl⟩
  exact ⟨t, h1, by rw [h2]⟩
theorem tl_mem {T : List Tok} (h : Toks T) : ∃ t ∈ T, t.2 = hdP (tlT T) := by
  obtain ⟨t, h1, h2⟩ := SufT.hd (M := tlT T) (T := T) (SufT.tl ⟨h, [], rfl⟩)
  exact ⟨t, h1, by rw [h2]⟩
theorem keys_snoc {l : List Rul} {r : Rul} (h : ∀ x ∈ l, 0 ≤ x.keyMin) (hr : 0 ≤ r.keyMin) : ∀ x ∈ l ++ [r], 0 ≤ x.keyMin := fun x hx => by
  rcases List.mem_append.1 hx with hx | hx
  · exact h x hx
  · rw [List.mem_singleton] at hx; subst hx; exact hr
/-- Rules behind rules: what is wrong is the second one's. -/
theorem join_wrong : ∀ (m l : List Rul) (T E : List Tok) (n : Nat), Toks T → Toks E → T.length ≤ n → Starts (rulesTok m) T E → rulesOk [] l = true → l.length ≤ 32 → (∀ r ∈ m, formB r = true ∧ 0 ≤ r.keyMin) → checkE (l ++ m) ≠ 0 →
    ∃ p e, rulesP n l T = .error (p, e) ∧ (∃ t ∈ T, t.2 = p) ∧ (e = 71 ∨ e = 2) ∧ (checkE (l ++ m) = 2 → e = 2)
  | [], l, T, E, n, _, _, _, _, h1, h2, _, hc => by
    rw [List.append_nil] at hc
    unfold checkE at hc
    rw [if_pos h1, if_pos h2] at hc
    exact absurd rfl hc
  | r :: m, l, T, E, 0, h, _, hn, _, _, _, _, _ => by have := toks_tlen h; omega
  | r :: m, l, T, E, n + 1, h, hE, hn, hS, h1, h2, h3, hc => by
    have hS' : Starts (ruleTok r ++ rulesTok m) T E := hS
    obtain ⟨M, m1, m2⟩ := hS'.split
    obtain ⟨f1, f2⟩ := rule_first m1
    have hne : hdT T ≠ bA [] := by rcases f1 with h | h <;> rw [h] <;> decide
    obtain ⟨hf, hk⟩ := h3 r (by simp)
    rw [rulesP, if_neg hne]
    by_cases hl : l.length = 32
    · refine ⟨hdP T, 2, ?_, hd_mem h, .inr rfl, fun _ => rfl⟩
      unfold ruleP
      rw [if_pos f1, if_pos hl]; rfl
    · cases hm : memB (l.map (·.name)) r.name
      · rw [rule_ok hk hf hm hl m1, bind_ok]
        have hb : Behind M T := by
          rcases rule_snd (ahead := l) h with ⟨x, hx, _⟩ | ⟨a, ha, _, hg⟩
          · rw [rule_ok hk hf hm hl m1] at hx; cases hx
          · rw [rule_ok hk hf hm hl m1] at ha; cases ha; exact hg.2.2.2.1
        have e : l ++ r :: m = (l ++ [r]) ++ m := by simp
        obtain ⟨p, e', g1, ⟨t, g2, g3⟩, g4, g5⟩ := join_wrong m (l ++ [r]) M E n hb.1 hE (by have := hb.2.1; omega) m2 (by rw [rulesOk_snoc, h1, hf, List.nil_append, hm]; rfl) (by simp; omega) (fun x hx => h3 x (List.mem_cons_of_mem _ hx)) (by rw [← e]; exact hc)
        obtain ⟨_, _, Q, hQ⟩ := hb
        exact ⟨p, e', g1, ⟨t, by rw [hQ]; simp [g2], g3⟩, g4, fun hx => g5 (by rw [← e]; exact hx)⟩
      · refine ⟨hdP (tlT T), 71, ?_, tl_mem h, .inl rfl, fun hx => ?_⟩
        · unfold ruleP
          rw [if_pos f1, if_neg hl]
          have ht : takeP (nameFits l) (tlT T) = .error (hdP (tlT T), 71) := by
            unfold takeP nameFits; rw [f2, hm]; simp [wrong]
          rw [ht]; rfl
        · have hno : rulesOk [] (l ++ r :: m) = false := by
            cases ho : rulesOk [] (l ++ r :: m)
            · rfl
            · have := rulesOk_app (m := m) (l := l ++ [r]) (by simpa using ho)
              rw [rulesOk_snoc, List.nil_append, hm] at this
              simp at this
          unfold checkE at hx
          rw [hno] at hx
          simp at hx
theorem check_zero {l : List Rul} (h : checkE l = 0) : rulesOk [] l = true ∧ l.length ≤ 32 := by
  unfold checkE at h
  split at h
  · next h1 =>
    split at h
    · next h2 => exact ⟨h1, h2⟩
    · cases h
  · cases h
theorem read_joins {l m : List Rul} (hl : checkE l = 0) (hm : checkE m = 0) (kl : ∀ r ∈ l, 0 ≤ r.keyMin) (km : ∀ r ∈ m, 0 ≤ r.keyMin) : ∃ T, Lex (textL l ++ textL m) 0 T ∧
    (checkE (l ++ m) = 0 → readT T = .ok (l ++ m)) ∧
    (checkE (l ++ m) ≠ 0 → ∃ p e, readT T = .error (p, e) ∧ (textL l).length ≤ p ∧ (e = 71 ∨ e = 2) ∧ (checkE (l ++ m) = 2 → e = 2)) := by
  obtain ⟨l1, l2⟩ := check_zero hl
  obtain ⟨m1, m2⟩ := check_zero hm
  have hfm := rulesOk_forms m1
  obtain ⟨Q, hq, hL⟩ := seg_rules hfm [] (textL l).length _ (Lex.done _)
  rw [List.append_nil] at hL
  obtain ⟨T, n, hT, hn, he⟩ := read_ahead l1 l2 kl hL
  have hend : Toks [(bA [], (textL l).length + (textL m).length)] := ⟨[], _, rfl, by simp⟩
  have hS : Starts (rulesTok m) (Q ++ [(bA [], (textL l).length + (textL m).length)]) [(bA [], (textL l).length + (textL m).length)] := ⟨by simp, Q, rfl, hq⟩
  refine ⟨T, hT, fun hc => ?_, fun hc => ?_⟩
  · obtain ⟨b1, b2⟩ := check_zero hc
    obtain ⟨n', _, e2⟩ := rules_ok m l _ _ n hL.toks hn hS hend b1 b2 km
    rw [he, e2, rulesP_end]
  · obtain ⟨p, e, g1, ⟨t, g2, g3⟩, g4, g5⟩ := join_wrong m l _ _ n hL.toks hend hn hS l1 l2 (fun r hr => ⟨hfm r hr, km r hr⟩) hc
    exact ⟨p, e, by rw [he, g1], by have := (hL.range t g2).1; omega, g4, g5⟩
/-! ### Texts cut off -/
theorem cut_text : ∀ {l : List Rul} {k : Nat}, k < (textL l).length → ∃ (j : Nat) (r : Rul) (k' : Nat), l[j]? = some r ∧ k' < (textR r).length ∧ k = (textL (l.take j)).length + k' ∧ (textL l).take k = textL (l.take j) ++ (textR r).take k'
  | [], k, h => by simp [textL] at h
  | r :: l, k, h => by
    have ht : textL (r :: l) = textR r ++ textL l := rfl
    by_cases hk : k < (textR r).length
    · exact ⟨0, r, k, rfl, hk, by simp [textL], by rw [ht, List.take_append_of_le_length (by omega)]; simp [textL]⟩
    · rw [ht, List.length_append] at h
      obtain ⟨j, x, k', h1, h2, h3, h4⟩ := cut_text (l := l) (k := k - (textR r).length) (by omega)
      refine ⟨j + 1, x, k', by simpa using h1, h2, ?_, ?_⟩
      · show k = (textR r ++ textL (l.take j)).length + k'
        rw [List.length_append]; omega
      · show _ = (textR r ++ textL (l.take j)) ++ _
        rw [ht, List.take_append, List.take_of_length_le (by omega), h4, List.append_assoc]
theorem fine_count {s : Str} (h : Fine s) : s.count 125 = 0 := List.count_eq_zero.2 fun hc => (h _ hc).1 rfl
theorem text_count : ∀ {l : List Rul}, (∀ r ∈ l, formB r = true) → (textL l).count 125 = l.length
  | [], _ => rfl
  | r :: l, h => by
    show (textR r ++ textL l).count 125 = _
    rw [List.count_append, text_count fun x hx => h x (List.mem_cons_of_mem _ hx)]
    unfold textR
    rw [List.count_append, fine_count (fine_body (h r (by simp)))]
    simp; omega
theorem body_head {r : Rul} : ∃ c t, bodyR r = c :: t ∧ wordyB c = true := by
  unfold bodyR headR
  cases r.allow
  · exact ⟨_, _, rfl, by decide⟩
  · exact ⟨_, _, rfl, by decide⟩
theorem text_last {l : List Rul} (h : l ≠ []) : ∃ s, textL l = s ++ [10] := by
  obtain ⟨l', r, rfl⟩ : ∃ l' r, l = l' ++ [r] := ⟨l.dropLast, l.getLast h, (List.dropLast_concat_getLast h).symm⟩
  exact ⟨textL l' ++ (bodyR r ++ [125]), by simp [textL, textR]⟩
/-- The last byte ahead of the cut. -/
theorem last_at {s : Str} {k : Nat} {u : Str} {c : UInt8} (h : s.take k = u ++ [c]) (hk : k ≤ s.length) : s[k - 1]? = some c := by
  have hl := congrArg List.length h
  rw [List.length_take, List.length_append, List.length_singleton] at hl
  have : (s.take k)[k - 1]? = some c := by
    rw [h, List.getElem?_append_right (by omega), show k - 1 - u.length = 0 by omega]; rfl
  rwa [List.getElem?_take, if_pos (by omega)] at this
theorem read_short {l : List Rul} (h1 : rulesOk [] l = true) (h2 : l.length ≤ 6) (h3 : ∀ r ∈ l, 0 ≤ r.keyMin) {k : Nat} (hk : k < (textL l).length) : ∃ T, Lex ((textL l).take k) 0 T ∧
    ((k = 0 ∨ (textL l)[k - 1]? = some 125 ∨ (textL l)[k - 1]? = some 10) → ∃ j, j ≤ l.length ∧ readT T = .ok (l.take j) ∧ ((textL l).take k).count 125 = j) ∧
    (¬ (k = 0 ∨ (textL l)[k - 1]? = some 125 ∨ (textL l)[k - 1]? = some 10) → ∃ p, readT T = .error (p, 71) ∧ p ≤ k) := by
  obtain ⟨j, r, k', g1, g2, g3, g4⟩ := cut_text hk
  have hj : j < l.length := (List.getElem?_eq_some_iff.1 g1).1
  have hf := rulesOk_forms h1
  have hfr := hf r (List.mem_of_getElem? g1)
  have ha1 : rulesOk [] (l.take j) = true := rulesOk_app (m := l.drop j) (by rw [List.take_append_drop]; exact h1)
  have ha2 : (l.take j).length ≤ 32 := by rw [List.length_take]; omega
  have ha3 : ∀ r ∈ l.take j, 0 ≤ r.keyMin := fun r hr => h3 r (List.mem_of_mem_take hr)
  have haf := rulesOk_forms ha1
  rw [g4]
  have htl : (textR r).length = (bodyR r).length + 2 := by simp [textR]
  rcases Nat.lt_or_ge 0 k' with hk0 | hk0
  · by_cases hkb : k' ≤ (bodyR r).length
    · -- within the rule
      have hq : (textR r).take k' = (bodyR r).take k' := by unfold textR; rw [List.take_append_of_le_length hkb]
      rw [hq]
      have hfine : Fine ((bodyR r).take k') := fun c hc => fine_body hfr c (List.mem_of_mem_take hc)
      obtain ⟨c, t, hb, hw⟩ := body_head (r := r)
      have hqc : (bodyR r).take k' = c :: t.take (k' - 1) := by
        rw [hb]; cases k' with
        | zero => omega
        | succ k' => rfl
      obtain ⟨T', hT'⟩ := lex_exists _ ((bodyR r).take k') (textL (l.take j)).length (Nat.le_refl _)
      obtain ⟨T, n, hT, hn, he⟩ := read_ahead ha1 ha2 ha3 hT'
      refine ⟨T, hT, fun hwh => ?_, fun _ => ?_⟩
      · exfalso
        have hne : (bodyR r).take k' ≠ [] := by rw [hqc]; simp
        have hlast := List.dropLast_concat_getLast hne
        have := last_at (s := textL l) (k := k) (u := textL (l.take j) ++ ((bodyR r).take k').dropLast) (c := ((bodyR r).take k').getLast hne) (by rw [g4, hq, List.append_assoc, hlast]) (by omega)
        have hfl := hfine _ (List.getLast_mem hne)
        rw [this] at hwh
        rcases hwh with h | h | h
        · omega
        · exact hfl.1 (Option.some.inj h)
        · exact hfl.2.2 (Option.some.inj h)
      · have hnw := wordy_no hw
        rw [hqc] at hT'
        obtain ⟨u, v, T'', e1, e2, e3, e4, e5⟩ := hT'.tok hnw.1 hnw.2.1 hnw.2.2.1
        have hhd : hdT T' ≠ bA [] := by
          rw [e2]; show bA u ≠ bA []
          intro e; exact e3 (by simpa [bA] using e)
        have hlt := toks_tlen hT'.toks
        obtain ⟨n, rfl⟩ : ∃ n', n = n' + 1 := ⟨n - 1, by omega⟩
        rw [rulesP, if_neg hhd] at he
        rcases rule_snd (ahead := l.take j) hT'.toks with ⟨⟨p, e⟩, hx, ⟨t0, ht0, htp⟩, hc⟩ | ⟨a, _, _, _, _, _, _, t0, ht0, htp⟩
        · rw [hx] at he
          have h71 : e = 71 := by
            rcases hc with h | ⟨_, h⟩
            · exact h
            · rw [List.length_take] at h; omega
          subst h71
          have hr := (hT'.range t0 ht0).2
          rw [← hqc, List.length_take] at hr
          dsimp only at htp
          exact ⟨p, he, by omega⟩
        · exfalso
          have := hT'.mem t0 ht0 (c := 125) (by rw [htp]; decide)
          rw [← hqc] at this
          exact (hfine _ this).1 rfl
    · -- just ahead of the end of the line
      have hq : (textR r).take k' = bodyR r ++ [125] := by
        obtain rfl : k' = (bodyR r).length + 1 := by omega
        unfold textR
        rw [List.take_append, List.take_of_length_le (by omega)]; simp
      rw [hq]
      obtain ⟨Q, q1, q2⟩ := seg_body hfr [125] (textL (l.take j)).length [(tShut, (textL (l.take j)).length + (bodyR r).length), (bA [], (textL (l.take j)).length + (bodyR r).length + 1)] (.sign (by decide) (by decide) (by decide) (by decide) (.done _))
      obtain ⟨T, n, hT, hn, he⟩ := read_ahead ha1 ha2 ha3 q2
      have hsn : l.take j ++ [r] = l.take (j + 1) := by rw [List.take_add_one, g1]; rfl
      have ho : rulesOk [] (l.take j ++ [r]) = true := by rw [hsn]; exact rulesOk_app (m := l.drop (j + 1)) (by rw [List.take_append_drop]; exact h1)
      obtain ⟨n', _, e2⟩ := rules_ok [r] (l.take j) _ [(bA [], (textL (l.take j)).length + (bodyR r).length + 1)] n q2.toks hn
        ⟨by simp, Q ++ [(tShut, (textL (l.take j)).length + (bodyR r).length)], by simp, by simp [q1, rulesTok, ruleTok]⟩ ⟨[], _, rfl, by simp⟩ ho (by rw [hsn, List.length_take]; omega) (by intro x hx; rw [List.mem_singleton] at hx; subst hx; exact h3 _ (List.mem_of_getElem? g1))
      refine ⟨T, hT, fun _ => ⟨j + 1, by omega, by rw [he, e2, rulesP_end, hsn], ?_⟩, fun hnw => ?_⟩
      · rw [List.count_append, List.count_append, text_count haf, fine_count (fine_body hfr), List.length_take]
        simp; omega
      · exact absurd (.inr (.inl (last_at (s := textL l) (u := textL (l.take j) ++ bodyR r) (by rw [g4, hq, List.append_assoc]) (by omega)))) hnw
  · obtain rfl : k' = 0 := by omega
    rw [List.take_zero, List.append_nil]
    obtain ⟨T, hT, he⟩ := read_back ha1 ha2 ha3
    refine ⟨T, hT, fun _ => ⟨j, by omega, he, by rw [text_count haf, List.length_take]; omega⟩, fun hnw => ?_⟩
    by_cases hj0 : j = 0
    · subst hj0
      exact absurd (.inl (by rw [g3]; simp [textL])) hnw
    · have hne : l.take j ≠ [] := by
        intro e
        have h9 := congrArg List.length e
        rw [List.length_take, List.length_nil] at h9
        omega
      obtain ⟨s, hs⟩ := text_last hne
      exact absurd (.inr (.inr (last_at (s := textL l) (u := s) (by rw [g4, List.take_zero, List.append_nil, hs]) (by omega)))) hnw
end Pol
end Go.Proofs.YteemkkmkkgfofaaGreatDoor
