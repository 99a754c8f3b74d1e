/- Walks of the reader of rules: want, take. Rows of the call's own, of elements of several cells: read as lists. Walks of the reader of rules: number. Walks of the reader of rules: the tests of a pattern. Walks of the reader of rules: the test of a name. Walks of the reader of rules: one rule. -/
import Derived.Test.YteemkkmkkgfofaaGreatDoorM13
import Derived.Test.YteemkkmkkgfofaaGreatDoorM07
import Derived.Test.YteemkkmkkgfofaaGreatDoorM06
import Derived.Maps.AppendAt
import Derived.Laws.OwnMore
import Derived.Lib.AtoiErrMem
import Derived.Test.YteemkkmkkgfofaaGreatDoorM11
import Derived.Test.YteemkkmkkgfofaaGreatDoorM10
namespace Go.Proofs.YteemkkmkkgfofaaGreatDoor
open Go.RowKit Nam Pol Go.Maps
attribute [local go_sem] gv_of

/-- The reader in block rb reads the bytes s at ba, and stands at the tokens T. -/
structure RdS (w : World) (rb : Nat) (ba : Option Addr) (n bc : Nat) (s : Str) (T : List Tok) : Prop where
  len : s.length = n
  fits : n ≤ bc
  max : bc ≤ maxLen
  byts : Byts w ba s
  apart : ∀ p, ba = some p → s ≠ [] → p.block ≠ rb
  rd : Rd w rb ba n bc s T
theorem RdS.fr {S : Nat → Prop} {w w' : World} {rb : Nat} {ba : Option Addr} {n bc : Nat} {s : Str} {T : List Tok} (h : RdS w rb ba n bc s T) (hF : Fr S w w') (hr : ¬ S rb) (hb : ∀ p, ba = some p → s ≠ [] → ¬ S p.block) : RdS w' rb ba n bc s T :=
  ⟨h.len, h.fits, h.max, h.byts.fr hF hb, h.apart, (hF.block rb h.rd.blk.lt hr).trans h.rd.blk, h.rd.le, h.rd.lex, h.rd.toks⟩
theorem RdS.ext {w w' : World} {rb : Nat} {ba : Option Addr} {n bc : Nat} {s : Str} {T : List Tok} (h : RdS w rb ba n bc s T) (hE : Ext w w') : RdS w' rb ba n bc s T := h.fr (Fr.of_ext (S := fun _ => False) hE) (fun h => h) (fun _ _ _ h => h)
theorem RdS.lt {w : World} {rb : Nat} {ba : Option Addr} {n bc : Nat} {s : Str} {T : List Tok} (h : RdS w rb ba n bc s T) : ∀ p, ba = some p → s ≠ [] → p.block < w.heap.size := fun p hp hs => by
  obtain ⟨c, t, rfl⟩ : ∃ c t, s = c :: t := by cases s with | nil => exact absurd rfl hs | cons c t => exact ⟨c, t, rfl⟩
  obtain ⟨b, o, hb, hc⟩ := h.byts 0 c rfl
  rw [hp] at hb
  cases hb
  exact cell_lt hc
theorem next_s {w : World} {rb : Nat} {ba : Option Addr} {n bc : Nat} {s : Str} {T : List Tok} (h : RdS w rb ba n bc s T) :
    Calls Tryz.prog 33 #[.pointer (some ⟨rb, 0, none⟩)] w (fun e w' => e = .returned (.tuple #[]) ∧ Fr (· = rb) w w' ∧ RdS w' rb ba n bc s (tlT T)) := by
  refine (next_any s rb ba n bc (hdP T) (hdT T) (tlT T) w h.len h.fits h.max h.rd.blk h.byts h.rd.le h.rd.lex h.apart).mono ?_
  rintro e w' ⟨rfl, hF, hR⟩
  exact ⟨rfl, hF, h.len, h.fits, h.max, h.byts.fr hF (fun p hp hs => h.apart p hp hs), h.apart, hR⟩
theorem wrong_s {w : World} {rb : Nat} {ba : Option Addr} {n bc : Nat} {s : Str} {T : List Tok} (h : RdS w rb ba n bc s T) :
    Calls Tryz.prog 52 #[.pointer (some ⟨rb, 0, none⟩)] w (fun e w' => e = stopE (hdP T) 71 ∧ w' = w) := wrong_any rb ba n bc (hdP T) (hdT T) w h.rd.blk
/-- What a part of the reader leaves: what it read, or a panic. -/
def Ans {α : Type} (S : Nat → Prop) (X : PR α) (w : World) (R : α → Ending → World → Prop) (e : Ending) (w' : World) : Prop := match X with
  | .ok a => R a e w' ∧ Fr S w w'
  | .error x => e = stopE x.1 x.2 ∧ Fr S w w'
theorem tok_eq {a b : ByteArray} : (a.toList == b.toList) = true ↔ a = b := by
  rw [beq_iff_eq, Lib.toList_data, Lib.toList_data]
  exact ⟨fun h => bytes_eq h, fun h => by rw [h]⟩
theorem want_s {w : World} {rb : Nat} {ba : Option Addr} {n bc : Nat} {s : Str} {T : List Tok} (tk : ByteArray) (h : RdS w rb ba n bc s T) :
    Calls Tryz.prog 57 #[.pointer (some ⟨rb, 0, none⟩), .string tk] w (Ans (· = rb) (wantP tk T) w fun T' e w' => e = .returned (.tuple #[]) ∧ RdS w' rb ba n bc s T') := by
  have H := Lib.hid h
  obtain ⟨c0, c1, c2⟩ := h.rd.blk.cells
  clear h
  unfold wantP
  go_enter Tryz.func57, Tryz.ntmps57
  cases hq : ((hdT T).toList == tk.toList)
  · have hne : ¬ hdT T = tk := fun e => by rw [tok_eq.2 e] at hq; cases hq
    rw [if_neg hne]
    clear hne
    go_wp2_with fail
    refine (wrong_s H.out).mono ?_
    rintro e w1 ⟨rfl, rfl⟩
    exact ⟨rfl, rfl, Fr.refl _ _⟩
  · have he := tok_eq.1 hq
    rw [if_pos he]
    clear he
    go_wp2_with fail
    refine (next_s H.out).mono ?_
    rintro e w1 ⟨rfl, hF, hR⟩
    have HF := Lib.hid hF; have HR := Lib.hid hR
    clear hF hR
    go_wp2_with fail
    go_end0
    exact ⟨⟨rfl, HR.out⟩, HF.out⟩
/-- take, with any test that says f of the token at hand, and leaves the reader be. -/
theorem take_s {w : World} {rb : Nat} {ba : Option Addr} {n bc : Nat} {s : Str} {T : List Tok} (f : ByteArray → Bool) (g : Nat) (cb : Array Value) (S : Nat → Prop) (Q : World → Prop) (h : RdS w rb ba n bc s T)
    (eg : ∀ args w, (callFunc g args).run Tryz.prog w = .ok (.enter g args) w)
    (hc : Calls Tryz.prog g (#[.string (hdT T)] ++ cb) w (fun e w' => e = .returned (.bool (f (hdT T))) ∧ Fr S w w' ∧ Q w')) (hr : ¬ S rb) (hb : ∀ p, ba = some p → s ≠ [] → ¬ S p.block) :
    Calls Tryz.prog 53 #[.pointer (some ⟨rb, 0, none⟩), .func (.func g) #[] cb] w (Ans (fun b => b = rb ∨ S b) (takeP f T) w fun a e w' => e = .returned (.string a.1) ∧ RdS w' rb ba n bc s a.2 ∧ ∃ w1, Q w1 ∧ Fr (· = rb) w1 w') := by
  have H := Lib.hid h; have HC := Lib.hid hc; have HR := Lib.hid hr; have HBB := Lib.hid hb
  obtain ⟨c0, c1, c2⟩ := h.rd.blk.cells
  clear h hc hr hb
  unfold takeP
  go_enter Tryz.func53, Tryz.ntmps53
  cases hq : f (hdT T)
  · rw [if_neg (by simp)]
    have HQ := Lib.hid hq
    clear hq
    go_wp2_with (go_at_fn g; refine HC.out.mono ?_; rintro e w1 ⟨rfl, hF, hQ⟩; rw [HQ.out])
    refine (wrong_s (H.out.fr hF HR.out HBB.out)).mono ?_
    rintro e w2 ⟨rfl, rfl⟩
    exact ⟨rfl, rfl, hF.mono fun _ _ h => .inr h⟩
  · rw [if_pos rfl]
    have HQ := Lib.hid hq
    clear hq
    go_wp2_with (go_at_fn g; refine HC.out.mono ?_; rintro e w1 ⟨rfl, hF, hQ⟩; rw [HQ.out])
    refine (next_s (H.out.fr hF HR.out HBB.out)).mono ?_
    rintro e w2 ⟨rfl, hF2, hR2⟩
    have HF := Lib.hid hF; have HQ1 := Lib.hid hQ; have HF2 := Lib.hid hF2; have HR2 := Lib.hid hR2
    clear hF hQ hF2 hR2
    go_wp2_with fail
    go_ret
    exact ⟨⟨rfl, HR2.out, _, HQ1.out, HF2.out⟩, (HF.out.mono fun _ _ h => .inr h).trans (HF2.out.mono fun _ _ h => .inl h)⟩
end Go.Proofs.YteemkkmkkgfofaaGreatDoor
namespace Go.Proofs.YteemkkmkkgfofaaGreatDoor
open Go.RowKit

theorem flat_get {α β : Type} {m : Nat} {f : α → List β} (hm : ∀ x, (f x).length = m) : ∀ {l : List α} {i : Nat} {x : α} (j : Nat), l[i]? = some x → j < m → (l.flatMap f)[i * m + j]? = (f x)[j]?
  | [], i, x, j, h, _ => by simp at h
  | y :: l, 0, x, j, h, hj => by
    simp at h; subst h
    rw [List.flatMap_cons, Nat.zero_mul, Nat.zero_add, List.getElem?_append_left (by rw [hm]; exact hj)]
  | y :: l, i + 1, x, j, h, hj => by
    have h' : l[i]? = some x := by simpa using h
    rw [List.flatMap_cons, List.getElem?_append_right (by rw [hm, Nat.add_mul]; omega), hm, show (i + 1) * m + j - m = i * m + j by rw [Nat.add_mul]; omega]
    exact flat_get hm j h' hj
theorem flat_length {α β : Type} {m : Nat} {f : α → List β} (hm : ∀ x, (f x).length = m) (l : List α) : (l.flatMap f).length = l.length * m := by
  induction l with
  | nil => simp
  | cons x l ih => rw [List.flatMap_cons, List.length_append, ih, hm, List.length_cons, Nat.add_mul]; omega
/-- The row's cells. -/
theorem own_cell {w : World} {base : Nat} {e : TypeId} {m n : Nat} {v : Value} {xs : List Value} (h : w.ownsRow base e m v n xs) {g : Nat} (hg : v.ownBlock = some g) {j : Nat} {u : Value} (hu : xs[j]? = some u) : w.cell? ⟨g, j, none⟩ = some u := by
  have := h.cells hg j u hu
  rwa [show ((⟨g, 0, none⟩ : Addr).add j) = ⟨g, j, none⟩ from by unfold Addr.add; split <;> simp_all] at this
/-- What the value of a row of one's own looks like. -/
theorem own_form {w : World} {base : Nat} {e : TypeId} {m n : Nat} {v : Value} {xs : List Value} (h : w.ownsRow base e m v n xs) : (v = .slice none 0 0 ∧ n = 0 ∧ xs = []) ∨ ∃ g cap, v = .slice (some ⟨g, 0, none⟩) n cap ∧ v.ownBlock = some g ∧ base ≤ g ∧ g < w.heap.size ∧ n ≤ cap ∧ cap ≤ maxLen := by
  obtain ⟨h0, h1⟩ := h
  rcases h1 with ⟨hv, hn⟩ | ⟨g, cap, cur, hv, hg, hh, hc, hm, _⟩
  · subst hn; exact .inl ⟨hv, rfl, List.eq_nil_of_length_eq_zero (by omega)⟩
  · exact .inr ⟨g, cap, hv, by rw [hv]; rfl, hg, (Array.getElem?_eq_some_iff.1 hh).1, hc, hm⟩
/-- A row of one's own reads as the list whose cells it holds. -/
theorem own_slv {α : Type} {m : Nat} {R : ElR α} {cells : α → List Value} (hm : ∀ x, (cells x).length = m) {w : World} {base : Nat} {e : TypeId} {v : Value} {n : Nat} {l : List α}
    (hR : ∀ b o x, x ∈ l → (∀ (j : Nat) (u : Value), (cells x)[j]? = some u → w.cell? ⟨b, o + j, none⟩ = some u) → R w b o x) (hn : l.length = n) (h : w.ownsRow base e m v n (l.flatMap cells)) : SlV m R w v l := by
  rcases own_form h with ⟨rfl, rfl, hx⟩ | ⟨g, cap, hv, hg, _, _, hc, hcm⟩
  · have hl : l = [] := List.eq_nil_of_length_eq_zero hn
    subst hl
    exact ⟨none, 0, rfl, Nat.le_refl _, Nat.zero_le _, SlA.nil _ _ _ _⟩
  · refine ⟨some ⟨g, 0, none⟩, cap, by rw [hv, hn], by rw [hn]; exact hc, hcm, fun i x hx => ⟨g, 0, rfl, ?_⟩⟩
    refine hR _ _ x (List.mem_of_getElem? hx) fun j u hu => ?_
    have hj : j < m := by rw [← hm x]; exact (List.getElem?_eq_some_iff.1 hu).1
    rw [Nat.zero_add]
    exact own_cell h hg (by rw [flat_get hm j hx hj]; exact hu)
/-- Two rows of unlike types lie apart. -/
theorem own_apart {w : World} {b1 b2 : Nat} {e1 e2 : TypeId} {m1 m2 n1 n2 : Nat} {v1 v2 : Value} {x1 x2 : List Value} (h1 : w.ownsRow b1 e1 m1 v1 n1 x1) (h2 : w.ownsRow b2 e2 m2 v2 n2 x2) (he : e1 ≠ e2) : v1.ownBlock = none ∨ v1.ownBlock ≠ v2.ownBlock := by
  rcases h1.2 with ⟨rfl, _⟩ | ⟨g1, c1, cur1, rfl, _, hh1, _⟩
  · exact .inl rfl
  · right
    rcases h2.2 with ⟨rfl, _⟩ | ⟨g2, c2, cur2, rfl, _, hh2, _⟩
    · simp [Value.ownBlock]
    · simp only [Value.ownBlock, ne_eq, Option.some.injEq]
      rintro rfl
      rw [hh1] at hh2
      simp at hh2
      exact he hh2.2
/-- A row stands where its block stands. -/
theorem own_keep {w w' : World} {base : Nat} {e : TypeId} {m n : Nat} {v : Value} {xs : List Value} (h : w.ownsRow base e m v n xs) (hb : ∀ g, v.ownBlock = some g → w'.heap[g]? = w.heap[g]?) : w'.ownsRow base e m v n xs := by
  obtain ⟨h1, h2⟩ := h
  refine ⟨h1, ?_⟩
  rcases h2 with h2 | ⟨g, cap, cur, h2, h3, h4, h5⟩
  · exact .inl h2
  · exact .inr ⟨g, cap, cur, h2, h3, (hb g (by rw [h2]; rfl)).trans h4, h5⟩
theorem own_fr {S : Nat → Prop} {w w' : World} {base : Nat} {e : TypeId} {m n : Nat} {v : Value} {xs : List Value} (h : w.ownsRow base e m v n xs) (hF : Fr S w w') (hs : ∀ g, v.ownBlock = some g → ¬ S g) : w'.ownsRow base e m v n xs :=
  own_keep h fun g hg => hF.block g (h.lt g hg).2 (hs g hg)
theorem own_map_apart {w : World} {base : Nat} {e : TypeId} {m n b : Nat} {v : Value} {xs : List Value} {es : Array MapEntry} {clock : Nat} (h : w.ownsRow base e m v n xs) (hb : w.heap[b]? = some (.map es clock)) : v.ownBlock ≠ some b := by
  intro hv
  rcases h.2 with ⟨rfl, _⟩ | ⟨g, cap, cur, rfl, _, hh, _⟩
  · simp [Value.ownBlock] at hv
  · simp only [Value.ownBlock, Option.some.injEq] at hv
    subst hv
    rw [hb] at hh; cases hh
theorem Fr.grown {w w' : World} {row : Option Nat} (hg : w.grownBy w' row) : Fr (fun b => row = some b) w w' := ⟨hg.os, hg.tape, hg.output, hg.size, fun k hk hs => hg.block k hk (fun e => hs e.symm)⟩
theorem Fr.join {S T : Nat → Prop} {A B C : World} (h : Fr S A B) (k : Fr T B C) : Fr (fun b => S b ∨ T b) A C :=
  (h.mono fun _ _ hs => .inl hs).trans (k.mono fun _ _ hs => .inr hs)
theorem Fr.onto {S T : Nat → Prop} {A B C : World} (h : Fr S A B) (k : Fr T B C) (hT : ∀ i, i < A.heap.size → T i → S i) : Fr S A C :=
  ⟨k.os.trans h.os, k.tape.trans h.tape, k.output.trans h.output, Nat.le_trans h.size k.size,
   fun i hi hs => (k.block i (Nat.lt_of_lt_of_le hi h.size) (fun t => hs (hT i hi t))).trans (h.block i hi hs)⟩
/-- Two cells that a literal lays. -/
theorem two_cells_new (w : World) (v u : Value) (t : TypeId) : ∀ (j : Nat) (x : Value), [v, u][j]? = some x → (w.alloc (.cells #[v, u] t)).cell? ((⟨w.heap.size, 0, none⟩ : Addr).add j) = some x := by
  intro j x h
  match j, h with
  | 0, h => simp at h; subst h; simp [Addr.add, go_sem]
  | 1, h => simp at h; subst h; simp [Addr.add, go_sem]
  | j + 2, h => simp at h
theorem four_cells_new (w : World) (a b c d : Value) (t : TypeId) : ∀ (j : Nat) (x : Value), [a, b, c, d][j]? = some x → (w.alloc (.cells #[a, b, c, d] t)).cell? ((⟨w.heap.size, 0, none⟩ : Addr).add j) = some x := by
  intro j x h
  match j, h with
  | 0, h => simp at h; subst h; simp [Addr.add, go_sem]
  | 1, h => simp at h; subst h; simp [Addr.add, go_sem]
  | 2, h => simp at h; subst h; simp [Addr.add, go_sem]
  | 3, h => simp at h; subst h; simp [Addr.add, go_sem]
  | j + 4, h => simp at h
end Go.Proofs.YteemkkmkkgfofaaGreatDoor
namespace Go.Proofs.YteemkkmkkgfofaaGreatDoor
open Go.RowKit Nam Pol Go.Maps
attribute [local go_sem] gv_of

/-- A package-level variable that holds an error. -/
def VarI (n : String) (w : World) : Prop := ∃ tp p, w.var? Tryz.prog n = some #[.iface tp p]
theorem VarI.ext {n : String} {w w' : World} (h : VarI n w) (hE : Ext w w') : VarI n w' := by
  obtain ⟨tp, p, h⟩ := h
  refine ⟨tp, p, ?_⟩
  unfold World.var? at h ⊢
  cases hg : Tryz.prog.globalNamed n with
  | none => rw [hg] at h; cases h
  | some g =>
    rw [hg] at h
    simp only [Option.bind_some] at h ⊢
    rcases Nat.lt_or_ge g w.heap.size with hlt | hge
    · rw [hE.block g hlt]; exact h
    · rw [Array.getElem?_eq_none hge] at h; cases h
/-- What strconv.ParseUint tells of a text, at base 10 and 64 bits. -/
theorem parse_any (s : ByteArray) (hs : s.size ≤ 281474976710656) (w : World) (h1 : VarI "strconv.ErrSyntax" w) (h2 : VarI "strconv.ErrRange" w) :
    Calls Tryz.prog 84 #[.string s, .int .i64 10, .int .i64 64] w (fun e w' => (∃ u v, e = .returned (.tuple #[.int .u64 u, v]) ∧ ((∃ k : Nat, Lib.parseUintB 64 s.data.toList = .ok k ∧ u = (k : Int) ∧ v = .nilIface) ∨
      ((∀ k, Lib.parseUintB 64 s.data.toList ≠ .ok k) ∧ ∃ t p, v = .iface t (.pointer (some p))))) ∧ Ext w w') := by
  obtain ⟨t1, p1, h1⟩ := h1
  obtain ⟨t2, p2, h2⟩ := h2
  cases hp : Lib.parseUintB 64 s.data.toList with
  | ok k =>
    refine (Tryz.strconv_ParseUint_10_at64_ok s (by omega) k hp w).mono ?_
    rintro e w' ⟨rfl, hw⟩
    refine ⟨⟨_, _, rfl, .inl ⟨k, rfl, rfl, rfl⟩⟩, ?_⟩
    rcases hw with rfl | rfl
    · exact Below.refl _ _
    · exact Lib.bytesWorld_below _ _ _
  | range =>
    refine (Tryz.strconv_ParseUint_10_at64_range_var s hs hp t2 p2 w h2).mono ?_
    rintro e w' ⟨N, rfl, _, _, hE⟩
    exact ⟨⟨_, _, rfl, .inr ⟨(fun k h => by cases h), _, _, rfl⟩⟩, hE⟩
  | «syntax» =>
    refine (Tryz.strconv_ParseUint_10_at64_syntax_var s hs hp t1 p1 w h1).mono ?_
    rintro e w' ⟨N, rfl, _, _, hE⟩
    exact ⟨⟨_, _, rfl, .inr ⟨(fun k h => by cases h), _, _, rfl⟩⟩, hE⟩
theorem parse_pos {s : ByteArray} {k : Nat} (h : Lib.parseUintB 64 s.data.toList = .ok k) : 0 < s.size := by
  rcases Nat.eq_zero_or_pos s.size with h0 | h0
  · have : s.data.toList = [] := by
      have := Lib.size_eq s
      exact List.eq_nil_of_length_eq_zero (by omega)
    rw [this] at h
    cases h
  · exact h0
theorem num_first {s : ByteArray} (h0 : 0 < s.size) : (s.data.toList.head? ≠ some 48) ↔ ((s[0].toNat : Int) != 48) = true := by
  have hl := Lib.size_eq s
  have hd : s.data.toList.head? = some s[0] := by
    rw [List.head?_eq_getElem?, List.getElem?_eq_getElem (by omega)]
    rfl
  rw [hd]
  constructor
  · intro h
    rw [bne_iff_ne]
    intro e
    exact h (congrArg some (UInt8.toNat_inj.1 (by show s[0].toNat = 48; omega)))
  · intro h e
    rw [Option.some.inj e] at h
    exact absurd h (by decide)
theorem num_bool {s : ByteArray} {k most : Nat} (hk : Lib.parseUintB 64 s.data.toList = .ok k) (h0 : 0 < s.size) : ((((s[0].toNat : Int) != 48) && decide ((s.size : Int) < 20)) && decide (k ≤ most)) = (numOf most s).isSome := by
  unfold numOf
  rw [hk]
  simp only
  by_cases h : s.data.toList.head? ≠ some 48 ∧ s.size < 20 ∧ k ≤ most
  · rw [if_pos h, (num_first h0).1 h.1]
    have := h.2.1
    simp [h.2.2]; omega
  · rw [if_neg h]
    by_cases h1 : s.data.toList.head? ≠ some 48
    · by_cases h2 : s.size < 20
      · have h3 : ¬ k ≤ most := fun h3 => h ⟨h1, h2, h3⟩
        simp [h3]
      · have : decide ((s.size : Int) < 20) = false := by simp; omega
        rw [this]; simp
    · have : ((s[0].toNat : Int) != 48) = false := by
        rw [Bool.eq_false_iff]; exact fun h4 => h1 ((num_first h0).2 h4)
      rw [this]; simp
theorem num_some {s : ByteArray} {k most j : Nat} (hk : Lib.parseUintB 64 s.data.toList = .ok k) (h : numOf most s = some j) : j = k := by
  unfold numOf at h
  rw [hk] at h
  simp only at h
  split at h
  · exact (Option.some.inj h).symm
  · cases h
/-- The test in number: it leaves in nb what the text says. -/
theorem num1_any (s : ByteArray) (hs : s.size ≤ 281474976710656) (most nb mb : Nat) (x : Value) (w : World) (hn : Boxed w nb 38 x) (hm : Boxed w mb 38 (.int .u64 most)) (hne : nb ≠ mb) (h1 : VarI "strconv.ErrSyntax" w) (h2 : VarI "strconv.ErrRange" w) :
    Calls Tryz.prog 83 #[.string s, .pointer (some ⟨nb, 0, none⟩), .pointer (some ⟨mb, 0, none⟩)] w (fun e w' => e = .returned (.bool (numOf most s).isSome) ∧ Fr (· = nb) w w' ∧ ∀ k, numOf most s = some k → Boxed w' nb 38 (.int .u64 k)) := by
  have HP := Lib.hid (parse_any s hs w h1 h2)
  have HN := Lib.hid hn; have HM := Lib.hid hm
  clear h1 h2 hn hm
  go_enter Tryz.func83, Tryz.ntmps83
  go_wp2_with fail
  refine HP.out.mono ?_
  rintro e w1 ⟨⟨u, v, rfl, hv⟩, hE⟩
  have hn1 := ext_boxed hE HN.out
  have hm1 := ext_boxed hE HM.out
  have c0 := hn1.cell; have f0 := hn1.frozen
  have HN1 := Lib.hid hn1; have HM1 := Lib.hid hm1; have HE1 := Lib.hid hE
  clear hn1 hm1 hE
  rcases hv with ⟨k, hk, rfl, rfl⟩ | ⟨hno, t, p, rfl⟩
  · have h0 := parse_pos hk
    have HK := Lib.hid hk
    clear hk
    go_upto_region 3 with (fail)
    obtain ⟨w2, hw2⟩ : ∃ w2, w1.setCell ⟨nb, 0, none⟩ (.int .u64 k) = w2 := ⟨_, rfl⟩
    have hn2 : Boxed w2 nb 38 (.int .u64 k) := by rw [← hw2]; exact HN1.out.set _
    have hm2 : Boxed w2 mb 38 (.int .u64 most) := by rw [← hw2]; exact (Below.heap_setCell _ _ _ _ (fun e => hne e.symm)).trans HM1.out
    have hF2 : Fr (· = nb) w w2 := by rw [← hw2]; exact (Fr.of_ext HE1.out).trans (Fr.setCell (S := fun b => b = nb) _ ⟨nb, 0, none⟩ _ rfl)
    rw [hw2]
    clear hw2 c0 f0
    have c0 := hn2.cell; have c1 := hm2.cell
    have HN2 := Lib.hid hn2; have HF2 := Lib.hid hF2
    clear hn2 hm2 hF2
    refine wp_region_P (fun w' => w' = w2) rfl ?_
    repeat
      first
      | (refine steps_and rfl rfl rfl rfl ?_; simp only [Act.put, List.setIfInBounds_toArray, List.set_cons_succ, List.set_cons_zero])
      | (refine steps_or rfl rfl rfl rfl ?_; simp only [Act.put, List.setIfInBounds_toArray, List.set_cons_succ, List.set_cons_zero])
      | (refine steps_skip rfl ?_; simp only [Act.put, List.setIfInBounds_toArray, List.set_cons_succ, List.set_cons_zero])
      | (refine steps_guard_and rfl rfl rfl rfl rfl ?_; simp only [Act.put, List.setIfInBounds_toArray, List.set_cons_succ, List.set_cons_zero])
      | (refine steps_guard (v := ?_) rfl rfl (fun hb w' hS => ?_) ?_; rotate_left; (focus (subst hS; unfold Gives; go_simp; first | exact is_mk rfl)); simp only [Act.put, List.setIfInBounds_toArray, List.set_cons_succ, List.set_cons_zero])
      | (refine steps_guard2 (v := ?_) rfl rfl rfl (fun hb1 hb w' hS => ?_) ?_; rotate_left; (focus (subst hS; unfold Gives; go_simp; first | exact is_mk rfl)); simp only [Act.put, List.setIfInBounds_toArray, List.set_cons_succ, List.set_cons_zero])
      | (refine steps_run (v := ?_) rfl (fun w' hS => ?_) ?_; rotate_left; (focus (subst hS; unfold Gives; go_simp; first | exact is_mk rfl)); simp only [Act.put, List.setIfInBounds_toArray, List.set_cons_succ, List.set_cons_zero])
    refine steps_end fun w' hE' => ?_
    subst hE'
    rw [num_bool HK.out h0]
    go_wp2_with fail
    go_ret
    exact ⟨rfl, HF2.out, fun j hj => by rw [num_some HK.out hj]; exact HN2.out⟩
  · have hnone : numOf most s = none := by
      unfold numOf
      split
      · next k hk => exact absurd hk (hno k)
      · rfl
    have HNO := Lib.hid hnone
    clear hno hnone
    go_wp2_with fail
    go_ret
    rw [HNO.out]
    exact ⟨rfl, (Fr.of_ext HE1.out).trans (Fr.setCell (S := fun b => b = nb) _ ⟨nb, 0, none⟩ _ rfl), fun k h => by cases h⟩
theorem number_s {w : World} {rb : Nat} {ba : Option Addr} {n bc : Nat} {s : Str} {T : List Tok} (most : Nat) (h : RdS w rb ba n bc s T) (hz : n ≤ 281474976710656) (h1 : VarI "strconv.ErrSyntax" w) (h2 : VarI "strconv.ErrRange" w) :
    Calls Tryz.prog 59 #[.pointer (some ⟨rb, 0, none⟩), .int .u64 most] w (Ans (· = rb) (numP most T) w fun a e w' => e = .returned (.int .u64 a.1) ∧ RdS w' rb ba n bc s a.2) := by
  have H := Lib.hid h; have H1 := Lib.hid h1; have H2 := Lib.hid h2
  have hlt := h.rd.blk.lt
  have hts : (hdT T).size ≤ 281474976710656 := by have := h.rd.le; omega
  obtain ⟨W, hW⟩ : ∃ W, (w.alloc (Obj.cells #[.int .u64 most] 38)).alloc (Obj.cells #[.int .u64 0] 38) = W := ⟨_, rfl⟩
  have hEW : Ext w W := by rw [← hW]; exact ext_alloc (ext_alloc (Below.refl _ w) _) _
  have hbm : Boxed W w.heap.size 38 (.int .u64 most) := by rw [← hW]; exact (Boxed.new w _ _).alloc _
  have hbn : Boxed W (w.heap.size + 1) 38 (.int .u64 0) := by
    rw [← hW]
    have := Boxed.new (w.alloc (Obj.cells #[.int .u64 most] 38)) 38 (.int .u64 0)
    rwa [World.size_alloc] at this
  have HT := Lib.hid (take_s (fun s => (numOf most s).isSome) 83 #[.pointer (some ⟨w.heap.size + 1, 0, none⟩), .pointer (some ⟨w.heap.size, 0, none⟩)] (fun b => b = w.heap.size + 1)
    (fun w' => ∀ k, numOf most (hdT T) = some k → Boxed w' (w.heap.size + 1) 38 (.int .u64 k)) (h.ext hEW) (enters_of Tryz.func83 (by kernel_rfl) rfl)
    (num1_any (hdT T) hts most (w.heap.size + 1) w.heap.size _ W hbn hbm (by omega) (h1.ext hEW) (h2.ext hEW)) (by omega)
    (fun p hp hs he => by
      have := h.lt p hp hs
      omega))
  have HEW := Lib.hid hEW; have HWW := Lib.hid hW
  clear h h1 h2 hbm hbn hEW hW
  cases hX : numOf most (hdT T) with
  | none =>
    have hn : numP most T = wrong T := by unfold numP; rw [hX]
    have ht : takeP (fun s => (numOf most s).isSome) T = wrong T := by simp [takeP, hX]
    rw [hn]
    rw [ht] at HT
    clear hn ht hX
    go_enter Tryz.func59, Tryz.ntmps59
    go_wp2_with fail
    rw [HWW.out]
    refine HT.out.mono ?_
    rintro e w2 ⟨rfl, hF⟩
    exact ⟨rfl, rfl, (Fr.of_ext HEW.out).onto hF (fun i hi h => h.elim id fun h => by have h' : i = w.heap.size + 1 := h; omega)⟩
  | some k =>
    have hn : numP most T = .ok (k, tlT T) := by unfold numP; rw [hX]
    have ht : takeP (fun s => (numOf most s).isSome) T = .ok (hdT T, tlT T) := by simp [takeP, hX]
    rw [hn]
    rw [ht] at HT
    have HX := Lib.hid hX
    clear hn ht hX
    go_enter Tryz.func59, Tryz.ntmps59
    go_wp2_with fail
    rw [HWW.out]
    refine HT.out.mono ?_
    rintro e w2 ⟨⟨rfl, hR, w3, hQ, hF3⟩, hF⟩
    have hb2 : Boxed w2 (w.heap.size + 1) 38 (.int .u64 k) := hF3.boxed (hQ k HX.out) (by omega)
    have c0 := hb2.cell
    have HR := Lib.hid hR; have HF := Lib.hid hF
    clear hR hQ hF3 hF hb2
    go_wp2_with fail
    go_ret
    exact ⟨⟨rfl, HR.out⟩, (Fr.of_ext HEW.out).onto HF.out (fun i hi h => h.elim id fun h => by have h' : i = w.heap.size + 1 := h; omega)⟩
end Go.Proofs.YteemkkmkkgfofaaGreatDoor
namespace Go.Proofs.YteemkkmkkgfofaaGreatDoor
open Go.RowKit Nam Pol Go.Maps
attribute [local go_sem] gv_of

/-- slices.Contains at texts, wherever they lie. -/
theorem contains_any {l : List ByteArray} {a : Option Addr} {k c : Nat} {w : World} (x : ByteArray) (hk : l.length = k) (hb : k ≤ c) (hc : c ≤ maxLen) (h : Strs w a l) :
    Calls Tryz.prog 36 #[.slice a k c, .string x] w (Ret (.bool (memB l x)) w) := by
  cases l with
  | nil =>
    subst hk
    refine (Tryz.slices_Contains_string_empty a c x w).mono ?_
    rintro e w' ⟨rfl, rfl⟩
    exact ⟨rfl, Below.refl _ _⟩
  | cons y l =>
    obtain ⟨b, o, rfl, _⟩ := h 0 y rfl
    unfold maxLen at hc
    refine (Tryz.slices_Contains_string b o k c (y :: l) x w (by omega) (by omega) (strs_cells h)).mono ?_
    rintro e w' ⟨rfl, rfl⟩
    rw [List.take_of_length_le (by omega), memB_containsS]
    exact ⟨rfl, Below.refl _ _⟩
/-- The test of a pattern: the rule's box is xb. -/
theorem patFits_any (s : ByteArray) (acc : List ByteArray) (xb : Nat) (a : Option Addr) (k c : Nat) (w : World) (hx : w.cell? ⟨xb, 2, none⟩ = some (.slice a k c)) (hk : acc.length = k) (hb : k ≤ c) (hc : c ≤ maxLen) (h : Strs w a acc) (hs : s.size ≤ maxLen) :
    Calls Tryz.prog 58 #[.string s, .pointer (some ⟨xb, 0, none⟩)] w (Ret (.bool ((decide (k < 8) && patOk s) && !memB acc s)) w) := by
  have HK := Lib.hid hk; have HB := Lib.hid hb; have HC := Lib.hid hc; have H := Lib.hid h
  have hsn : s.size ≤ 9223372036854775807 := hs
  clear hk hb hc h
  go_enter Tryz.func58, Tryz.ntmps58
  go_upto_region 1 with (fail)
  refine wp_region_P (fun w' => Ext w w') (Below.refl _ _) ?_
  repeat
    first
    | (refine steps_and rfl rfl rfl rfl ?_; simp only [Act.put, List.setIfInBounds_toArray, List.set_cons_succ, List.set_cons_zero])
    | (refine steps_or rfl rfl rfl rfl ?_; simp only [Act.put, List.setIfInBounds_toArray, List.set_cons_succ, List.set_cons_zero])
    | (refine steps_skip rfl ?_; simp only [Act.put, List.setIfInBounds_toArray, List.set_cons_succ, List.set_cons_zero])
    | (refine steps_guard_and rfl rfl rfl rfl rfl ?_; simp only [Act.put, List.setIfInBounds_toArray, List.set_cons_succ, List.set_cons_zero])
    | (refine steps_guard (v := ?_) rfl rfl (fun hb w' hS => ?_) ?_; rotate_left; (focus (have e2 := ext_cell hx hS; unfold Gives; go_simp; first | exact is_mk hS | (refine (Pattern_any _ _ hsn).mono ?_; rintro e w'' ⟨rfl, h2⟩; exact gave_mk (ext_trans hS h2)) | (refine (contains_any s HK.out HB.out HC.out (H.out.ext hS)).mono ?_; rintro e w'' ⟨rfl, h2⟩; exact gave_mk (ext_trans hS h2)))); simp only [Act.put, List.setIfInBounds_toArray, List.set_cons_succ, List.set_cons_zero])
    | (refine steps_guard2 (v := ?_) rfl rfl rfl (fun hb1 hb w' hS => ?_) ?_; rotate_left; (focus (have e2 := ext_cell hx hS; unfold Gives; go_simp; first | exact is_mk hS | (refine (Pattern_any _ _ hsn).mono ?_; rintro e w'' ⟨rfl, h2⟩; exact gave_mk (ext_trans hS h2)) | (refine (contains_any s HK.out HB.out HC.out (H.out.ext hS)).mono ?_; rintro e w'' ⟨rfl, h2⟩; exact gave_mk (ext_trans hS h2)))); simp only [Act.put, List.setIfInBounds_toArray, List.set_cons_succ, List.set_cons_zero])
    | (refine steps_run (v := ?_) rfl (fun w' hS => ?_) ?_; rotate_left; (focus (have e2 := ext_cell hx hS; unfold Gives; go_simp; first | exact is_mk hS | (refine (Pattern_any _ _ hsn).mono ?_; rintro e w'' ⟨rfl, h2⟩; exact gave_mk (ext_trans hS h2)) | (refine (contains_any s HK.out HB.out HC.out (H.out.ext hS)).mono ?_; rintro e w'' ⟨rfl, h2⟩; exact gave_mk (ext_trans hS h2)))); simp only [Act.put, List.setIfInBounds_toArray, List.set_cons_succ, List.set_cons_zero])
  refine steps_end fun w' hE' => ?_
  rw [show (okOr 110 (pattern s.data.toList).snd.snd == 0) = patOk s by unfold patOk; cases (pattern s.data.toList).2.2 <;> rfl,
    show decide ((k : Int) < 8) = decide (k < 8) from decide_eq_decide.2 (by omega)]
  go_wp2_with fail
  go_ret
  exact ⟨rfl, hE'⟩
end Go.Proofs.YteemkkmkkgfofaaGreatDoor
namespace Go.Proofs.YteemkkmkkgfofaaGreatDoor
open Go.RowKit Nam Pol Go.Maps
attribute [local go_sem] gv_of

set_option maxRecDepth 100000 in
set_option maxHeartbeats 2000000 in
theorem indexRules_any (l : List Rul) (p : Rul → Bool) (g : Nat) (cb : Array Value) (a : Option Addr) (cap n : Nat) (w : World) (hn : l.length = n) (hnc : n ≤ cap) (hcm : cap ≤ maxLen) (hl : Ruls w a l)
    (eg : ∀ args w, (callFunc g args).run Tryz.prog w = .ok (.enter g args) w) (hp : ∀ r ∈ l, ∀ pa pc w', Ext w w' → Calls Tryz.prog g (#[rulV r pa pc] ++ cb) w' (Ret (.bool (p r)) w')) :
    Calls Tryz.prog 82 #[.slice a n cap, .func (.func g) #[] cb] w (fun e w' => ∃ i : Int, e = .returned (.int .i64 i) ∧ decide (0 ≤ i) = l.any p ∧ Ext w w') := by
  unfold maxLen at hcm
  have HN := Lib.hid hn; have HL := Lib.hid hl; have HP := Lib.hid hp
  clear hn hl hp
  go_enter Tryz.func82, Tryz.ntmps82
  go_wp2_with fail
  go_loopw [8] (fun i wr => ∃ k : Nat, k ≤ n ∧ i = .int .i64 k ∧ (l.take k).any p = false ∧ Ext w wr) (fun i _ => n - (intOf i).toNat)
  case atStart => exact ⟨0, Nat.zero_le _, rfl, rfl, Below.refl _ _⟩
  case round =>
    obtain ⟨k, hk, rfl, hno, hE⟩ := hrel
    have HNO := Lib.hid hno; have HE := Lib.hid hE
    clear hno hE
    by_cases hlt : k < n
    · obtain ⟨r, hr⟩ := get_some HN.out hlt
      obtain ⟨b, off, rfl, d0, d1, ⟨pa, pc, d2, _, _, _⟩, d3, d4, d5, d6, _, _⟩ := (HL.out.ext HE.out) k r hr
      have HS := Lib.hid hr
      have HC := Lib.hid (HP.out r (List.mem_of_getElem? hr) pa pc)
      have hkc : k ≤ cap := by omega
      have HV : Hid (Value.agg #[.string r.name, .bool r.allow, .slice pa r.pats.length pc, .int .u64 r.keyMin, .int .i64 r.lifeMax, .int .i64 r.most, .int .i64 r.window] = rulV r pa pc) := Lib.hid rfl
      clear hr
      cases hq : p r
      · have HQ := Lib.hid hq
        clear hq
        go_wp2_with (go_at_fn g; rw [HV.out]; refine (HC.out _ HE.out).mono ?_; rintro e w1 ⟨rfl, hE1⟩; rw [HQ.out]; have HE1 := Lib.hid hE1; clear hE1)
        go_roundw
        case rel => exact ⟨k + 1, by omega, by go_num, by rw [List.take_add_one, HS.out]; simp [HNO.out, HQ.out], ext_trans HE.out HE1.out⟩
        case measure => simp [intOf]; omega
      · have HQ := Lib.hid hq
        clear hq
        go_wp2_with (go_at_fn g; rw [HV.out]; refine (HC.out _ HE.out).mono ?_; rintro e w1 ⟨rfl, hE1⟩; rw [HQ.out]; have HE1 := Lib.hid hE1; clear hE1)
        go_ret
        refine ⟨_, rfl, ?_, ext_trans HE.out HE1.out⟩
        rw [(List.any_eq_true).2 ⟨r, List.mem_of_getElem? HS.out, HQ.out⟩]
        simp
    · obtain rfl : k = n := by omega
      go_wp2_with fail
      go_ret
      refine ⟨_, rfl, ?_, HE.out⟩
      have := HNO.out
      rw [List.take_of_length_le (by rw [HN.out]; exact Nat.le_refl _)] at this
      rw [this]; rfl
theorem sameName_any (r : Rul) (pa : Option Addr) (pc : Nat) (s : ByteArray) (sb : Nat) (w : World) (hc : w.cell? ⟨sb, 0, none⟩ = some (.string s)) :
    Calls Tryz.prog 56 #[rulV r pa pc, .pointer (some ⟨sb, 0, none⟩)] w (Ret (.bool (r.name.toList == s.toList)) w) := by
  unfold rulV
  have HC := Lib.hid hc
  have hsb := cell_lt hc
  clear hc
  go_enter Tryz.func56, Tryz.ntmps56
  go_upto_region 1 with (fail)
  obtain ⟨W, hW⟩ : ∃ W, w.alloc (Obj.cells #[.string r.name, .bool r.allow, .slice pa r.pats.length pc, .int .u64 r.keyMin, .int .i64 r.lifeMax, .int .i64 r.most, .int .i64 r.window] 40) = W := ⟨_, rfl⟩
  have hE : Ext w W := by rw [← hW]; exact ext_alloc (Below.refl _ w) _
  have hM : W.heap[w.heap.size]? = some (Obj.cells #[.string r.name, .bool r.allow, .slice pa r.pats.length pc, .int .u64 r.keyMin, .int .i64 r.lifeMax, .int .i64 r.most, .int .i64 r.window] 40 (0, 0)) := by rw [← hW]; exact World.alloc_heap_new w _
  rw [hW]
  clear hW
  have c0 := ext_cell HC.out hE
  have d0 : W.cell? ⟨w.heap.size, 0, none⟩ = some (.string r.name) := by simp [World.cell?, hM]
  have HE := Lib.hid hE
  clear hM hE
  go_wp2_with fail
  go_ret
  exact ⟨rfl, HE.out⟩
theorem containsRules_any (l : List Rul) (p : Rul → Bool) (g : Nat) (cb : Array Value) (a : Option Addr) (cap n : Nat) (w : World) (hn : l.length = n) (hnc : n ≤ cap) (hcm : cap ≤ maxLen) (hl : Ruls w a l)
    (eg : ∀ args w, (callFunc g args).run Tryz.prog w = .ok (.enter g args) w) (hp : ∀ r ∈ l, ∀ pa pc w', Ext w w' → Calls Tryz.prog g (#[rulV r pa pc] ++ cb) w' (Ret (.bool (p r)) w')) :
    Calls Tryz.prog 55 #[.slice a n cap, .func (.func g) #[] cb] w (Ret (.bool (l.any p)) w) := by
  have H := Lib.hid (indexRules_any l p g cb a cap n w hn hnc hcm hl eg hp)
  clear hn hnc hcm hl hp
  go_enter Tryz.func55, Tryz.ntmps55
  go_wp2_with fail
  refine H.out.mono ?_
  rintro e w1 ⟨i, rfl, hi, hE⟩
  have HI := Lib.hid hi; have HE := Lib.hid hE
  clear hi hE
  go_wp2_with fail
  go_ret
  exact ⟨by rw [← HI.out]; rfl, HE.out⟩
/-- The test of a name: the rules ahead lie behind the box ab. -/
theorem nameFits_any (s : ByteArray) (l : List Rul) (ab : Nat) (a : Option Addr) (cap n : Nat) (w : World) (hx : w.cell? ⟨ab, 0, none⟩ = some (.slice a n cap)) (hn : l.length = n) (hnc : n ≤ cap) (hcm : cap ≤ maxLen) (hl : Ruls w a l) (hs : s.size ≤ maxLen) :
    Calls Tryz.prog 54 #[.string s, .pointer (some ⟨ab, 0, none⟩)] w (Ret (.bool (nameFits l s)) w) := by
  have HN := Lib.hid hn; have HNC := Lib.hid hnc; have HCM := Lib.hid hcm; have HL := Lib.hid hl; have HX := Lib.hid hx; have HS := Lib.hid hs
  clear hn hnc hcm hl hx hs
  go_enter Tryz.func54, Tryz.ntmps54
  go_upto_region 1 with (fail)
  obtain ⟨W, hW⟩ : ∃ W, w.alloc (Obj.cells #[.string s] 9) = W := ⟨_, rfl⟩
  have hE : Ext w W := by rw [← hW]; exact ext_alloc (Below.refl _ w) _
  have hM : W.heap[w.heap.size]? = some (Obj.cells #[.string s] 9 (0, 0)) := by rw [← hW]; exact World.alloc_heap_new w _
  rw [hW]
  clear hW
  have c0 := ext_cell HX.out hE
  have d0 : W.cell? ⟨w.heap.size, 0, none⟩ = some (.string s) := by simp [World.cell?, hM]
  have HE := Lib.hid hE
  clear hM hE
  refine wp_region_P (fun w' => Ext W w') (Below.refl _ _) ?_
  repeat
    first
    | (refine steps_and rfl rfl rfl rfl ?_; simp only [Act.put, List.setIfInBounds_toArray, List.set_cons_succ, List.set_cons_zero])
    | (refine steps_or rfl rfl rfl rfl ?_; simp only [Act.put, List.setIfInBounds_toArray, List.set_cons_succ, List.set_cons_zero])
    | (refine steps_skip rfl ?_; simp only [Act.put, List.setIfInBounds_toArray, List.set_cons_succ, List.set_cons_zero])
    | (refine steps_guard_and rfl rfl rfl rfl rfl ?_; simp only [Act.put, List.setIfInBounds_toArray, List.set_cons_succ, List.set_cons_zero])
    | (refine steps_guard (v := ?_) rfl rfl (fun hb w' hS => ?_) ?_; rotate_left; (focus (have k0 := ext_cell c0 hS; have k1 := ext_cell d0 hS; unfold Gives; go_simp; first | exact is_mk hS | (refine (named_any s _ HS.out).mono ?_; rintro e w'' ⟨rfl, h2⟩; exact gave_mk (ext_trans hS h2)) | (refine (containsRules_any l (fun r => r.name.toList == s.toList) 56 #[.pointer (some ⟨w.heap.size, 0, none⟩)] a cap n _ HN.out HNC.out HCM.out (HL.out.ext (ext_trans HE.out hS)) (enters_of Tryz.func56 (by kernel_rfl) rfl) (fun r _ pa pc w' hE' => sameName_any r pa pc s _ w' (ext_cell (ext_cell d0 hS) hE'))).mono ?_; rintro e w'' ⟨rfl, h2⟩; exact gave_mk (ext_trans hS h2)))); simp only [Act.put, List.setIfInBounds_toArray, List.set_cons_succ, List.set_cons_zero])
    | (refine steps_guard2 (v := ?_) rfl rfl rfl (fun hb1 hb w' hS => ?_) ?_; rotate_left; (focus (have k0 := ext_cell c0 hS; have k1 := ext_cell d0 hS; unfold Gives; go_simp; first | exact is_mk hS | (refine (named_any s _ HS.out).mono ?_; rintro e w'' ⟨rfl, h2⟩; exact gave_mk (ext_trans hS h2)) | (refine (containsRules_any l (fun r => r.name.toList == s.toList) 56 #[.pointer (some ⟨w.heap.size, 0, none⟩)] a cap n _ HN.out HNC.out HCM.out (HL.out.ext (ext_trans HE.out hS)) (enters_of Tryz.func56 (by kernel_rfl) rfl) (fun r _ pa pc w' hE' => sameName_any r pa pc s _ w' (ext_cell (ext_cell d0 hS) hE'))).mono ?_; rintro e w'' ⟨rfl, h2⟩; exact gave_mk (ext_trans hS h2)))); simp only [Act.put, List.setIfInBounds_toArray, List.set_cons_succ, List.set_cons_zero])
    | (refine steps_run (v := ?_) rfl (fun w' hS => ?_) ?_; rotate_left; (focus (have k0 := ext_cell c0 hS; have k1 := ext_cell d0 hS; unfold Gives; go_simp; first | exact is_mk hS | (refine (named_any s _ HS.out).mono ?_; rintro e w'' ⟨rfl, h2⟩; exact gave_mk (ext_trans hS h2)) | (refine (containsRules_any l (fun r => r.name.toList == s.toList) 56 #[.pointer (some ⟨w.heap.size, 0, none⟩)] a cap n _ HN.out HNC.out HCM.out (HL.out.ext (ext_trans HE.out hS)) (enters_of Tryz.func56 (by kernel_rfl) rfl) (fun r _ pa pc w' hE' => sameName_any r pa pc s _ w' (ext_cell (ext_cell d0 hS) hE'))).mono ?_; rintro e w'' ⟨rfl, h2⟩; exact gave_mk (ext_trans hS h2)))); simp only [Act.put, List.setIfInBounds_toArray, List.set_cons_succ, List.set_cons_zero])
  refine steps_end fun w' hE' => ?_
  rw [show (ruleName s.data.toList && !l.any fun r => r.name.toList == s.toList) = nameFits l s from by
    unfold nameFits memB
    rw [List.any_map]
    congr 2
    congr 1
    funext r
    simp only [Function.comp, Lib.toList_data]]
  go_wp2_with fail
  go_ret
  exact ⟨rfl, ext_trans HE.out hE'⟩
end Go.Proofs.YteemkkmkkgfofaaGreatDoor
namespace Go.Proofs.YteemkkmkkgfofaaGreatDoor
open Go.RowKit Nam Pol Go.Maps
attribute [local go_sem] gv_of

/-- The rule that is read lies in box xb. -/
def XB (w : World) (xb : Nat) (nm : ByteArray) (al : Bool) (pv : Value) (k l m p : Int) : Prop :=
  w.heap[xb]? = some (.cells #[.string nm, .bool al, pv, .int .u64 k, .int .i64 l, .int .i64 m, .int .i64 p] 40 (0, 0))
section
variable {w : World} {xb : Nat} {nm : ByteArray} {al : Bool} {pv : Value} {k l m p : Int}
theorem XB.lt (h : XB w xb nm al pv k l m p) : xb < w.heap.size := (Array.getElem?_eq_some_iff.1 h).1
theorem XB.frozen (h : XB w xb nm al pv k l m p) (j : Nat) : w.frozen? ⟨xb, j, none⟩ = false := frozen_of_row w xb j _ _ h
theorem XB.c0 (h : XB w xb nm al pv k l m p) : w.cell? ⟨xb, 0, none⟩ = some (.string nm) := by unfold XB at h; simp [World.cell?, h]
theorem XB.c1 (h : XB w xb nm al pv k l m p) : w.cell? ⟨xb, 1, none⟩ = some (.bool al) := by unfold XB at h; simp [World.cell?, h]
theorem XB.c2 (h : XB w xb nm al pv k l m p) : w.cell? ⟨xb, 2, none⟩ = some pv := by unfold XB at h; simp [World.cell?, h]
theorem XB.c3 (h : XB w xb nm al pv k l m p) : w.cell? ⟨xb, 3, none⟩ = some (.int .u64 k) := by unfold XB at h; simp [World.cell?, h]
theorem XB.c4 (h : XB w xb nm al pv k l m p) : w.cell? ⟨xb, 4, none⟩ = some (.int .i64 l) := by unfold XB at h; simp [World.cell?, h]
theorem XB.c5 (h : XB w xb nm al pv k l m p) : w.cell? ⟨xb, 5, none⟩ = some (.int .i64 m) := by unfold XB at h; simp [World.cell?, h]
theorem XB.c6 (h : XB w xb nm al pv k l m p) : w.cell? ⟨xb, 6, none⟩ = some (.int .i64 p) := by unfold XB at h; simp [World.cell?, h]
theorem XB.fr {S : Nat → Prop} {w' : World} (h : XB w xb nm al pv k l m p) (hF : Fr S w w') (hs : ¬ S xb) : XB w' xb nm al pv k l m p := (hF.block xb h.lt hs).trans h
theorem XB.s0 (h : XB w xb nm al pv k l m p) (x : ByteArray) : XB (w.setCell ⟨xb, 0, none⟩ (.string x)) xb x al pv k l m p := (heap_setCell_same w xb 0 _ _ _ h).trans (by simp)
theorem XB.s1 (h : XB w xb nm al pv k l m p) (x : Bool) : XB (w.setCell ⟨xb, 1, none⟩ (.bool x)) xb nm x pv k l m p := (heap_setCell_same w xb 1 _ _ _ h).trans (by simp)
theorem XB.s2 (h : XB w xb nm al pv k l m p) (x : Value) : XB (w.setCell ⟨xb, 2, none⟩ x) xb nm al x k l m p := (heap_setCell_same w xb 2 _ _ _ h).trans (by simp)
theorem XB.s3 (h : XB w xb nm al pv k l m p) (x : Int) : XB (w.setCell ⟨xb, 3, none⟩ (.int .u64 x)) xb nm al pv x l m p := (heap_setCell_same w xb 3 _ _ _ h).trans (by simp)
theorem XB.s4 (h : XB w xb nm al pv k l m p) (x : Int) : XB (w.setCell ⟨xb, 4, none⟩ (.int .i64 x)) xb nm al pv k x m p := (heap_setCell_same w xb 4 _ _ _ h).trans (by simp)
theorem XB.s5 (h : XB w xb nm al pv k l m p) (x : Int) : XB (w.setCell ⟨xb, 5, none⟩ (.int .i64 x)) xb nm al pv k l x p := (heap_setCell_same w xb 5 _ _ _ h).trans (by simp)
theorem XB.s6 (h : XB w xb nm al pv k l m p) (x : Int) : XB (w.setCell ⟨xb, 6, none⟩ (.int .i64 x)) xb nm al pv k l m x := (heap_setCell_same w xb 6 _ _ _ h).trans (by simp)
theorem XB.new (w : World) (nm : ByteArray) (al : Bool) (pv : Value) (k l m p : Int) : XB (w.alloc (Obj.cells #[.string nm, .bool al, pv, .int .u64 k, .int .i64 l, .int .i64 m, .int .i64 p] 40)) w.heap.size nm al pv k l m p := World.alloc_heap_new w _
end
/-- What holds as long as the reader's box alone is written. -/
structure Kept (rb : Nat) (w : World) (la : Option Addr) (ahead : List Rul) : Prop where
  ruls : ∀ w', Fr (· = rb) w w' → Ruls w' la ahead
  syn : ∀ w', Fr (· = rb) w w' → VarI "strconv.ErrSyntax" w'
  rng : ∀ w', Fr (· = rb) w w' → VarI "strconv.ErrRange" w'
theorem Kept.fr {rb : Nat} {w w' : World} {la : Option Addr} {ahead : List Rul} (h : Kept rb w la ahead) (hF : Fr (· = rb) w w') : Kept rb w' la ahead :=
  ⟨fun v hv => h.ruls v (hF.trans hv), fun v hv => h.syn v (hF.trans hv), fun v hv => h.rng v (hF.trans hv)⟩
theorem rul_tok {T : List Tok} {ahead : List Rul} (h1 : ((hdT T).toList == tAllow.toList) = false) (h2 : ((hdT T).toList == tRefuse.toList) = false) : ruleP ahead T = wrong T := by
  unfold ruleP
  rw [if_neg]
  rintro (h | h)
  · rw [tok_eq.2 h] at h1; cases h1
  · rw [tok_eq.2 h] at h2; cases h2
end Go.Proofs.YteemkkmkkgfofaaGreatDoor
