/- Walk: audit.Owner: a range over a name and all above it, within it one over the events from the last on. -/
import Derived.Test.YtjjkonaopmipoaaDoorAuC
namespace Go.Proofs.YtjjkonaopmipoaaDoor
open Go.RowKit Nam Aud
attribute [local go_sem] Oper.semAt_some wide_fn wide_depth wide_some

/-- Who had the first of some names that somebody had. -/
def ownerL (l : List Ev) (now : Int) : List Str → ByteArray
  | [] => ⟨#[]⟩
  | x :: r => match lastHit ⟨x.toArray⟩ now l with
    | some who => who
    | none => ownerL l now r
theorem ownerL_self (l : List Ev) (now : Int) : ∀ (n : Nat) (s : Str), s.length ≤ n → ownerL l now (selfL s) = ownerB l s now
  | 0, s, h => by
    have : s = [] := List.eq_nil_of_length_eq_zero (by omega)
    subst this; rfl
  | n + 1, s, h => by
    by_cases hs : s = []
    · subst hs; rfl
    · unfold selfL; rw [if_neg hs, aboveL_self]
      show (match lastHit ⟨s.toArray⟩ now l with
        | some who => who
        | none => ownerL l now (selfL (up s))) = _
      cases hh : lastHit ⟨s.toArray⟩ now l with
      | some x => exact (ownerB_hit hs hh).symm
      | none =>
        show ownerL l now (selfL (up s)) = _
        rw [ownerB_up hs hh]
        refine ownerL_self l now n _ ?_
        by_cases hu : up s = []
        · rw [hu]; simp
        · have := up_lt s hu; omega
theorem ownerL_drop {l : List Ev} {now : Int} {L : List Str} {k : Nat} {x : Str} (hx : L[k]? = some x) : ownerL l now (L.drop k) = match lastHit ⟨x.toArray⟩ now l with
    | some who => who
    | none => ownerL l now (L.drop (k + 1)) := by
  obtain ⟨h1, h2⟩ := List.getElem?_eq_some_iff.1 hx
  rw [List.drop_eq_getElem_cons h1, h2]; rfl
/-- The search from the end: behind place j nothing was met; here is something, or nothing. -/
theorem last_hit {A : ByteArray} {now : Int} {l : List Ev} {j : Nat} {e : Ev} (he : l[j]? = some e) (h : lastHit A now (l.drop (j + 1)) = none) (hh : hits A now e = true) : lastHit A now l = some e.who := by
  obtain ⟨h1, h2⟩ := List.getElem?_eq_some_iff.1 he
  have hsp : l = l.take j ++ e :: l.drop (j + 1) := by rw [← h2, ← List.drop_eq_getElem_cons h1, List.take_append_drop]
  have := lastHit_back A now (l.take j) e _ h
  rw [← hsp, if_pos hh] at this; exact this
theorem last_miss {A : ByteArray} {now : Int} {l : List Ev} {j : Nat} {e : Ev} (he : l[j]? = some e) (h : lastHit A now (l.drop (j + 1)) = none) (hh : hits A now e = false) : lastHit A now (l.drop j) = none := by
  obtain ⟨h1, h2⟩ := List.getElem?_eq_some_iff.1 he
  rw [List.drop_eq_getElem_cons h1, h2]
  show (match lastHit A now (l.drop (j + 1)) with
    | some x => some x
    | none => if hits A now e then some e.who else none) = none
  rw [h, hh]; rfl
theorem evs_fr {S : Nat → Prop} {w w' : World} {a : Option Addr} {l : List Ev} (h : Evs w a l) (hf : Fr S w w') (hs : ∀ k o, a = some ⟨k, o, none⟩ → k < w.heap.size → ¬ S k) : Evs w' a l := fun i x hx => by
  obtain ⟨blk, off, hab, r0, r1, r2, r3, r4, r5⟩ := h i x hx
  have hbk : ∀ o v, w.cell? ⟨blk, o, none⟩ = some v → w'.cell? ⟨blk, o, none⟩ = some v := fun o v h => (hf.cell (cell_lt h) (hs _ _ hab (cell_lt h))).trans h
  exact ⟨blk, off, hab, hbk _ _ r0, hbk _ _ r1, hbk _ _ r2, hbk _ _ r3, hbk _ _ r4, hbk _ _ r5⟩
theorem evs_lt {w : World} {a : Option Addr} {l : List Ev} (h : Evs w a l) (hne : l ≠ []) {k o : Nat} (ha : a = some ⟨k, o, none⟩) : k < w.heap.size := by
  obtain ⟨e, he⟩ := get_some (l := l) (n := l.length) rfl (k := 0) (List.length_pos_iff.2 hne)
  obtain ⟨blk, off, hab, r0, _⟩ := h 0 e he
  rw [ha] at hab; cases hab
  exact cell_lt r0
theorem Fr.step {S T : Nat → Prop} {A B C : World} (h : Fr S A B) (k : Fr T B C) (hT : ∀ i, i < A.heap.size → T i → S i) : Fr S A C :=
  ⟨k.os.trans h.os, k.tape.trans h.tape, k.output.trans h.output, Nat.le_trans h.size k.size,
   fun i hi hs => (k.block i (Nat.lt_of_lt_of_le hi h.size) (fun t => hs (hT i hi t))).trans (h.block i hi hs)⟩
theorem evAt_block {w w' : World} {b : Nat} {e : Ev} (h : EvAt w b 0 e) (hb : w'.heap[b]? = w.heap[b]?) : EvAt w' b 0 e := by
  have hc : ∀ o, w'.cell? ⟨b, o, none⟩ = w.cell? ⟨b, o, none⟩ := fun o => World.cell?_of_block hb
  obtain ⟨r0, r1, r2, r3, r4, r5⟩ := h
  exact ⟨(hc _).trans r0, (hc _).trans r1, (hc _).trans r2, (hc _).trans r3, (hc _).trans r4, (hc _).trans r5⟩
theorem evAt_new (w : World) (e : Ev) : EvAt (w.alloc (Obj.cells #[.int .i64 e.kind, .int .i64 e.at_, .string e.who, .string e.name, .int .i64 e.n, .int .i64 e.m] 100)) w.heap.size 0 e :=
  ⟨by simp [go_sem], by simp [go_sem], by simp [go_sem], by simp [go_sem], by simp [go_sem], by simp [go_sem]⟩
set_option maxRecDepth 100000 in
set_option maxHeartbeats 4000000 in
theorem aOwner_any (l : List Ev) (s : ByteArray) (now : Int) (a : Option Addr) (cap n : Nat) (w : World) (hn : l.length = n) (hnm : n ≤ maxLen) (hl : Evs w a l) (hs : s.size ≤ 9223372036854775807) (hw : Env w) :
    Calls Tryd.prog 15 #[.slice a n cap, .string s, .int .i64 now] w (Ret (.string (ownerB l s.data.toList now)) w) := by
  refine (callsIn_wide (n := 0)).1 ?_
  refine callsIn_of_wp_marks Tryd.func15 rfl trivial ?_ rfl
  simp only [Tryd.ntmps15, List.size_toArray, List.length_cons, List.length_nil, Nat.reduceAdd, Nat.reduceSub, Array.replicate_succ, Array.replicate_zero, List.push_toArray, List.append_toArray, List.nil_append, List.cons_append]
  have HW := Lib.hid hw; have HL := Lib.hid hl; have HN := Lib.hid hn; clear hw hl hn
  gi_wp2_with (gi_at_call 39; refine (callsIn_wide.2 (aabove_any _ _)).mono ?_; rintro e w' ⟨rfl, rfl⟩)
  obtain ⟨W0, hW0⟩ : ∃ W0, ((((w.alloc (Obj.cells #[Value.slice a n cap] 60)).alloc (Obj.cells #[Value.int .i64 now] 3)).alloc (Obj.cells #[Value.string ⟨#[]⟩] 9)).alloc (Obj.cells #[Value.string s] 9)) = W0 := ⟨_, rfl⟩
  have hB : Below w.heap.size w W0 := by rw [← hW0]; exact ((((Below.refl _ _).alloc (Nat.le_refl _) _).alloc (by simp) _).alloc (by simp; omega) _).alloc (by simp; omega) _
  have b0 : Boxed W0 w.heap.size 60 (.slice a n cap) := by rw [← hW0]; exact (((Boxed.new _ _ _).alloc _).alloc _).alloc _
  have b1 : Boxed W0 (w.heap.size + 1) 3 (.int .i64 now) := by rw [← hW0]; have := ((Boxed.new (w.alloc (Obj.cells #[Value.slice a n cap] 60)) 3 (.int .i64 now)).alloc (Obj.cells #[Value.string ⟨#[]⟩] 9)).alloc (Obj.cells #[Value.string s] 9); rwa [World.size_alloc] at this
  have b2 : Boxed W0 (w.heap.size + 1 + 1) 9 (.string ⟨#[]⟩) := by rw [← hW0]; have := (Boxed.new ((w.alloc (Obj.cells #[Value.slice a n cap] 60)).alloc (Obj.cells #[Value.int .i64 now] 3)) 9 (.string ⟨#[]⟩)).alloc (Obj.cells #[Value.string s] 9); rwa [World.size_alloc, World.size_alloc] at this
  have b3 : Boxed W0 (w.heap.size + 1 + 1 + 1) 9 (.string s) := by rw [← hW0]; have := Boxed.new (((w.alloc (Obj.cells #[Value.slice a n cap] 60)).alloc (Obj.cells #[Value.int .i64 now] 3)).alloc (Obj.cells #[Value.string ⟨#[]⟩] 9)) 9 (.string s); rwa [World.size_alloc, World.size_alloc, World.size_alloc] at this
  have hz : W0.heap.size = w.heap.size + 4 := by rw [← hW0]; simp
  have hg : 0 < w.heap.size := by obtain ⟨m, hm⟩ := HW.out; exact cell_lt hm
  rw [hW0]
  clear hW0
  have Hz := Lib.hid hz; clear hz
  have hz := Hz.out
  refine range_lawL rfl (enters_of Tryd.func54 (by kernel_rfl) rfl) (aabove_iter s (w.heap.size + 1 + 1 + 1) hs)
    (fun o1 o2 => ⟨(b3.alloc _).alloc _, (HW.out.ext hB).ext (((Below.refl _ _).alloc (Nat.le_refl _) _).alloc (by simp) _), by omega⟩) (fun b hb => by omega) (fun b hb => by omega) (fun x => rfl)
    (fun b => b = w.heap.size + 1 + 1) (fun b hb => by omega) (fun b hb => by omega)
    (fun k W => ownerL l now ((selfL s.data.toList).drop k) = ownerB l s.data.toList now ∧ Boxed W w.heap.size 60 (.slice a n cap) ∧ Boxed W (w.heap.size + 1) 3 (.int .i64 now) ∧ Boxed W (w.heap.size + 1 + 1) 9 (.string ⟨#[]⟩) ∧ Below w.heap.size w W)
    (fun c k W => c = .ret ∧ Boxed W (w.heap.size + 1 + 1) 9 (.string (ownerB l s.data.toList now)) ∧ Below w.heap.size w W)
    ?stI ?stX ⟨ownerL_self l now _ _ (Nat.le_refl _), b0, b1, b2, hB⟩ ?round ?done ?stop
  case stI =>
    intro k A B ⟨h1, h2, h3, h4, h5⟩ hf
    exact ⟨h1, hf.boxed h2 (by omega), hf.boxed h3 (by omega), hf.boxed h4 (by omega), h5.trans (hf.below h5.size (by omega))⟩
  case stX =>
    intro c k A B ⟨h0, h1, h2⟩ hf
    exact ⟨h0, hf.boxed h1 (by omega), h2.trans (hf.below h2.size (by omega))⟩
  case round =>
    rintro lo k x W hx rfl hW ⟨hi1, hi2, hi3, hi4, hi5⟩
    obtain ⟨X, hX⟩ : ∃ X : ByteArray, ⟨x.toArray⟩ = X := ⟨_, rfl⟩
    have HD := Lib.hid (ownerL_drop (l := l) (now := now) hx)
    have HI1 := Lib.hid hi1
    clear hx hz hi1
    unfold encStr
    rw [hX] at HD ⊢
    have HX := Lib.hid hX; clear hX
    gi_wp2
    have hFa : Fr (fun b => b = w.heap.size + 1 + 1) W (W.alloc (Obj.cells #[Value.string X] 9)) := Fr.alloc _ _ _
    refine ⟨hFa, ⟨HI1.out, hi2.alloc _, hi3.alloc _, hi4.alloc _, ext_alloc hi5 _⟩, ?_⟩
    have hxb : Boxed (W.alloc (Obj.cells #[Value.string X] 9)) W.heap.size 9 (.string X) := Boxed.new _ _ _
    rintro Wb ⟨r, hr⟩ ⟨j1, j2, j3, j4, j5⟩ hf hzz
    have hxb := hf.boxed hxb (by omega)
    have hzb : W.heap.size < Wb.heap.size := by rw [hzz]; simp
    have hsz := hi5.size
    have HEV : Hid (Evs Wb a l) := Lib.hid (HL.out.ext j5)
    have J1 := Lib.hid j1; clear j1
    have d0 := j2.cell
    have J2 := Lib.hid j2; have J3 := Lib.hid j3; have J4 := Lib.hid j4; have J5 := Lib.hid j5; have HR := Lib.hid hr; have HXB := Lib.hid hxb
    clear j2 j3 j4 j5 hr hxb hi2 hi3 hi4 hi5 hf hzz hFa
    gi_wp2_with (gi_at_call 40; refine (callsIn_wide.2 (bkEv_any _ _ _ _)).mono ?_; rintro e w' ⟨rfl, rfl⟩)
    obtain ⟨W2, hW2⟩ : ∃ W2, Wb.alloc (Obj.cells #[Value.slice a n cap] 60) = W2 := ⟨_, rfl⟩
    have h2z : W2.heap.size = Wb.heap.size + 1 := by rw [← hW2]; simp
    have hF2 : Fr (fun b => b = w.heap.size + 1 + 1) Wb W2 := by rw [← hW2]; exact Fr.alloc _ _ _
    have hE2 : Ext Wb W2 := by rw [← hW2]; exact ext_alloc (Below.refl _ _) _
    have hbx : Boxed W2 Wb.heap.size 60 (.slice a n cap) := by rw [← hW2]; exact Boxed.new _ _ _
    have hzb0 := J5.out.size
    rw [hW2]
    clear hW2
    have H2Z := Lib.hid h2z; clear h2z
    have h2z := H2Z.out
    have hrec2 := hF2.block _ (show W0.heap.size + 1 < Wb.heap.size by omega) (by have := Hz.out; omega)
    have halt : ∀ k o, l ≠ [] → a = some ⟨k, o, none⟩ → k < w.heap.size := fun k o hne ha => evs_lt HL.out hne ha
    have hzz := Hz.out
    refine range_law_in (hrec2.trans HR.out) rfl (enters_of Tryd.func55 (by kernel_rfl) rfl) (bkEv_iter l a n cap Wb.heap.size HN.out hnm)
      (fun o1 => ⟨hbx.alloc _, HEV.out.ext (ext_alloc hE2 _)⟩) (fun b hb => hb.elim) (fun b hb => by
        rcases hb with rfl | ⟨hne, o, ha⟩
        · omega
        · have := halt _ _ hne ha; omega) (fun x => rfl)
      (fun b => b = w.heap.size + 1 + 1) (fun b hb => by
        rintro (h | ⟨hne, o, ha⟩)
        · omega
        · have := halt _ _ hne ha; omega) (fun b hb => by omega)
      (fun j V => lastHit X now (l.drop (n - j)) = none ∧ Boxed V (w.heap.size + 1) 3 (.int .i64 now) ∧ Boxed V (w.heap.size + 1 + 1) 9 (.string ⟨#[]⟩) ∧ Boxed V W.heap.size 9 (.string X) ∧ Fr (fun b => b = w.heap.size + 1 + 1) Wb V)
      (fun c j V => c = .ret ∧ (∃ who, lastHit X now l = some who ∧ Boxed V (w.heap.size + 1 + 1) 9 (.string who)) ∧ Fr (fun b => b = w.heap.size + 1 + 1) Wb V)
      ?stI2 ?stX2 ⟨by rw [Nat.sub_zero, ← HN.out, List.drop_length]; rfl, ext_boxed hE2 J3.out, ext_boxed hE2 J4.out, ext_boxed hE2 HXB.out, hF2⟩ ?round2 ?done2 ?stop2
    case stI2 =>
      intro k A B ⟨h1, h2, h3, h4, h5⟩ hf
      have hfs := h5.size
      have hne : ∀ b, b < Wb.heap.size → ¬ (False ∨ b = W2.heap.size) := fun b hb h => h.elim (fun x => x) (fun x => by omega)
      exact ⟨h1, hf.boxed h2 (hne _ (by omega)), hf.boxed h3 (hne _ (by omega)), hf.boxed h4 (hne _ (by omega)), h5.step hf (fun i hi h => absurd h (hne i hi))⟩
    case stX2 =>
      intro c k A B ⟨h0, ⟨who, h1, h2⟩, h3⟩ hf
      have hne : ∀ b, b < Wb.heap.size → ¬ (False ∨ b = W2.heap.size) := fun b hb h => h.elim (fun x => x) (fun x => by omega)
      exact ⟨h0, ⟨who, h1, hf.boxed h2 (hne _ (by omega))⟩, h3.step hf (fun i hi h => absurd h (hne i hi))⟩
    case round2 =>
      rintro l2 j ⟨q, e⟩ V hxe rfl hV ⟨i1, i2, i3, i4, i5⟩
      obtain ⟨hq, he⟩ := backL_inv hxe
      rw [HN.out] at hq
      simp only at hq he
      have I1 := Lib.hid i1; have I2 := Lib.hid i2; have I3 := Lib.hid i3; have I4 := Lib.hid i4; have I5 := Lib.hid i5; have HE := Lib.hid he; have HQ := Lib.hid hq
      have HHX := Lib.hid hrec2
      clear hxe i1 i2 i3 i4 i5 he hq hrec2 h2z hzz hzb hsz hzb0 d0 hbx hE2 hF2
      unfold encEv evV
      gi_wp2
      have hev := evAt_new V e
      refine ⟨Fr.alloc _ _ _, ⟨I1.out, I2.out.alloc _, I3.out.alloc _, I4.out.alloc _, I5.out.step (Fr.alloc (fun _ => False) _ _) (fun _ _ h => h.elim)⟩, ?_⟩
      rintro Vb ⟨r2, hr2⟩ ⟨k1, k2, k3, k4, k5⟩ hf hzz2
      have hev := evAt_block hev (hf.block V.heap.size (by simp) (by omega))
      obtain ⟨c0, c1, c2, c3, c4, c5⟩ := hev
      simp only [Nat.zero_add] at c0 c1 c2 c3 c4 c5
      have x0 := k4.cell; have x1 := k2.cell; have x2 := k3.cell; have x3 := k3.frozen
      have K2 := Lib.hid k2; have K3 := Lib.hid k3; have K4 := Lib.hid k4; have K5 := Lib.hid k5
      clear hr2 k1 k2 k3 k4 k5 hf hzz2 hV
      have e1 : Hid (lastHit X now (l.drop (q + 1)) = none) := Lib.hid (by have := I1.out; rwa [show n - j = q + 1 by have := HQ.out; omega] at this)
      have e2 : Hid (n - (j + 1) = q) := Lib.hid (by have := HQ.out; omega)
      cases h1 : (e.kind == 1)
      all_goals cases h2 : (e.name.toList == X.toList)
      all_goals cases h3 : decide (e.at_ ≤ now)
      all_goals
        have HH := Lib.hid (show hits X now e = _ from by unfold hits; rw [h1, h2, h3])
        gi_wp2
        first
        | exact ⟨Fr.refl _ _, by rw [e2.out]; exact last_miss HE.out e1.out HH.out, K2.out, K3.out, K4.out, K5.out⟩
        | exact ⟨Fr.setCell _ _ _ rfl, rfl, ⟨_, last_hit HE.out e1.out HH.out, K3.out.set _⟩, K5.out.step (Fr.setCell (S := fun b => b = w.heap.size + 1 + 1) _ _ _ rfl) (fun _ _ h => h)⟩
    case done2 =>
      intro V ⟨i1, i2, i3, i4, i5⟩
      rw [backL_length, HN.out, Nat.sub_self] at i1
      have h1 := HD.out
      rw [show l.drop 0 = l from rfl] at i1
      rw [i1] at h1
      have HO := Lib.hid (h1.symm.trans J1.out)
      have HF := Lib.hid i5; have H3 := Lib.hid i3
      clear i1 i2 i3 i4 i5 h1
      gi_wp2
      exact ⟨HF.out, HO.out, HF.out.boxed J2.out (by omega), HF.out.boxed J3.out (by omega), H3.out, J5.out.trans (HF.out.below J5.out.size (fun k hk => by omega))⟩
    case stop2 =>
      rintro c j V hj ⟨rfl, ⟨who, i1, i2⟩, i3⟩
      have h1 := HD.out
      rw [i1] at h1
      have HO := Lib.hid (h1.symm.trans J1.out)
      have HF := Lib.hid i3; have H3 := Lib.hid i2
      clear i1 i2 i3 h1
      gi_wp2
      exact ⟨HF.out, rfl, by rw [← HO.out]; exact H3.out, J5.out.trans (HF.out.below J5.out.size (fun k hk => by omega))⟩
  case done =>
    intro W ⟨hi1, hi2, hi3, hi4, hi5⟩ hK
    have hr : ownerB l s.data.toList now = ⟨#[]⟩ := by rw [List.drop_length] at hi1; exact hi1.symm
    have hc := hi4.cell; have hfz := hi4.frozen
    have HB := Lib.hid hi4; have HR := Lib.hid hr; have HK := Lib.hid hK
    clear hi1 hi2 hi3 hi4 hr hK hz b0 b1 b2 b3 hB
    gi_wp2
    have hk2 : (W.setCell ⟨w.heap.size + 1 + 1, 0, none⟩ (.string ⟨#[]⟩)).heap[W0.heap.size]? = some (.deferred (some [])) := (Below.heap_setCell _ _ _ _ (by have := Hz.out; simp; omega)).trans HK.out
    have hq := boxed_putObj (HB.out.set (.string ⟨#[]⟩)) (D := W0.heap.size) (by have := Hz.out; omega) (.deferred none)
    have hqc := hq.cell
    refine leave_mark hk2 (v := .string ⟨#[]⟩) (by simp [results, Tryd.results15, go_sem, hqc]) ⟨by rw [HR.out], ?_⟩
    exact below_putObj (hi5.setCell (p := ⟨w.heap.size + 1 + 1, 0, none⟩) (by simp; omega) _) (by have := Hz.out; omega) (by have := hi5.size; simp [World.setCell]; omega) _
  case stop =>
    rintro c k W hk ⟨rfl, hi1, hi2⟩ hK
    have hq := boxed_putObj hi1 (D := W0.heap.size) (by have := Hz.out; omega) (.deferred none)
    have hqc := hq.cell
    have HK := Lib.hid hK; have HQ := Lib.hid hqc
    clear hi1 hK hz b0 b1 b2 b3 hB hqc
    gi_wp2
    have hqc := HQ.out
    refine leave_mark HK.out (v := .string (ownerB l s.data.toList now)) (by simp [results, Tryd.results15, go_sem, hqc]) ⟨rfl, ?_⟩
    exact below_putObj hi2 (by have := Hz.out; omega) (by have := hi2.size; omega) _
end Go.Proofs.YtjjkonaopmipoaaDoor
